/- FrameSmuggles returns true, whatever its arguments. -/
import Derived.Test.YtmijkefdnfmpiaaDoorFrameLengths
namespace Go.Proofs.YtmijkefdnfmpiaaDoor.FrameSmugglesP
open Go.RowKit
open FrameLengthsP (step_ rd_put rd_two capCL cap_1 cap_2)

def capTE : List UInt8 := [84, 114, 97, 110, 115, 102, 101, 114, 45, 69, 110, 99, 111, 100, 105, 110, 103]
def mixTE : List UInt8 := [116, 114, 97, 110, 115, 102, 101, 114, 45, 69, 110, 99, 111, 100, 105, 110, 103]
def mixCL : List UInt8 := [67, 79, 78, 84, 69, 78, 84, 45, 108, 101, 110, 103, 116, 104]
def gzipChunked : List UInt8 := [103, 122, 105, 112, 44, 32, 99, 104, 117, 110, 107, 101, 100]
/-- The eight heads. -/
def rows (a b : List UInt8) : Nat → List (List UInt8 × List UInt8)
  | 0 => [(capCL, a), (mixCL, b)]
  | 1 => [(capTE, chunkedL), (nameCL, a)]
  | 2 => [(mixTE, chunkedL), (capTE, chunkedL)]
  | 3 => [(capTE, gzipChunked)]
  | 4 => [(capCL, [43, 53])]
  | 5 => [(capCL, [53, 44, 32, 53])]
  | 6 => [(capCL, [])]
  | _ => [(capCL, [49, 48, 57, 57, 53, 49, 49, 54, 50, 55, 55, 55, 55])]
theorem m1 : sameL mixCL nameTE = false := by decide
theorem m2 : sameL mixCL nameCL = true := by decide
theorem m3 : sameL capTE nameTE = true := by decide
theorem m4 : sameL capTE nameCL = false := by decide
theorem m5 : sameL mixTE nameTE = true := by decide
theorem m6 : sameL mixTE nameCL = false := by decide
theorem m7 : sameL gzipChunked chunkedL = false := by decide
theorem rows_err (a b : List UInt8) (q : Nat) (minor : Int) (o : Nat) : (frOf (rows a b q) minor o).2.2 = 2 := by
  rcases q with _ | _ | _ | _ | _ | _ | _ | q
  · show (frOf [(capCL, a), (mixCL, b)] minor o).2.2 = 2
    unfold frOf getL; simp [cap_1, cap_2, m1, m2, toldL]
  · show (frOf [(capTE, chunkedL), (nameCL, a)] minor o).2.2 = 2
    unfold frOf getL; simp [m3, m4, nm_1, nm_2, toldL]
  · show (frOf [(mixTE, chunkedL), (capTE, chunkedL)] minor o).2.2 = 2
    unfold frOf getL; simp [m3, m4, m5, m6, toldL]
  · show (frOf [(capTE, gzipChunked)] minor o).2.2 = 2
    unfold frOf getL; simp [m3, m4, m7, toldL]
  · show (frOf [(capCL, [43, 53])] minor o).2.2 = 2
    rw [frOf_one _ _ _ _ cap_1 cap_2, show numL [43, 53] = (0, false) by decide]; rfl
  · show (frOf [(capCL, [53, 44, 32, 53])] minor o).2.2 = 2
    rw [frOf_one _ _ _ _ cap_1 cap_2, show numL [53, 44, 32, 53] = (0, false) by decide]; rfl
  · show (frOf [(capCL, [])] minor o).2.2 = 2
    rw [frOf_one _ _ _ _ cap_1 cap_2, show numL [] = (0, false) by decide]; rfl
  · show (frOf [(capCL, [49, 48, 57, 57, 53, 49, 49, 54, 50, 55, 55, 55, 55])] minor o).2.2 = 2
    rw [frOf_one _ _ _ _ cap_1 cap_2, show numL [49, 48, 57, 57, 53, 49, 49, 54, 50, 55, 55, 55, 55] = (1099511627777, false) by decide]; rfl
theorem chunk_err (o : Nat) : (frOf [(capTE, chunkedL)] 0 o).2.2 = 2 := by
  unfold frOf getL; simp [m3, m4, toldL]

/-- Several objects laid, one behind the other. -/
def allocs : World → List Obj → World
  | w, [] => w
  | w, o :: os => allocs (w.alloc o) os
theorem allocs_size : ∀ (os : List Obj) (w : World), (allocs w os).heap.size = w.heap.size + os.length
  | [], w => rfl
  | o :: os, w => by
    show (allocs (w.alloc o) os).heap.size = _
    rw [allocs_size os]; simp; omega
theorem allocs_below : ∀ (os : List Obj) (w : World), Below w.heap.size w (allocs w os)
  | [], w => Below.refl _ _
  | o :: os, w => ((Below.refl _ w).alloc (Nat.le_refl _) o).trans ((allocs_below os (w.alloc o)).mono (by simp))
theorem allocs_cell : ∀ (os : List Obj) (w : World) (i j : Nat) (cs : Array Value) (e : TypeId), os[i]? = some (.cells cs e) → (allocs w os).cell? ⟨w.heap.size + i, j, none⟩ = cs[j]?
  | [], w, i, j, cs, e, h => by simp at h
  | o :: os, w, 0, j, cs, e, h => by
    simp only [List.getElem?_cons_zero, Option.some.injEq] at h
    subst h
    show (allocs (w.alloc _) os).cell? ⟨w.heap.size, j, none⟩ = _
    rw [(allocs_below os (w.alloc (.cells cs e))).cell (p := ⟨w.heap.size, j, none⟩) (by simp), World.cell?_alloc_new]
  | o :: os, w, i + 1, j, cs, e, h => by
    rw [List.getElem?_cons_succ] at h
    have := allocs_cell os (w.alloc o) i j cs e h
    have hs : (w.alloc o).heap.size = w.heap.size + 1 := by simp
    rw [hs, show w.heap.size + 1 + i = w.heap.size + (i + 1) by omega] at this
    exact this
theorem allocs_rd (os : List Obj) (w : World) (i n size : Nat) (cs : Array Value) (e : TypeId) (h : os[i]? = some (.cells cs e)) (hl : cs.size = n * size) :
    Rd (allocs w os) (allocs w os).heap.size size (some ⟨w.heap.size + i, 0, none⟩) n cs.toList := by
  have hi : i < os.length := (List.getElem?_eq_some_iff.1 h).1
  refine ⟨by simpa using hl, .inr ⟨_, rfl, by rw [allocs_size]; simp; omega, fun j u hu => ?_⟩⟩
  rw [Addr.add_lit, Nat.zero_add, allocs_cell os w i j cs e h]
  simpa using hu
def objs (w : World) (a b : ByteArray) : List Obj := [.cells #[.string ⟨#[67, 111, 110, 116, 101, 110, 116, 45, 76, 101, 110, 103, 116, 104]⟩, .string a, .string ⟨#[67, 79, 78, 84, 69, 78, 84, 45, 108, 101, 110, 103, 116, 104]⟩, .string b] 37, .cells #[.string ⟨#[84, 114, 97, 110, 115, 102, 101, 114, 45, 69, 110, 99, 111, 100, 105, 110, 103]⟩, .string ⟨#[99, 104, 117, 110, 107, 101, 100]⟩, .string ⟨#[99, 111, 110, 116, 101, 110, 116, 45, 108, 101, 110, 103, 116, 104]⟩, .string a] 37, .cells #[.string ⟨#[116, 114, 97, 110, 115, 102, 101, 114, 45, 69, 110, 99, 111, 100, 105, 110, 103]⟩, .string ⟨#[99, 104, 117, 110, 107, 101, 100]⟩, .string ⟨#[84, 114, 97, 110, 115, 102, 101, 114, 45, 69, 110, 99, 111, 100, 105, 110, 103]⟩, .string ⟨#[99, 104, 117, 110, 107, 101, 100]⟩] 37, .cells #[.string ⟨#[84, 114, 97, 110, 115, 102, 101, 114, 45, 69, 110, 99, 111, 100, 105, 110, 103]⟩, .string ⟨#[103, 122, 105, 112, 44, 32, 99, 104, 117, 110, 107, 101, 100]⟩] 37, .cells #[.string ⟨#[67, 111, 110, 116, 101, 110, 116, 45, 76, 101, 110, 103, 116, 104]⟩, .string ⟨#[43, 53]⟩] 37, .cells #[.string ⟨#[67, 111, 110, 116, 101, 110, 116, 45, 76, 101, 110, 103, 116, 104]⟩, .string ⟨#[53, 44, 32, 53]⟩] 37, .cells #[.string ⟨#[67, 111, 110, 116, 101, 110, 116, 45, 76, 101, 110, 103, 116, 104]⟩, .string ⟨#[]⟩] 37, .cells #[.string ⟨#[67, 111, 110, 116, 101, 110, 116, 45, 76, 101, 110, 103, 116, 104]⟩, .string ⟨#[49, 48, 57, 57, 53, 49, 49, 54, 50, 55, 55, 55, 55]⟩] 37, .cells #[.slice (some ⟨w.heap.size, 0, none⟩) 2 2, .slice (some ⟨w.heap.size + 1, 0, none⟩) 2 2, .slice (some ⟨w.heap.size + 1 + 1, 0, none⟩) 2 2, .slice (some ⟨w.heap.size + 1 + 1 + 1, 0, none⟩) 1 1, .slice (some ⟨w.heap.size + 1 + 1 + 1 + 1, 0, none⟩) 1 1, .slice (some ⟨w.heap.size + 1 + 1 + 1 + 1 + 1, 0, none⟩) 1 1, .slice (some ⟨w.heap.size + 1 + 1 + 1 + 1 + 1 + 1, 0, none⟩) 1 1, .slice (some ⟨w.heap.size + 1 + 1 + 1 + 1 + 1 + 1 + 1, 0, none⟩) 1 1] 38]
theorem objs_at (w : World) (a b : ByteArray) (q : Nat) (hq : q < 8) : ∃ g n, (allocs w (objs w a b)).cell? ⟨w.heap.size + 8, q, none⟩ = some (.slice (some ⟨g, 0, none⟩) n n) ∧ n ≤ 2 ∧
    Rd (allocs w (objs w a b)) (allocs w (objs w a b)).heap.size 2 (some ⟨g, 0, none⟩) n (fcells (rows a.data.toList b.data.toList q)) := by
  have h8 := fun j => allocs_cell (objs w a b) w 8 j _ _ rfl
  rcases q with _ | _ | _ | _ | _ | _ | _ | _ | q
  · exact ⟨_, 2, by rw [h8]; rfl, by omega, allocs_rd (objs w a b) w 0 2 2 _ _ rfl rfl⟩
  · exact ⟨_, 2, by rw [h8]; rfl, by omega, allocs_rd (objs w a b) w 1 2 2 _ _ rfl rfl⟩
  · exact ⟨_, 2, by rw [h8]; rfl, by omega, allocs_rd (objs w a b) w 2 2 2 _ _ rfl rfl⟩
  · exact ⟨_, 1, by rw [h8]; rfl, by omega, allocs_rd (objs w a b) w 3 1 2 _ _ rfl rfl⟩
  · exact ⟨_, 1, by rw [h8]; rfl, by omega, allocs_rd (objs w a b) w 4 1 2 _ _ rfl rfl⟩
  · exact ⟨_, 1, by rw [h8]; rfl, by omega, allocs_rd (objs w a b) w 5 1 2 _ _ rfl rfl⟩
  · exact ⟨_, 1, by rw [h8]; rfl, by omega, allocs_rd (objs w a b) w 6 1 2 _ _ rfl rfl⟩
  · exact ⟨_, 1, by rw [h8]; rfl, by omega, allocs_rd (objs w a b) w 7 1 2 _ _ rfl rfl⟩
  · omega
theorem rows_ok (a b : List UInt8) (q : Nat) (ha : a.length ≤ 100) (hb : b.length ≤ 100) : fsOk (rows a b q) := by
  have h1 : ∀ l ∈ [capCL, mixCL, capTE, mixTE, nameCL, chunkedL, gzipChunked, [43, 53], [53, 44, 32, 53], [], [49, 48, 57, 57, 53, 49, 49, 54, 50, 55, 55, 55, 55]], l.length ≤ 1000000 := by decide
  rcases q with _ | _ | _ | _ | _ | _ | _ | q <;> intro f hf
  · rcases List.mem_cons.1 (show f ∈ [(capCL, a), (mixCL, b)] from hf) with rfl | hf
    · exact ⟨h1 _ (by simp), show a.length ≤ 1000000 by omega⟩
    · obtain rfl := List.mem_singleton.1 hf; exact ⟨h1 _ (by simp), show b.length ≤ 1000000 by omega⟩
  · rcases List.mem_cons.1 (show f ∈ [(capTE, chunkedL), (nameCL, a)] from hf) with rfl | hf
    · exact ⟨(h1 _ (by simp)), (h1 _ (by simp))⟩
    · obtain rfl := List.mem_singleton.1 hf; exact ⟨h1 _ (by simp), show a.length ≤ 1000000 by omega⟩
  · rcases List.mem_cons.1 (show f ∈ [(mixTE, chunkedL), (capTE, chunkedL)] from hf) with rfl | hf
    · exact ⟨(h1 _ (by simp)), (h1 _ (by simp))⟩
    · obtain rfl := List.mem_singleton.1 hf; exact ⟨(h1 _ (by simp)), (h1 _ (by simp))⟩
  · obtain rfl := List.mem_singleton.1 (show f ∈ [(capTE, gzipChunked)] from hf); exact ⟨(h1 _ (by simp)), (h1 _ (by simp))⟩
  · obtain rfl := List.mem_singleton.1 (show f ∈ [(capCL, [43, 53])] from hf); exact ⟨(h1 _ (by simp)), (h1 _ (by simp))⟩
  · obtain rfl := List.mem_singleton.1 (show f ∈ [(capCL, [53, 44, 32, 53])] from hf); exact ⟨(h1 _ (by simp)), (h1 _ (by simp))⟩
  · obtain rfl := List.mem_singleton.1 (show f ∈ [(capCL, [])] from hf); exact ⟨(h1 _ (by simp)), (h1 _ (by simp))⟩
  · obtain rfl := List.mem_singleton.1 (show f ∈ [(capCL, [49, 48, 57, 57, 53, 49, 49, 54, 50, 55, 55, 55, 55])] from hf); exact ⟨(h1 _ (by simp)), (h1 _ (by simp))⟩

set_option maxRecDepth 100000 in
set_option maxHeartbeats 6400000 in
theorem walk (a b : ByteArray) (wh minor : Int) (w : World) (ha : a.size ≤ 9223372036854775807) (hb : b.size ≤ 9223372036854775807) (hwh : (Lit.int .u8 wh).wf = true) (_hwm : (Lit.int .i64 minor).wf = true) :
    Calls Tryd.prog 8 #[.string a, .string b, .int .u8 wh, .int .i64 minor] w fun e w' => e = .returned (.bool true) ∧ Below w.heap.size w w' := by
  have hb01 : 0 ≤ wh ∧ wh < 256 := by simp [Lit.wf, IntKind.min, IntKind.max, IntKind.signed, IntKind.bits] at hwh; omega
  obtain ⟨hb0, hb1⟩ := hb01
  clear hwh
  by_cases h1 : a.size ≤ 100
  · by_cases h2 : b.size ≤ 100
    · obtain ⟨q, hq, hq8⟩ : ∃ q : Nat, Int.tmod wh 8 = q ∧ q < 8 := ⟨(Int.tmod wh 8).toNat, by rw [Int.tmod_eq_emod_of_nonneg hb0]; omega, by rw [Int.tmod_eq_emod_of_nonneg hb0]; omega⟩
      go_enter Tryd.func8, Tryd.ntmps8
      go_upto_region 4 with (fail)
      have hW : (((((((((w.alloc (.cells #[.string ⟨#[67, 111, 110, 116, 101, 110, 116, 45, 76, 101, 110, 103, 116, 104]⟩, .string a, .string ⟨#[67, 79, 78, 84, 69, 78, 84, 45, 108, 101, 110, 103, 116, 104]⟩, .string b] 37)).alloc (.cells #[.string ⟨#[84, 114, 97, 110, 115, 102, 101, 114, 45, 69, 110, 99, 111, 100, 105, 110, 103]⟩, .string ⟨#[99, 104, 117, 110, 107, 101, 100]⟩, .string ⟨#[99, 111, 110, 116, 101, 110, 116, 45, 108, 101, 110, 103, 116, 104]⟩, .string a] 37)).alloc (.cells #[.string ⟨#[116, 114, 97, 110, 115, 102, 101, 114, 45, 69, 110, 99, 111, 100, 105, 110, 103]⟩, .string ⟨#[99, 104, 117, 110, 107, 101, 100]⟩, .string ⟨#[84, 114, 97, 110, 115, 102, 101, 114, 45, 69, 110, 99, 111, 100, 105, 110, 103]⟩, .string ⟨#[99, 104, 117, 110, 107, 101, 100]⟩] 37)).alloc (.cells #[.string ⟨#[84, 114, 97, 110, 115, 102, 101, 114, 45, 69, 110, 99, 111, 100, 105, 110, 103]⟩, .string ⟨#[103, 122, 105, 112, 44, 32, 99, 104, 117, 110, 107, 101, 100]⟩] 37)).alloc (.cells #[.string ⟨#[67, 111, 110, 116, 101, 110, 116, 45, 76, 101, 110, 103, 116, 104]⟩, .string ⟨#[43, 53]⟩] 37)).alloc (.cells #[.string ⟨#[67, 111, 110, 116, 101, 110, 116, 45, 76, 101, 110, 103, 116, 104]⟩, .string ⟨#[53, 44, 32, 53]⟩] 37)).alloc (.cells #[.string ⟨#[67, 111, 110, 116, 101, 110, 116, 45, 76, 101, 110, 103, 116, 104]⟩, .string ⟨#[]⟩] 37)).alloc (.cells #[.string ⟨#[67, 111, 110, 116, 101, 110, 116, 45, 76, 101, 110, 103, 116, 104]⟩, .string ⟨#[49, 48, 57, 57, 53, 49, 49, 54, 50, 55, 55, 55, 55]⟩] 37)).alloc (.cells #[.slice (some ⟨w.heap.size, 0, none⟩) 2 2, .slice (some ⟨w.heap.size + 1, 0, none⟩) 2 2, .slice (some ⟨w.heap.size + 1 + 1, 0, none⟩) 2 2, .slice (some ⟨w.heap.size + 1 + 1 + 1, 0, none⟩) 1 1, .slice (some ⟨w.heap.size + 1 + 1 + 1 + 1, 0, none⟩) 1 1, .slice (some ⟨w.heap.size + 1 + 1 + 1 + 1 + 1, 0, none⟩) 1 1, .slice (some ⟨w.heap.size + 1 + 1 + 1 + 1 + 1 + 1, 0, none⟩) 1 1, .slice (some ⟨w.heap.size + 1 + 1 + 1 + 1 + 1 + 1 + 1, 0, none⟩) 1 1] 38)) = allocs w (objs w a b) := rfl
      rw [hW]
      have tW := allocs_below (objs w a b) w
      obtain ⟨g, n, hcell, hn, hrd⟩ := objs_at w a b q hq8
      generalize allocs w (objs w a b) = w1 at hcell hrd tW ⊢
      have hcell : w1.cell? ⟨w.heap.size + 1 + 1 + 1 + 1 + 1 + 1 + 1 + 1, q, none⟩ = some (.slice (some ⟨g, 0, none⟩) n n) := hcell
      have hok := rows_ok a.data.toList b.data.toList q (by rw [← size_of]; exact h1) (by rw [← size_of]; exact h2)
      have er := rows_err a.data.toList b.data.toList q minor
      obtain ⟨fs, hfs⟩ : ∃ fs, fs = rows a.data.toList b.data.toList q := ⟨_, rfl⟩
      rw [← hfs] at hrd hok er
      have q1 := ofreq_any ⟨#[]⟩ ⟨#[]⟩ minor (some ⟨g, 0, none⟩) n n w1.heap.size fs w1 hrd (Nat.le_refl _) (by omega) hok
      have q2 := fun (W : World) (r : Rd W W.heap.size 2 (some ⟨g, 0, none⟩) n (fcells fs)) => ofresp_any ⟨#[71, 69, 84]⟩ ⟨#[]⟩ minor 200 (some ⟨g, 0, none⟩) n n W.heap.size fs W r (Nat.le_refl _) (by omega) hok
      have hE : emptyB ⟨#[71, 69, 84]⟩ 200 = false := by unfold emptyB; rw [ByteArray.toList_eq]; decide
      unfold frResp at q2
      rw [hE] at q2
      simp only [Bool.false_eq_true, if_false] at q2
      have e0 := er 0
      have e3 := er 3
      obtain ⟨⟨x, y, z⟩, hxyz⟩ : ∃ r, r = frOf fs minor 0 := ⟨_, rfl⟩
      obtain ⟨⟨x', y', z'⟩, hxyz'⟩ : ∃ r, r = frOf fs minor 3 := ⟨_, rfl⟩
      rw [← hxyz] at q1 e0
      rw [← hxyz'] at q2 e3
      obtain rfl : z = 2 := e0
      obtain rfl : z' = 2 := e3
      have q3 := fun (W : World) => ofreq_any ⟨#[]⟩ ⟨#[]⟩ 0 (some ⟨W.heap.size, 0, none⟩) 1 1 (W.heap.size + 1) [(capTE, chunkedL)] (W.alloc (.cells #[.string ⟨#[84, 114, 97, 110, 115, 102, 101, 114, 45, 69, 110, 99, 111, 100, 105, 110, 103]⟩, .string ⟨#[99, 104, 117, 110, 107, 101, 100]⟩] 37))
        (rd_new W #[.string ⟨#[84, 114, 97, 110, 115, 102, 101, 114, 45, 69, 110, 99, 111, 100, 105, 110, 103]⟩, .string ⟨#[99, 104, 117, 110, 107, 101, 100]⟩] 37 2 1 rfl) (by simp) (by omega) (by intro f hf; obtain rfl := List.mem_singleton.1 hf; decide)
      have e5 := chunk_err 0
      obtain ⟨⟨x5, y5, z5⟩, h5⟩ : ∃ r, r = frOf [(capTE, chunkedL)] 0 0 := ⟨_, rfl⟩
      rw [← h5] at q3 e5
      obtain rfl : z5 = 2 := e5
      simp only [frV] at q1 q2 q3
      clear h5 hxyz hxyz' er hok hfs hE hW
      go_upto_region 6 with (refine q1.mono ?_; rintro e w2 ⟨rfl, b2⟩)
      have r2 := step_ hrd (b2.alloc b2.size (.cells #[.int .i64 x, .int .i64 y] 32))
      have t2 := tW.trans ((b2.alloc b2.size (.cells #[.int .i64 x, .int .i64 y] 32)).mono tW.size)
      generalize w2.alloc (.cells #[.int .i64 x, .int .i64 y] 32) = w3 at r2 t2 ⊢
      clear b2 q1 tW hrd hcell
      go_upto_region 7 with (refine (q2 w3 r2).mono ?_; rintro e w4 ⟨rfl, b4⟩)
      have t4 := t2.trans ((b4.alloc b4.size (.cells #[.int .i64 x', .int .i64 y'] 32)).mono t2.size)
      generalize w4.alloc (.cells #[.int .i64 x', .int .i64 y'] 32) = w5 at t4 ⊢
      clear b4 q2 t2 r2
      go_upto_region 8 with (refine (q3 w5).mono ?_; rintro e w6 ⟨rfl, b6⟩)
      have t6 := t4.trans ((((Below.refl _ w5).alloc (Nat.le_refl _) _).trans (b6.mono (by simp))).mono t4.size)
      have t7 := t6.alloc t6.size (.cells #[.int .i64 x5, .int .i64 y5] 32)
      generalize w6.alloc (.cells #[.int .i64 x5, .int .i64 y5] 32) = w7 at t7 ⊢
      clear b6 q3 t4 t6
      go_wp2_with (refine (ans19_any w7).mono ?_; rintro e w8 ⟨rfl, b8⟩)
      go_ret
      exact ⟨rfl, t7.trans (b8.mono t7.size)⟩
    · go_enter Tryd.func8, Tryd.ntmps8
      go_wp2_with (refine (ans19_any _).mono ?_; rintro e w' ⟨rfl, hB⟩)
      go_ret
      exact ⟨rfl, hB⟩
  · go_enter Tryd.func8, Tryd.ntmps8
    go_wp2_with (refine (ans19_any _).mono ?_; rintro e w' ⟨rfl, hB⟩)
    go_ret
    exact ⟨rfl, hB⟩
end Go.Proofs.YtmijkefdnfmpiaaDoor.FrameSmugglesP
