/- FrameLengths returns true, whatever its arguments. -/
import Derived.Test.YtfifoimnebbflaaGreatDoorTold
import Derived.Test.YtfifoimnebbflaaGreatDoorUdec
import Derived.Deep.DeepCutAuto
import Derived.Deep.CutBlock
import Derived.Test.YtfifoimnebbflaaGreatDoorOwn
namespace Go.Proofs.YtfifoimnebbflaaGreatDoor.FrameLengthsP
open Go.RowKit

theorem dig_val (n : Nat) (h : n < 10) : (48 + UInt8.ofNat n).toNat = 48 + n := by
  have : ∀ n, n < 10 → (48 + UInt8.ofNat n).toNat = 48 + n := by decide
  exact this n h
theorem udig_ok (n : Nat) : decV (udig n) = n ∧ (udig n).all digB = true ∧ 1 ≤ (udig n).length := by
  induction n using udig.induct with
  | case1 n h =>
    have hm : n % 10 = n := Nat.mod_eq_of_lt h
    have hv := dig_val n h
    rw [udig, dif_pos h, hm]
    refine ⟨?_, ?_, by simp⟩
    · show 10 * 0 + ((48 + UInt8.ofNat n).toNat - 48) = n
      omega
    · have : digB (48 + UInt8.ofNat n) = true := (digB_iff _).2 (by omega)
      simp [this]
  | case2 n h ih =>
    have hv := dig_val (n % 10) (by omega)
    rw [udig, dif_neg h]
    obtain ⟨i1, i2, i3⟩ := ih
    refine ⟨?_, ?_, by simp⟩
    · rw [decV_snoc, i1]; omega
    · have : digB (48 + UInt8.ofNat (n % 10)) = true := (digB_iff _).2 (by omega)
      rw [List.all_append, i2]; simp [this]
theorem udig_len (d : Nat) : ∀ n, n < 10 ^ (d + 1) → (udig n).length ≤ d + 1 := by
  induction d with
  | zero => intro n h; rw [udig, dif_pos (by simpa using h)]; simp
  | succ d ih =>
    intro n h
    by_cases h10 : n < 10
    · rw [udig, dif_pos h10]; simp
    · have := ih (n / 10) (by rw [Nat.pow_succ] at h; omega)
      rw [udig, dif_neg h10, List.length_append, List.length_singleton]; omega
theorem udig_small (k : Nat) (h : k < 2199023255552) : (udig k).length ≤ 14 := udig_len 13 k (by omega)
def zeros (z k : Nat) : List UInt8 := List.replicate z 48 ++ udig k
theorem zeros_ok (z k : Nat) : decV (zeros z k) = k ∧ (zeros z k).all digB = true ∧ 1 ≤ (zeros z k).length := by
  obtain ⟨i1, i2, i3⟩ := udig_ok k
  induction z with
  | zero => exact ⟨i1, i2, i3⟩
  | succ z ih =>
    obtain ⟨j1, j2, j3⟩ := ih
    have e : zeros (z + 1) k = 48 :: zeros z k := by unfold zeros; rw [List.replicate_succ]; rfl
    rw [e]
    refine ⟨j1, ?_, by simp⟩
    have : digB 48 = true := by decide
    rw [List.all_cons, this, j2]; rfl
theorem num_zeros (z k : Nat) : numL (zeros z k) = if (zeros z k).length ≤ 15 then (k, decide (k ≤ 1099511627776)) else (0, false) := by
  obtain ⟨j1, j2, j3⟩ := zeros_ok z k
  unfold numL
  by_cases h : (zeros z k).length ≤ 15
  · rw [if_pos ⟨j3, h, j2⟩, if_pos h, j1]
  · rw [if_neg (fun x => h x.2.1), if_neg h]
theorem step_ {w w' : World} {s n : Nat} {A : Option Addr} {xs : List Value} (h : Rd w w.heap.size s A n xs) (hb : Below w.heap.size w w') : Rd w' w'.heap.size s A n xs := (h.below hb).mono hb.size
theorem rd_put (w : World) (cs : Array Value) (e : TypeId) (size n : Nat) (hl : cs.size = n * size) : Rd (w.alloc (.cells cs e)) (w.alloc (.cells cs e)).heap.size size (some ⟨w.heap.size, 0, none⟩) n cs.toList := (rd_new w cs e size n hl).mono (by simp)
theorem rd_two {w : World} {B g : Nat} {u v : Value} (h : Rd w B 2 (some ⟨g, 0, none⟩) 1 [u, v]) : w.cell? ⟨g, 0, none⟩ = some u ∧ w.cell? ⟨g, 1, none⟩ = some v := by
  obtain ⟨a, ha, _, hc⟩ := h.at_ (k := 0) (by omega)
  cases ha
  exact ⟨by have := hc 0 u rfl; rwa [Addr.add_lit] at this, by have := hc 1 v rfl; rwa [Addr.add_lit] at this⟩
def capCL : List UInt8 := [67, 111, 110, 116, 101, 110, 116, 45, 76, 101, 110, 103, 116, 104]
theorem cap_1 : sameL capCL nameTE = false := by decide
theorem cap_2 : sameL capCL nameCL = true := by decide
theorem res_zeros (z k : Nat) (m : Int) (o : Nat) : frOf [(capCL, zeros z k)] m o = if (zeros z k).length ≤ 15 ∧ k ≤ 1099511627776 then (1, k, 0) else (0, 0, 2) := by
  rw [frOf_one _ _ _ _ cap_1 cap_2, num_zeros]
  by_cases h : (zeros z k).length ≤ 15
  · by_cases h2 : k ≤ 1099511627776
    · simp [h, h2]
    · simp [h, h2]
  · simp [h]

end Go.Proofs.YtfifoimnebbflaaGreatDoor.FrameLengthsP

/- FrameSmuggles returns true, whatever its arguments. -/
namespace Go.Proofs.YtfifoimnebbflaaGreatDoor.FrameSmugglesP
open Go.RowKit
open FrameLengthsP (step_ rd_put rd_two capCL cap_1 cap_2)

def capTE : List UInt8 := [84, 114, 97, 110, 115, 102, 101, 114, 45, 69, 110, 99, 111, 100, 105, 110, 103]
def mixTE : List UInt8 := [116, 114, 97, 110, 115, 102, 101, 114, 45, 69, 110, 99, 111, 100, 105, 110, 103]
def mixCL : List UInt8 := [67, 79, 78, 84, 69, 78, 84, 45, 108, 101, 110, 103, 116, 104]
def gzipChunked : List UInt8 := [103, 122, 105, 112, 44, 32, 99, 104, 117, 110, 107, 101, 100]
/-- The eight heads. -/
def rows (a b : List UInt8) : Nat → List (List UInt8 × List UInt8)
  | 0 => [(capCL, a), (mixCL, b)]
  | 1 => [(capTE, chunkedL), (nameCL, a)]
  | 2 => [(mixTE, chunkedL), (capTE, chunkedL)]
  | 3 => [(capTE, gzipChunked)]
  | 4 => [(capCL, [43, 53])]
  | 5 => [(capCL, [53, 44, 32, 53])]
  | 6 => [(capCL, [])]
  | _ => [(capCL, [49, 48, 57, 57, 53, 49, 49, 54, 50, 55, 55, 55, 55])]
theorem m1 : sameL mixCL nameTE = false := by decide
theorem m2 : sameL mixCL nameCL = true := by decide
theorem m3 : sameL capTE nameTE = true := by decide
theorem m4 : sameL capTE nameCL = false := by decide
theorem m5 : sameL mixTE nameTE = true := by decide
theorem m6 : sameL mixTE nameCL = false := by decide
theorem m7 : sameL gzipChunked chunkedL = false := by decide
theorem rows_err (a b : List UInt8) (q : Nat) (minor : Int) (o : Nat) : (frOf (rows a b q) minor o).2.2 = 2 := by
  rcases q with _ | _ | _ | _ | _ | _ | _ | q
  · show (frOf [(capCL, a), (mixCL, b)] minor o).2.2 = 2
    unfold frOf getL; simp [cap_1, cap_2, m1, m2, toldL]
  · show (frOf [(capTE, chunkedL), (nameCL, a)] minor o).2.2 = 2
    unfold frOf getL; simp [m3, m4, nm_1, nm_2, toldL]
  · show (frOf [(mixTE, chunkedL), (capTE, chunkedL)] minor o).2.2 = 2
    unfold frOf getL; simp [m3, m4, m5, m6, toldL]
  · show (frOf [(capTE, gzipChunked)] minor o).2.2 = 2
    unfold frOf getL; simp [m3, m4, m7, toldL]
  · show (frOf [(capCL, [43, 53])] minor o).2.2 = 2
    rw [frOf_one _ _ _ _ cap_1 cap_2, show numL [43, 53] = (0, false) by decide]; rfl
  · show (frOf [(capCL, [53, 44, 32, 53])] minor o).2.2 = 2
    rw [frOf_one _ _ _ _ cap_1 cap_2, show numL [53, 44, 32, 53] = (0, false) by decide]; rfl
  · show (frOf [(capCL, [])] minor o).2.2 = 2
    rw [frOf_one _ _ _ _ cap_1 cap_2, show numL [] = (0, false) by decide]; rfl
  · show (frOf [(capCL, [49, 48, 57, 57, 53, 49, 49, 54, 50, 55, 55, 55, 55])] minor o).2.2 = 2
    rw [frOf_one _ _ _ _ cap_1 cap_2, show numL [49, 48, 57, 57, 53, 49, 49, 54, 50, 55, 55, 55, 55] = (1099511627777, false) by decide]; rfl
theorem chunk_err (o : Nat) : (frOf [(capTE, chunkedL)] 0 o).2.2 = 2 := by
  unfold frOf getL; simp [m3, m4, toldL]

/-- Several objects laid, one behind the other. -/
def allocs : World → List Obj → World
  | w, [] => w
  | w, o :: os => allocs (w.alloc o) os
theorem allocs_size : ∀ (os : List Obj) (w : World), (allocs w os).heap.size = w.heap.size + os.length
  | [], w => rfl
  | o :: os, w => by
    show (allocs (w.alloc o) os).heap.size = _
    rw [allocs_size os]; simp; omega
theorem allocs_below : ∀ (os : List Obj) (w : World), Below w.heap.size w (allocs w os)
  | [], w => Below.refl _ _
  | o :: os, w => ((Below.refl _ w).alloc (Nat.le_refl _) o).trans ((allocs_below os (w.alloc o)).mono (by simp))
theorem allocs_cell : ∀ (os : List Obj) (w : World) (i j : Nat) (cs : Array Value) (e : TypeId), os[i]? = some (.cells cs e) → (allocs w os).cell? ⟨w.heap.size + i, j, none⟩ = cs[j]?
  | [], w, i, j, cs, e, h => by simp at h
  | o :: os, w, 0, j, cs, e, h => by
    simp only [List.getElem?_cons_zero, Option.some.injEq] at h
    subst h
    show (allocs (w.alloc _) os).cell? ⟨w.heap.size, j, none⟩ = _
    rw [(allocs_below os (w.alloc (.cells cs e))).cell (p := ⟨w.heap.size, j, none⟩) (by simp), World.cell?_alloc_new]
  | o :: os, w, i + 1, j, cs, e, h => by
    rw [List.getElem?_cons_succ] at h
    have := allocs_cell os (w.alloc o) i j cs e h
    have hs : (w.alloc o).heap.size = w.heap.size + 1 := by simp
    rw [hs, show w.heap.size + 1 + i = w.heap.size + (i + 1) by omega] at this
    exact this
theorem allocs_rd (os : List Obj) (w : World) (i n size : Nat) (cs : Array Value) (e : TypeId) (h : os[i]? = some (.cells cs e)) (hl : cs.size = n * size) :
    Rd (allocs w os) (allocs w os).heap.size size (some ⟨w.heap.size + i, 0, none⟩) n cs.toList := by
  have hi : i < os.length := (List.getElem?_eq_some_iff.1 h).1
  refine ⟨by simpa using hl, .inr ⟨_, rfl, by rw [allocs_size]; simp; omega, fun j u hu => ?_⟩⟩
  rw [Addr.add_lit, Nat.zero_add, allocs_cell os w i j cs e h]
  simpa using hu
def objs (w : World) (a b : ByteArray) : List Obj := [.cells #[.string ⟨#[67, 111, 110, 116, 101, 110, 116, 45, 76, 101, 110, 103, 116, 104]⟩, .string a, .string ⟨#[67, 79, 78, 84, 69, 78, 84, 45, 108, 101, 110, 103, 116, 104]⟩, .string b] 68, .cells #[.string ⟨#[84, 114, 97, 110, 115, 102, 101, 114, 45, 69, 110, 99, 111, 100, 105, 110, 103]⟩, .string ⟨#[99, 104, 117, 110, 107, 101, 100]⟩, .string ⟨#[99, 111, 110, 116, 101, 110, 116, 45, 108, 101, 110, 103, 116, 104]⟩, .string a] 68, .cells #[.string ⟨#[116, 114, 97, 110, 115, 102, 101, 114, 45, 69, 110, 99, 111, 100, 105, 110, 103]⟩, .string ⟨#[99, 104, 117, 110, 107, 101, 100]⟩, .string ⟨#[84, 114, 97, 110, 115, 102, 101, 114, 45, 69, 110, 99, 111, 100, 105, 110, 103]⟩, .string ⟨#[99, 104, 117, 110, 107, 101, 100]⟩] 68, .cells #[.string ⟨#[84, 114, 97, 110, 115, 102, 101, 114, 45, 69, 110, 99, 111, 100, 105, 110, 103]⟩, .string ⟨#[103, 122, 105, 112, 44, 32, 99, 104, 117, 110, 107, 101, 100]⟩] 68, .cells #[.string ⟨#[67, 111, 110, 116, 101, 110, 116, 45, 76, 101, 110, 103, 116, 104]⟩, .string ⟨#[43, 53]⟩] 68, .cells #[.string ⟨#[67, 111, 110, 116, 101, 110, 116, 45, 76, 101, 110, 103, 116, 104]⟩, .string ⟨#[53, 44, 32, 53]⟩] 68, .cells #[.string ⟨#[67, 111, 110, 116, 101, 110, 116, 45, 76, 101, 110, 103, 116, 104]⟩, .string ⟨#[]⟩] 68, .cells #[.string ⟨#[67, 111, 110, 116, 101, 110, 116, 45, 76, 101, 110, 103, 116, 104]⟩, .string ⟨#[49, 48, 57, 57, 53, 49, 49, 54, 50, 55, 55, 55, 55]⟩] 68, .cells #[.slice (some ⟨w.heap.size, 0, none⟩) 2 2, .slice (some ⟨w.heap.size + 1, 0, none⟩) 2 2, .slice (some ⟨w.heap.size + 1 + 1, 0, none⟩) 2 2, .slice (some ⟨w.heap.size + 1 + 1 + 1, 0, none⟩) 1 1, .slice (some ⟨w.heap.size + 1 + 1 + 1 + 1, 0, none⟩) 1 1, .slice (some ⟨w.heap.size + 1 + 1 + 1 + 1 + 1, 0, none⟩) 1 1, .slice (some ⟨w.heap.size + 1 + 1 + 1 + 1 + 1 + 1, 0, none⟩) 1 1, .slice (some ⟨w.heap.size + 1 + 1 + 1 + 1 + 1 + 1 + 1, 0, none⟩) 1 1] 29]
theorem objs_at (w : World) (a b : ByteArray) (q : Nat) (hq : q < 8) : ∃ g n, (allocs w (objs w a b)).cell? ⟨w.heap.size + 8, q, none⟩ = some (.slice (some ⟨g, 0, none⟩) n n) ∧ n ≤ 2 ∧
    Rd (allocs w (objs w a b)) (allocs w (objs w a b)).heap.size 2 (some ⟨g, 0, none⟩) n (fcells (rows a.data.toList b.data.toList q)) := by
  have h8 := fun j => allocs_cell (objs w a b) w 8 j _ _ rfl
  rcases q with _ | _ | _ | _ | _ | _ | _ | _ | q
  · exact ⟨_, 2, by rw [h8]; rfl, by omega, allocs_rd (objs w a b) w 0 2 2 _ _ rfl rfl⟩
  · exact ⟨_, 2, by rw [h8]; rfl, by omega, allocs_rd (objs w a b) w 1 2 2 _ _ rfl rfl⟩
  · exact ⟨_, 2, by rw [h8]; rfl, by omega, allocs_rd (objs w a b) w 2 2 2 _ _ rfl rfl⟩
  · exact ⟨_, 1, by rw [h8]; rfl, by omega, allocs_rd (objs w a b) w 3 1 2 _ _ rfl rfl⟩
  · exact ⟨_, 1, by rw [h8]; rfl, by omega, allocs_rd (objs w a b) w 4 1 2 _ _ rfl rfl⟩
  · exact ⟨_, 1, by rw [h8]; rfl, by omega, allocs_rd (objs w a b) w 5 1 2 _ _ rfl rfl⟩
  · exact ⟨_, 1, by rw [h8]; rfl, by omega, allocs_rd (objs w a b) w 6 1 2 _ _ rfl rfl⟩
  · exact ⟨_, 1, by rw [h8]; rfl, by omega, allocs_rd (objs w a b) w 7 1 2 _ _ rfl rfl⟩
  · omega
theorem rows_ok (a b : List UInt8) (q : Nat) (ha : a.length ≤ 100) (hb : b.length ≤ 100) : fsOk (rows a b q) := by
  have h1 : ∀ l ∈ [capCL, mixCL, capTE, mixTE, nameCL, chunkedL, gzipChunked, [43, 53], [53, 44, 32, 53], [], [49, 48, 57, 57, 53, 49, 49, 54, 50, 55, 55, 55, 55]], l.length ≤ 1000000 := by decide
  rcases q with _ | _ | _ | _ | _ | _ | _ | q <;> intro f hf
  · rcases List.mem_cons.1 (show f ∈ [(capCL, a), (mixCL, b)] from hf) with rfl | hf
    · exact ⟨h1 _ (by simp), show a.length ≤ 1000000 by omega⟩
    · obtain rfl := List.mem_singleton.1 hf; exact ⟨h1 _ (by simp), show b.length ≤ 1000000 by omega⟩
  · rcases List.mem_cons.1 (show f ∈ [(capTE, chunkedL), (nameCL, a)] from hf) with rfl | hf
    · exact ⟨(h1 _ (by simp)), (h1 _ (by simp))⟩
    · obtain rfl := List.mem_singleton.1 hf; exact ⟨h1 _ (by simp), show a.length ≤ 1000000 by omega⟩
  · rcases List.mem_cons.1 (show f ∈ [(mixTE, chunkedL), (capTE, chunkedL)] from hf) with rfl | hf
    · exact ⟨(h1 _ (by simp)), (h1 _ (by simp))⟩
    · obtain rfl := List.mem_singleton.1 hf; exact ⟨(h1 _ (by simp)), (h1 _ (by simp))⟩
  · obtain rfl := List.mem_singleton.1 (show f ∈ [(capTE, gzipChunked)] from hf); exact ⟨(h1 _ (by simp)), (h1 _ (by simp))⟩
  · obtain rfl := List.mem_singleton.1 (show f ∈ [(capCL, [43, 53])] from hf); exact ⟨(h1 _ (by simp)), (h1 _ (by simp))⟩
  · obtain rfl := List.mem_singleton.1 (show f ∈ [(capCL, [53, 44, 32, 53])] from hf); exact ⟨(h1 _ (by simp)), (h1 _ (by simp))⟩
  · obtain rfl := List.mem_singleton.1 (show f ∈ [(capCL, [])] from hf); exact ⟨(h1 _ (by simp)), (h1 _ (by simp))⟩
  · obtain rfl := List.mem_singleton.1 (show f ∈ [(capCL, [49, 48, 57, 57, 53, 49, 49, 54, 50, 55, 55, 55, 55])] from hf); exact ⟨(h1 _ (by simp)), (h1 _ (by simp))⟩

end Go.Proofs.YtfifoimnebbflaaGreatDoor.FrameSmugglesP

/- Boxes: structs that a call has laid; stored into and read between calls. -/
namespace Go.Proofs.YtfifoimnebbflaaGreatDoor
open Go.RowKit
open FrameSmugglesP (allocs allocs_size allocs_below allocs_cell allocs_rd)

def Box (w : World) (g : Nat) (cs : List Value) : Prop := g < w.heap.size ∧ ∀ j u, cs[j]? = some u → w.cell? ⟨g, j, none⟩ = some u ∧ w.frozen? ⟨g, j, none⟩ = false
section
variable {w w' : World} {g g' k : Nat} {cs : List Value} {x : Value}
theorem frozen_set (w : World) (g k : Nat) (x : Value) (a : Addr) : (w.setCell ⟨g, k, none⟩ x).frozen? a = w.frozen? a := by
  show (w.setCells g k [x]).frozen? a = _
  rw [World.frozen?_setCells]
theorem Box.below (h : Box w g cs) (b : Below w.heap.size w w') : Box w' g cs :=
  ⟨Nat.lt_of_lt_of_le h.1 b.size, fun j u hu => ⟨(b.cell (p := ⟨g, j, none⟩) h.1).trans (h.2 j u hu).1, (World.frozen?_of_block (a := ⟨g, j, none⟩) (b.block g h.1)).trans (h.2 j u hu).2⟩⟩
theorem Box.far (h : Box w g cs) (hne : g ≠ g') : Box (w.setCell ⟨g', k, none⟩ x) g cs :=
  ⟨by simpa [World.setCell] using h.1, fun j u hu => ⟨by rw [World.cell?_setCell_other _ _ _ _ (by intro e; exact hne (congrArg Addr.block e).symm)]; exact (h.2 j u hu).1, by rw [frozen_set]; exact (h.2 j u hu).2⟩⟩
theorem Box.set (h : Box w g cs) (hk : k < cs.length) : Box (w.setCell ⟨g, k, none⟩ x) g (cs.set k x) := by
  refine ⟨by simpa [World.setCell] using h.1, fun j u hu => ⟨?_, ?_⟩⟩
  · by_cases hjk : k = j
    · subst hjk
      rw [List.getElem?_set_self hk] at hu
      cases hu
      exact World.cell?_setCell_same' w _ _ (by rw [(h.2 k _ (List.getElem?_eq_getElem hk)).1]; rfl)
    · rw [List.getElem?_set_ne hjk] at hu
      rw [World.cell?_setCell_other _ _ _ _ (by intro e; have := congrArg Addr.off e; simp at this; omega)]
      exact (h.2 j u hu).1
  · rw [frozen_set]
    have hj : j < cs.length := by have := (List.getElem?_eq_some_iff.1 hu).1; simpa using this
    exact (h.2 j _ (List.getElem?_eq_getElem hj)).2
theorem Box.new (w : World) (cs : Array Value) (t : TypeId) : Box (w.alloc (.cells cs t)) w.heap.size cs.toList :=
  ⟨by simp, fun j u hu => ⟨by rw [World.cell?_alloc_new]; simpa using hu, by unfold World.frozen?; rw [heap_alloc_new]; simp⟩⟩
theorem box_allocs : ∀ (os : List Obj) (w : World) (i : Nat) (cs : Array Value) (t : TypeId), os[i]? = some (.cells cs t) → Box (allocs w os) (w.heap.size + i) cs.toList
  | o :: os, w, 0, cs, t, h => by
    simp only [List.getElem?_cons_zero, Option.some.injEq] at h
    subst h
    exact (Box.new w cs t).below (allocs_below os _)
  | o :: os, w, i + 1, cs, t, h => by
    have := box_allocs os (w.alloc o) i cs t (by simpa using h)
    have e : (w.alloc o).heap.size + i = w.heap.size + (i + 1) := by simp; omega
    rw [e] at this
    exact this
theorem Rd.far {B size n : Nat} {A : Option Addr} {xs : List Value} (h : Rd w B size A n xs) (hg : B ≤ g) : Rd (w.setCell ⟨g, k, none⟩ x) B size A n xs := h.below ((Below.refl _ _).setCell hg _)
theorem Box.two {a b : Value} (h : Box w g [a, b]) : w.cell? ⟨g, 0, none⟩ = some a ∧ w.cell? ⟨g, 1, none⟩ = some b := ⟨(h.2 0 a rfl).1, (h.2 1 b rfl).1⟩
theorem Box.free2 {a b : Value} (h : Box w g [a, b]) : w.frozen? ⟨g, 0, none⟩ = false ∧ w.frozen? ⟨g, 1, none⟩ = false := ⟨(h.2 0 a rfl).2, (h.2 1 b rfl).2⟩
theorem Box.three {a b c : Value} (h : Box w g [a, b, c]) : w.cell? ⟨g, 0, none⟩ = some a ∧ w.cell? ⟨g, 1, none⟩ = some b ∧ w.cell? ⟨g, 2, none⟩ = some c := ⟨(h.2 0 a rfl).1, (h.2 1 b rfl).1, (h.2 2 c rfl).1⟩
theorem Box.four {a b c d : Value} (h : Box w g [a, b, c, d]) : w.cell? ⟨g, 0, none⟩ = some a ∧ w.cell? ⟨g, 1, none⟩ = some b ∧ w.cell? ⟨g, 2, none⟩ = some c ∧ w.cell? ⟨g, 3, none⟩ = some d := ⟨(h.2 0 a rfl).1, (h.2 1 b rfl).1, (h.2 2 c rfl).1, (h.2 3 d rfl).1⟩
theorem Box.free4 {a b c d : Value} (h : Box w g [a, b, c, d]) : w.frozen? ⟨g, 0, none⟩ = false ∧ w.frozen? ⟨g, 1, none⟩ = false ∧ w.frozen? ⟨g, 2, none⟩ = false ∧ w.frozen? ⟨g, 3, none⟩ = false := ⟨(h.2 0 a rfl).2, (h.2 1 b rfl).2, (h.2 2 c rfl).2, (h.2 3 d rfl).2⟩
end
/-- A struct of four cells stored whole. -/
def fill4 (w : World) (g : Nat) (x0 x1 x2 x3 : Value) : World := (((w.setCell ⟨g, 0, none⟩ x0).setCell ⟨g, 1, none⟩ x1).setCell ⟨g, 2, none⟩ x2).setCell ⟨g, 3, none⟩ x3
theorem Box.fill4 {w : World} {g : Nat} {a b c d : Value} (h : Box w g [a, b, c, d]) (x0 x1 x2 x3 : Value) : Box (fill4 w g x0 x1 x2 x3) g [x0, x1, x2, x3] :=
  (((h.set (k := 0) (x := x0) (by simp)).set (k := 1) (x := x1) (by simp)).set (k := 2) (x := x2) (by simp)).set (k := 3) (x := x3) (by simp)
theorem Box.far4 {w : World} {g g' : Nat} {cs : List Value} (h : Box w g cs) (hne : g ≠ g') (x0 x1 x2 x3 : Value) : Box (Go.Proofs.YtfifoimnebbflaaGreatDoor.fill4 w g' x0 x1 x2 x3) g cs :=
  (((h.far hne).far hne).far hne).far hne
theorem Ow.far4 {w : World} {base size n g : Nat} {v : Value} {xs : List Value} (h : Ow w base size v n xs) (hg : v.ownBlock ≠ some g) (x0 x1 x2 x3 : Value) : Ow (fill4 w g x0 x1 x2 x3) base size v n xs :=
  (((h.store_far (a := ⟨g, 0, none⟩) hg x0).store_far (a := ⟨g, 1, none⟩) hg x1).store_far (a := ⟨g, 2, none⟩) hg x2).store_far (a := ⟨g, 3, none⟩) hg x3
theorem below_fill4 {w w' : World} {n g : Nat} (h : Below n w w') (hg : n ≤ g) (x0 x1 x2 x3 : Value) : Below n w (fill4 w' g x0 x1 x2 x3) :=
  (((h.setCell hg x0).setCell hg x1).setCell hg x2).setCell hg x3
theorem Rd.far4 {w : World} {B size n g : Nat} {A : Option Addr} {xs : List Value} (h : Rd w B size A n xs) (hg : B ≤ g) (x0 x1 x2 x3 : Value) : Rd (fill4 w g x0 x1 x2 x3) B size A n xs := h.below (below_fill4 (Below.refl _ _) hg _ _ _ _)
theorem size4 (w : World) (g : Nat) (x0 x1 x2 x3 : Value) : (fill4 w g x0 x1 x2 x3).heap.size = w.heap.size := by simp [fill4, World.setCell]
def fill2 (w : World) (g : Nat) (x0 x1 : Value) : World := (w.setCell ⟨g, 0, none⟩ x0).setCell ⟨g, 1, none⟩ x1
theorem Box.fill2 {w : World} {g : Nat} {a b : Value} (h : Box w g [a, b]) (x0 x1 : Value) : Box (fill2 w g x0 x1) g [x0, x1] := (h.set (k := 0) (x := x0) (by simp)).set (k := 1) (x := x1) (by simp)
theorem Box.far2 {w : World} {g g' : Nat} {cs : List Value} (h : Box w g cs) (hne : g ≠ g') (x0 x1 : Value) : Box (Go.Proofs.YtfifoimnebbflaaGreatDoor.fill2 w g' x0 x1) g cs := (h.far hne).far hne
theorem Ow.far2 {w : World} {base size n g : Nat} {v : Value} {xs : List Value} (h : Ow w base size v n xs) (hg : v.ownBlock ≠ some g) (x0 x1 : Value) : Ow (fill2 w g x0 x1) base size v n xs := (h.store_far (a := ⟨g, 0, none⟩) hg x0).store_far (a := ⟨g, 1, none⟩) hg x1
theorem below_fill2 {w w' : World} {n g : Nat} (h : Below n w w') (hg : n ≤ g) (x0 x1 : Value) : Below n w (fill2 w' g x0 x1) := (h.setCell hg x0).setCell hg x1
theorem size2 (w : World) (g : Nat) (x0 x1 : Value) : (fill2 w g x0 x1).heap.size = w.heap.size := by simp [fill2, World.setCell]
theorem ow_apart {w : World} {base size n g : Nat} {v : Value} {xs : List Value} (h : Ow w base size v n xs) (hg : g < base) : v.ownBlock ≠ some g := by
  intro e
  have := (h.lt _ e).1
  omega
/-- Results that are structs of four cells. -/
theorem results_rq {fn : Func} {p : Tmp} (h : fn.results = #[.cell p 31]) (tmps : Array Value) (w : World) (g : Nat) (a b c d : Value) (hb : Box w g [a, b, c, d]) (hp : tmps.getD p undef = .pointer (some ⟨g, 0, none⟩)) :
    (results fn tmps).run Tryz.prog w = .ok (.agg #[a, b, c, d]) w := by
  have hp' : tmps[p]?.getD undef = .pointer (some ⟨g, 0, none⟩) := by simpa using hp
  obtain ⟨k0, k1, k2, k3⟩ := hb.four
  simp [results, h, hp', go_sem, k0, k1, k2, k3]
theorem results_rs {fn : Func} {p : Tmp} (h : fn.results = #[.cell p 45]) (tmps : Array Value) (w : World) (g : Nat) (a b c d : Value) (hb : Box w g [a, b, c, d]) (hp : tmps.getD p undef = .pointer (some ⟨g, 0, none⟩)) :
    (results fn tmps).run Tryz.prog w = .ok (.agg #[a, b, c, d]) w := by
  have hp' : tmps[p]?.getD undef = .pointer (some ⟨g, 0, none⟩) := by simpa using hp
  obtain ⟨k0, k1, k2, k3⟩ := hb.four
  simp [results, h, hp', go_sem, k0, k1, k2, k3]
theorem results_rsf {fn : Func} {p q : Tmp} (h : fn.results = #[.cell p 45, .cell q 39]) (tmps : Array Value) (w : World) (g g' : Nat) (a b c d x y : Value) (hb : Box w g [a, b, c, d]) (hb' : Box w g' [x, y]) (hp : tmps.getD p undef = .pointer (some ⟨g, 0, none⟩)) (hq : tmps.getD q undef = .pointer (some ⟨g', 0, none⟩)) :
    (results fn tmps).run Tryz.prog w = .ok (.tuple #[.agg #[a, b, c, d], .agg #[x, y]]) w := by
  have hp' : tmps[p]?.getD undef = .pointer (some ⟨g, 0, none⟩) := by simpa using hp
  have hq' : tmps[q]?.getD undef = .pointer (some ⟨g', 0, none⟩) := by simpa using hq
  obtain ⟨k0, k1, k2, k3⟩ := hb.four
  obtain ⟨l0, l1⟩ := hb'.two
  simp [results, h, hp', hq', go_sem, k0, k1, k2, k3, l0, l1]
end Go.Proofs.YtfifoimnebbflaaGreatDoor
