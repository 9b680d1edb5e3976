/- FrameLengths returns true, whatever its arguments. -/
import Derived.Test.YtijlaclngibekaaGreatDoorKTextsG
import Derived.Test.YtijlaclngibekaaGreatDoorKBase
import Derived.Deep.DeepCutAuto
import Derived.Deep.CutBlock
import Derived.Test.YtijlaclngibekaaGreatDoorKShelves
import Derived.OwnWalk
import Derived.Test.YtijlaclngibekaaGreatDoorKTrimG
import Derived.Test.YtijlaclngibekaaGreatDoorKHasG
import Derived.Lib.SlBytesConst
import Derived.Lib.BufferOld
import Derived.Lib.BufferKept
namespace Go.Proofs.YtijlaclngibekaaGreatDoor.FrameLengthsP
open Go.RowKit

theorem dig_val (n : Nat) (h : n < 10) : (48 + UInt8.ofNat n).toNat = 48 + n := by
  have : ∀ n, n < 10 → (48 + UInt8.ofNat n).toNat = 48 + n := by decide
  exact this n h
theorem udig_ok (n : Nat) : decV (udig n) = n ∧ (udig n).all digB = true ∧ 1 ≤ (udig n).length := by
  induction n using udig.induct with
  | case1 n h =>
    have hm : n % 10 = n := Nat.mod_eq_of_lt h
    have hv := dig_val n h
    rw [udig, dif_pos h, hm]
    refine ⟨?_, ?_, by simp⟩
    · show 10 * 0 + ((48 + UInt8.ofNat n).toNat - 48) = n
      omega
    · have : digB (48 + UInt8.ofNat n) = true := (digB_iff _).2 (by omega)
      simp [this]
  | case2 n h ih =>
    have hv := dig_val (n % 10) (by omega)
    rw [udig, dif_neg h]
    obtain ⟨i1, i2, i3⟩ := ih
    refine ⟨?_, ?_, by simp⟩
    · rw [decV_snoc, i1]; omega
    · have : digB (48 + UInt8.ofNat (n % 10)) = true := (digB_iff _).2 (by omega)
      rw [List.all_append, i2]; simp [this]
theorem udig_len (d : Nat) : ∀ n, n < 10 ^ (d + 1) → (udig n).length ≤ d + 1 := by
  induction d with
  | zero => intro n h; rw [udig, dif_pos (by simpa using h)]; simp
  | succ d ih =>
    intro n h
    by_cases h10 : n < 10
    · rw [udig, dif_pos h10]; simp
    · have := ih (n / 10) (by rw [Nat.pow_succ] at h; omega)
      rw [udig, dif_neg h10, List.length_append, List.length_singleton]; omega
theorem udig_small (k : Nat) (h : k < 2199023255552) : (udig k).length ≤ 14 := udig_len 13 k (by omega)
def zeros (z k : Nat) : List UInt8 := List.replicate z 48 ++ udig k
theorem zeros_ok (z k : Nat) : decV (zeros z k) = k ∧ (zeros z k).all digB = true ∧ 1 ≤ (zeros z k).length := by
  obtain ⟨i1, i2, i3⟩ := udig_ok k
  induction z with
  | zero => exact ⟨i1, i2, i3⟩
  | succ z ih =>
    obtain ⟨j1, j2, j3⟩ := ih
    have e : zeros (z + 1) k = 48 :: zeros z k := by unfold zeros; rw [List.replicate_succ]; rfl
    rw [e]
    refine ⟨j1, ?_, by simp⟩
    have : digB 48 = true := by decide
    rw [List.all_cons, this, j2]; rfl
theorem num_zeros (z k : Nat) : numL (zeros z k) = if (zeros z k).length ≤ 15 then (k, decide (k ≤ 1099511627776)) else (0, false) := by
  obtain ⟨j1, j2, j3⟩ := zeros_ok z k
  unfold numL
  by_cases h : (zeros z k).length ≤ 15
  · rw [if_pos ⟨j3, h, j2⟩, if_pos h, j1]
  · rw [if_neg (fun x => h x.2.1), if_neg h]
def capCL : List UInt8 := [67, 111, 110, 116, 101, 110, 116, 45, 76, 101, 110, 103, 116, 104]
theorem cap_1 : sameL capCL nameTE = false := by decide
theorem cap_2 : sameL capCL nameCL = true := by decide
theorem res_zeros (z k : Nat) (m : Int) (o : Nat) : frOf [(capCL, zeros z k)] m o = if (zeros z k).length ≤ 15 ∧ k ≤ 1099511627776 then (1, k, 0) else (0, 0, 2) := by
  rw [frOf_one _ _ _ _ cap_1 cap_2, num_zeros]
  by_cases h : (zeros z k).length ≤ 15
  · by_cases h2 : k ≤ 1099511627776
    · simp [h, h2]
    · simp [h, h2]
  · simp [h]

end Go.Proofs.YtijlaclngibekaaGreatDoor.FrameLengthsP

/- FrameSmuggles returns true, whatever its arguments. -/
namespace Go.Proofs.YtijlaclngibekaaGreatDoor.FrameSmugglesP
open Go.RowKit
open FrameLengthsP (step_ rd_put rd_two capCL cap_1 cap_2)

def capTE : List UInt8 := [84, 114, 97, 110, 115, 102, 101, 114, 45, 69, 110, 99, 111, 100, 105, 110, 103]
def mixTE : List UInt8 := [116, 114, 97, 110, 115, 102, 101, 114, 45, 69, 110, 99, 111, 100, 105, 110, 103]
def mixCL : List UInt8 := [67, 79, 78, 84, 69, 78, 84, 45, 108, 101, 110, 103, 116, 104]
def gzipChunked : List UInt8 := [103, 122, 105, 112, 44, 32, 99, 104, 117, 110, 107, 101, 100]
/-- The eight heads. -/
def rows (a b : List UInt8) : Nat → List (List UInt8 × List UInt8)
  | 0 => [(capCL, a), (mixCL, b)]
  | 1 => [(capTE, chunkedL), (nameCL, a)]
  | 2 => [(mixTE, chunkedL), (capTE, chunkedL)]
  | 3 => [(capTE, gzipChunked)]
  | 4 => [(capCL, [43, 53])]
  | 5 => [(capCL, [53, 44, 32, 53])]
  | 6 => [(capCL, [])]
  | _ => [(capCL, [49, 48, 57, 57, 53, 49, 49, 54, 50, 55, 55, 55, 55])]
theorem m1 : sameL mixCL nameTE = false := by decide
theorem m2 : sameL mixCL nameCL = true := by decide
theorem m3 : sameL capTE nameTE = true := by decide
theorem m4 : sameL capTE nameCL = false := by decide
theorem m5 : sameL mixTE nameTE = true := by decide
theorem m6 : sameL mixTE nameCL = false := by decide
theorem m7 : sameL gzipChunked chunkedL = false := by decide
theorem rows_err (a b : List UInt8) (q : Nat) (minor : Int) (o : Nat) : (frOf (rows a b q) minor o).2.2 = 2 := by
  rcases q with _ | _ | _ | _ | _ | _ | _ | q
  · show (frOf [(capCL, a), (mixCL, b)] minor o).2.2 = 2
    unfold frOf getL; simp [cap_1, cap_2, m1, m2, toldL]
  · show (frOf [(capTE, chunkedL), (nameCL, a)] minor o).2.2 = 2
    unfold frOf getL; simp [m3, m4, nm_1, nm_2, toldL]
  · show (frOf [(mixTE, chunkedL), (capTE, chunkedL)] minor o).2.2 = 2
    unfold frOf getL; simp [m3, m4, m5, m6, toldL]
  · show (frOf [(capTE, gzipChunked)] minor o).2.2 = 2
    unfold frOf getL; simp [m3, m4, m7, toldL]
  · show (frOf [(capCL, [43, 53])] minor o).2.2 = 2
    rw [frOf_one _ _ _ _ cap_1 cap_2, show numL [43, 53] = (0, false) by decide]; rfl
  · show (frOf [(capCL, [53, 44, 32, 53])] minor o).2.2 = 2
    rw [frOf_one _ _ _ _ cap_1 cap_2, show numL [53, 44, 32, 53] = (0, false) by decide]; rfl
  · show (frOf [(capCL, [])] minor o).2.2 = 2
    rw [frOf_one _ _ _ _ cap_1 cap_2, show numL [] = (0, false) by decide]; rfl
  · show (frOf [(capCL, [49, 48, 57, 57, 53, 49, 49, 54, 50, 55, 55, 55, 55])] minor o).2.2 = 2
    rw [frOf_one _ _ _ _ cap_1 cap_2, show numL [49, 48, 57, 57, 53, 49, 49, 54, 50, 55, 55, 55, 55] = (1099511627777, false) by decide]; rfl
theorem chunk_err (o : Nat) : (frOf [(capTE, chunkedL)] 0 o).2.2 = 2 := by
  unfold frOf getL; simp [m3, m4, toldL]

def objs (w : World) (a b : ByteArray) : List Obj := [.cells #[.string ⟨#[67, 111, 110, 116, 101, 110, 116, 45, 76, 101, 110, 103, 116, 104]⟩, .string a, .string ⟨#[67, 79, 78, 84, 69, 78, 84, 45, 108, 101, 110, 103, 116, 104]⟩, .string b] 110, .cells #[.string ⟨#[84, 114, 97, 110, 115, 102, 101, 114, 45, 69, 110, 99, 111, 100, 105, 110, 103]⟩, .string ⟨#[99, 104, 117, 110, 107, 101, 100]⟩, .string ⟨#[99, 111, 110, 116, 101, 110, 116, 45, 108, 101, 110, 103, 116, 104]⟩, .string a] 110, .cells #[.string ⟨#[116, 114, 97, 110, 115, 102, 101, 114, 45, 69, 110, 99, 111, 100, 105, 110, 103]⟩, .string ⟨#[99, 104, 117, 110, 107, 101, 100]⟩, .string ⟨#[84, 114, 97, 110, 115, 102, 101, 114, 45, 69, 110, 99, 111, 100, 105, 110, 103]⟩, .string ⟨#[99, 104, 117, 110, 107, 101, 100]⟩] 110, .cells #[.string ⟨#[84, 114, 97, 110, 115, 102, 101, 114, 45, 69, 110, 99, 111, 100, 105, 110, 103]⟩, .string ⟨#[103, 122, 105, 112, 44, 32, 99, 104, 117, 110, 107, 101, 100]⟩] 110, .cells #[.string ⟨#[67, 111, 110, 116, 101, 110, 116, 45, 76, 101, 110, 103, 116, 104]⟩, .string ⟨#[43, 53]⟩] 110, .cells #[.string ⟨#[67, 111, 110, 116, 101, 110, 116, 45, 76, 101, 110, 103, 116, 104]⟩, .string ⟨#[53, 44, 32, 53]⟩] 110, .cells #[.string ⟨#[67, 111, 110, 116, 101, 110, 116, 45, 76, 101, 110, 103, 116, 104]⟩, .string ⟨#[]⟩] 110, .cells #[.string ⟨#[67, 111, 110, 116, 101, 110, 116, 45, 76, 101, 110, 103, 116, 104]⟩, .string ⟨#[49, 48, 57, 57, 53, 49, 49, 54, 50, 55, 55, 55, 55]⟩] 110, .cells #[.slice (some ⟨w.heap.size, 0, none⟩) 2 2, .slice (some ⟨w.heap.size + 1, 0, none⟩) 2 2, .slice (some ⟨w.heap.size + 1 + 1, 0, none⟩) 2 2, .slice (some ⟨w.heap.size + 1 + 1 + 1, 0, none⟩) 1 1, .slice (some ⟨w.heap.size + 1 + 1 + 1 + 1, 0, none⟩) 1 1, .slice (some ⟨w.heap.size + 1 + 1 + 1 + 1 + 1, 0, none⟩) 1 1, .slice (some ⟨w.heap.size + 1 + 1 + 1 + 1 + 1 + 1, 0, none⟩) 1 1, .slice (some ⟨w.heap.size + 1 + 1 + 1 + 1 + 1 + 1 + 1, 0, none⟩) 1 1] 44]
theorem objs_at (w : World) (a b : ByteArray) (q : Nat) (hq : q < 8) : ∃ g n, (allocs w (objs w a b)).cell? ⟨w.heap.size + 8, q, none⟩ = some (.slice (some ⟨g, 0, none⟩) n n) ∧ n ≤ 2 ∧
    Rd (allocs w (objs w a b)) (allocs w (objs w a b)).heap.size 2 (some ⟨g, 0, none⟩) n (fcells (rows a.data.toList b.data.toList q)) := by
  have h8 := fun j => allocs_cell (objs w a b) w 8 j _ _ rfl
  rcases q with _ | _ | _ | _ | _ | _ | _ | _ | q
  · exact ⟨_, 2, by rw [h8]; rfl, by omega, allocs_rd (objs w a b) w 0 2 2 _ _ rfl rfl⟩
  · exact ⟨_, 2, by rw [h8]; rfl, by omega, allocs_rd (objs w a b) w 1 2 2 _ _ rfl rfl⟩
  · exact ⟨_, 2, by rw [h8]; rfl, by omega, allocs_rd (objs w a b) w 2 2 2 _ _ rfl rfl⟩
  · exact ⟨_, 1, by rw [h8]; rfl, by omega, allocs_rd (objs w a b) w 3 1 2 _ _ rfl rfl⟩
  · exact ⟨_, 1, by rw [h8]; rfl, by omega, allocs_rd (objs w a b) w 4 1 2 _ _ rfl rfl⟩
  · exact ⟨_, 1, by rw [h8]; rfl, by omega, allocs_rd (objs w a b) w 5 1 2 _ _ rfl rfl⟩
  · exact ⟨_, 1, by rw [h8]; rfl, by omega, allocs_rd (objs w a b) w 6 1 2 _ _ rfl rfl⟩
  · exact ⟨_, 1, by rw [h8]; rfl, by omega, allocs_rd (objs w a b) w 7 1 2 _ _ rfl rfl⟩
  · omega
theorem rows_ok (a b : List UInt8) (q : Nat) (ha : a.length ≤ 100) (hb : b.length ≤ 100) : fsOk (rows a b q) := by
  have h1 : ∀ l ∈ [capCL, mixCL, capTE, mixTE, nameCL, chunkedL, gzipChunked, [43, 53], [53, 44, 32, 53], [], [49, 48, 57, 57, 53, 49, 49, 54, 50, 55, 55, 55, 55]], l.length ≤ 1000000 := by decide
  rcases q with _ | _ | _ | _ | _ | _ | _ | q <;> intro f hf
  · rcases List.mem_cons.1 (show f ∈ [(capCL, a), (mixCL, b)] from hf) with rfl | hf
    · exact ⟨h1 _ (by simp), show a.length ≤ 1000000 by omega⟩
    · obtain rfl := List.mem_singleton.1 hf; exact ⟨h1 _ (by simp), show b.length ≤ 1000000 by omega⟩
  · rcases List.mem_cons.1 (show f ∈ [(capTE, chunkedL), (nameCL, a)] from hf) with rfl | hf
    · exact ⟨(h1 _ (by simp)), (h1 _ (by simp))⟩
    · obtain rfl := List.mem_singleton.1 hf; exact ⟨h1 _ (by simp), show a.length ≤ 1000000 by omega⟩
  · rcases List.mem_cons.1 (show f ∈ [(mixTE, chunkedL), (capTE, chunkedL)] from hf) with rfl | hf
    · exact ⟨(h1 _ (by simp)), (h1 _ (by simp))⟩
    · obtain rfl := List.mem_singleton.1 hf; exact ⟨(h1 _ (by simp)), (h1 _ (by simp))⟩
  · obtain rfl := List.mem_singleton.1 (show f ∈ [(capTE, gzipChunked)] from hf); exact ⟨(h1 _ (by simp)), (h1 _ (by simp))⟩
  · obtain rfl := List.mem_singleton.1 (show f ∈ [(capCL, [43, 53])] from hf); exact ⟨(h1 _ (by simp)), (h1 _ (by simp))⟩
  · obtain rfl := List.mem_singleton.1 (show f ∈ [(capCL, [53, 44, 32, 53])] from hf); exact ⟨(h1 _ (by simp)), (h1 _ (by simp))⟩
  · obtain rfl := List.mem_singleton.1 (show f ∈ [(capCL, [])] from hf); exact ⟨(h1 _ (by simp)), (h1 _ (by simp))⟩
  · obtain rfl := List.mem_singleton.1 (show f ∈ [(capCL, [49, 48, 57, 57, 53, 49, 49, 54, 50, 55, 55, 55, 55])] from hf); exact ⟨(h1 _ (by simp)), (h1 _ (by simp))⟩

end Go.Proofs.YtijlaclngibekaaGreatDoor.FrameSmugglesP

/- Boxes, behind the framing laws. -/
namespace Go.Proofs.YtijlaclngibekaaGreatDoor
end Go.Proofs.YtijlaclngibekaaGreatDoor
/- A head's line, version, target: contracts of concertina/head's small functions. -/
namespace Go.Proofs.YtijlaclngibekaaGreatDoor
open Go.RowKit

theorem trimL_short (l : List UInt8) : (trimL l).length ≤ l.length := by
  show ((l.reverse.dropWhile blankB).reverse.dropWhile blankB).length ≤ _
  have h1 := (List.dropWhile_suffix blankB (l := l.reverse)).length_le
  have h2 := (List.dropWhile_suffix blankB (l := (l.reverse.dropWhile blankB).reverse)).length_le
  simp only [List.length_reverse] at h1 h2
  omega
theorem results_f2 {fn : Func} {p u : Tmp} (h : fn.results = #[.cell p 110, .tmp u]) (tmps : Array Value) (w : World) (g : Nat) (a b e : Value) (hb : Box w g [a, b]) (hp : tmps.getD p undef = .pointer (some ⟨g, 0, none⟩)) (hu : tmps.getD u undef = e) :
    (results fn tmps).run Tryz.prog w = .ok (.tuple #[.agg #[a, b], e]) w := by
  have hp' : tmps[p]?.getD undef = .pointer (some ⟨g, 0, none⟩) := by simpa using hp
  have hu' : tmps[u]?.getD undef = e := by simpa using hu
  obtain ⟨k0, k1⟩ := hb.two
  simp [results, h, hp', hu', go_sem, k0, k1]

set_option maxRecDepth 100000 in
set_option maxHeartbeats 3200000 in
theorem line_any (s : ByteArray) (w : World) (hs : s.size ≤ 100000) :
    Calls Tryz.prog 182 #[.string s] w fun e w' => e = .returned (.tuple #[.agg #[.string ⟨(lineF s.data.toList).1.toArray⟩, .string ⟨(lineF s.data.toList).2.toArray⟩], .bool (lineOk s.data.toList)]) ∧ Below w.heap.size w w' := by
  have hc := fun w => strcut_any s 58 w (by omega)
  have hle1 := cutHead_le 58 s.data.toList
  have hss := size_of s
  have hle2 : (cutTail 58 s.data.toList).length ≤ s.data.toList.length := by unfold cutTail; simp
  unfold lineF lineOk
  obtain ⟨hd, hhd⟩ : ∃ hd, hd = cutHead 58 s.data.toList := ⟨_, rfl⟩
  obtain ⟨tl, htl⟩ : ∃ tl, tl = cutTail 58 s.data.toList := ⟨_, rfl⟩
  obtain ⟨bs, hbs⟩ : ∃ h, h = cutHas 58 s.data.toList := ⟨_, rfl⟩
  simp only [← hhd, ← htl, ← hbs] at hc hle1 hle2 ⊢
  have hle3 := trimL_short tl
  have q1 := fun w => trim_any ⟨tl.toArray⟩ w (by rw [mk_size]; omega)
  obtain ⟨th, hth⟩ : ∃ t, t = trimL tl := ⟨_, rfl⟩
  simp only [← hth] at q1 hle3 ⊢
  have q2 := fun w => goodName_any ⟨hd.toArray⟩ w (by rw [mk_size]; omega)
  have q3 := fun w => goodValue_any ⟨th.toArray⟩ w (by rw [mk_size]; omega)
  obtain ⟨gn, hgn⟩ : ∃ x, x = goodNameL hd := ⟨_, rfl⟩
  obtain ⟨gv, hgv⟩ : ∃ x, x = goodValueL th := ⟨_, rfl⟩
  simp only [← hgn, ← hgv] at q2 q3 ⊢
  obtain ⟨bhd, e1⟩ : ∃ b : ByteArray, b = ⟨hd.toArray⟩ := ⟨_, rfl⟩
  obtain ⟨btl, e2⟩ : ∃ b : ByteArray, b = ⟨tl.toArray⟩ := ⟨_, rfl⟩
  obtain ⟨bth, e3⟩ : ∃ b : ByteArray, b = ⟨th.toArray⟩ := ⟨_, rfl⟩
  simp only [← e1, ← e2, ← e3] at hc q1 q2 q3 ⊢
  clear e1 e2 e3 hgn hgv hth hle1 hle2 hle3 hss hhd htl hbs hs
  have fin : ∀ (w1 : World) (fn : Func) (tm : Array Value) (x y : Value) (r : Bool), Below (w.heap.size + 1) (w.alloc (.cells #[.string ⟨#[]⟩, .string ⟨#[]⟩] 110)) w1 → fn.results = #[.cell 2 110, .tmp 3] → tm.getD 2 undef = .pointer (some ⟨w.heap.size, 0, none⟩) → tm.getD 3 undef = .bool r →
      (results fn tm).run Tryz.prog (fill2 w1 w.heap.size x y) = .ok (.tuple #[.agg #[x, y], .bool r]) (fill2 w1 w.heap.size x y) := by
    intro w1 fn tm x y r T hf h2 h3
    have B0 : Box w1 w.heap.size [.string ⟨#[]⟩, .string ⟨#[]⟩] := (Box.new w #[.string ⟨#[]⟩, .string ⟨#[]⟩] 110).below (T.mono (by simp))
    exact results_f2 hf tm _ _ x y _ (B0.fill2 x y) h2 h3
  have fin2 : ∀ (w1 : World) (x y : Value), Below (w.heap.size + 1) (w.alloc (.cells #[.string ⟨#[]⟩, .string ⟨#[]⟩] 110)) w1 → Below w.heap.size w (fill2 w1 w.heap.size x y) := fun w1 x y T =>
    below_fill2 (((Below.refl _ w).alloc (Nat.le_refl _) _).trans (T.mono (by omega))) (Nat.le_refl _) _ _
  rcases bs with _ | _
  · go_enter Tryz.func182, Tryz.ntmps182
    go_wp2_with fail
    refine (hc _).mono ?_
    rintro e w1 ⟨rfl, T⟩
    go_wp2_with fail
    refine (q1 w1).mono ?_
    rintro e w2 ⟨rfl, k⟩
    replace T := T.trans (k.mono T.size)
    clear k
    have k0 : w2.cell? ⟨w.heap.size, 0, none⟩ = some (.string ⟨#[]⟩) := new_kept (i := 0) T (by simp) rfl
    have k1 : w2.cell? ⟨w.heap.size, 1, none⟩ = some (.string ⟨#[]⟩) := new_kept (i := 1) T (by simp) rfl
    have f0 := new_free (i := 0) T (by simp)
    have f1 := new_free (i := 1) T (by simp)
    go_wp2_with fail
    replace T : Below (w.heap.size + 1) (w.alloc (.cells #[.string ⟨#[]⟩, .string ⟨#[]⟩] 110)) w2 := by simpa using T
    exact bodyPost_ret (v := .tuple #[.agg #[.string bhd, .string bth], .bool false]) (fin w2 _ _ (.string bhd) (.string bth) false T Tryz.results182 rfl rfl) rfl ⟨rfl, fin2 w2 _ _ T⟩
  · rcases gn with _ | _
    · go_enter Tryz.func182, Tryz.ntmps182
      go_wp2_with fail
      refine (hc _).mono ?_
      rintro e w1 ⟨rfl, T⟩
      go_wp2_with fail
      refine (q1 w1).mono ?_
      rintro e w2 ⟨rfl, k⟩
      replace T := T.trans (k.mono T.size)
      clear k
      have k0 : w2.cell? ⟨w.heap.size, 0, none⟩ = some (.string ⟨#[]⟩) := new_kept (i := 0) T (by simp) rfl
      have k1 : w2.cell? ⟨w.heap.size, 1, none⟩ = some (.string ⟨#[]⟩) := new_kept (i := 1) T (by simp) rfl
      have f0 := new_free (i := 0) T (by simp)
      have f1 := new_free (i := 1) T (by simp)
      go_wp2_with fail
      refine (q2 w2).mono ?_
      rintro e w3 ⟨rfl, rfl⟩
      go_wp2_with fail
      replace T : Below (w.heap.size + 1) (w.alloc (.cells #[.string ⟨#[]⟩, .string ⟨#[]⟩] 110)) w2 := by simpa using T
      exact bodyPost_ret (v := .tuple #[.agg #[.string bhd, .string bth], .bool false]) (fin w2 _ _ (.string bhd) (.string bth) false T Tryz.results182 rfl rfl) rfl ⟨rfl, fin2 w2 _ _ T⟩
    · go_enter Tryz.func182, Tryz.ntmps182
      go_wp2_with fail
      refine (hc _).mono ?_
      rintro e w1 ⟨rfl, T⟩
      go_wp2_with fail
      refine (q1 w1).mono ?_
      rintro e w2 ⟨rfl, k⟩
      replace T := T.trans (k.mono T.size)
      clear k
      go_wp2_with fail
      refine (q2 w2).mono ?_
      rintro e w3 ⟨rfl, rfl⟩
      go_wp2_with fail
      refine (q3 w2).mono ?_
      rintro e w3 ⟨rfl, k⟩
      replace T := T.trans (k.mono T.size)
      clear k
      have k0 : w3.cell? ⟨w.heap.size, 0, none⟩ = some (.string ⟨#[]⟩) := new_kept (i := 0) T (by simp) rfl
      have k1 : w3.cell? ⟨w.heap.size, 1, none⟩ = some (.string ⟨#[]⟩) := new_kept (i := 1) T (by simp) rfl
      have f0 := new_free (i := 0) T (by simp)
      have f1 := new_free (i := 1) T (by simp)
      go_wp2_with fail
      replace T : Below (w.heap.size + 1) (w.alloc (.cells #[.string ⟨#[]⟩, .string ⟨#[]⟩] 110)) w3 := by simpa using T
      exact bodyPost_ret (v := .tuple #[.agg #[.string bhd, .string bth], .bool gv]) (fin w3 _ _ (.string bhd) (.string bth) gv T Tryz.results182 rfl rfl) rfl ⟨rfl, fin2 w3 _ _ T⟩

set_option maxRecDepth 100000 in
set_option maxHeartbeats 3200000 in
theorem minor_any (s : ByteArray) (w : World) :
    Calls Tryz.prog 138 #[.string s] w fun e w' => e = .returned (.tuple #[.int .i64 (if minorOk s.data.toList then minorN s.data.toList else 0 : Nat), .bool (minorOk s.data.toList)]) ∧ w = w' := by
  have hc := fun w => Tryz.strings_CutPrefix s ⟨#[72, 84, 84, 80, 47, 49, 46]⟩ w
  change ∀ w, Calls Tryz.prog 184 _ w (fun e w' => e = .returned (.tuple #[.string ⟨(Lib.trimPrefix s.data.toList verL).toArray⟩, .bool (Lib.hasPrefix s.data.toList verL)]) ∧ w' = w) at hc
  unfold minorOk minorN
  obtain ⟨t, ht⟩ : ∃ t, t = Lib.trimPrefix s.data.toList verL := ⟨_, rfl⟩
  obtain ⟨b, hb⟩ : ∃ t, t = Lib.hasPrefix s.data.toList verL := ⟨_, rfl⟩
  simp only [← ht, ← hb] at hc ⊢
  clear ht hb
  rcases b with _ | _
  · obtain ⟨bt, ebt⟩ : ∃ b : ByteArray, b = ⟨t.toArray⟩ := ⟨_, rfl⟩
    simp only [← ebt] at hc
    clear ebt
    go_enter Tryz.func138, Tryz.ntmps138
    go_wp2_with fail
    refine (hc _).mono ?_
    rintro e w1 ⟨rfl, rfl⟩
    go_wp2_with fail
    go_ret2
    exact ⟨rfl, rfl⟩
  · by_cases h0 : t = [48]
    · subst h0
      go_enter Tryz.func138, Tryz.ntmps138
      go_wp2_with fail
      refine (hc _).mono ?_
      rintro e w1 ⟨rfl, rfl⟩
      go_wp2_with fail
      go_ret2
      exact ⟨rfl, rfl⟩
    · by_cases h1 : t = [49]
      · subst h1
        go_enter Tryz.func138, Tryz.ntmps138
        go_wp2_with fail
        refine (hc _).mono ?_
        rintro e w1 ⟨rfl, rfl⟩
        go_wp2_with fail
        go_ret2
        exact ⟨rfl, rfl⟩
      · have e0 : (t == [48]) = false := by simpa using h0
        have e1 : (t == [49]) = false := by simpa using h1
        have x0 : ((⟨t.toArray⟩ : ByteArray).toList == [48]) = false := by rw [ByteArray.toList_eq]; exact e0
        have x1 : ((⟨t.toArray⟩ : ByteArray).toList == [49]) = false := by rw [ByteArray.toList_eq]; exact e1
        rw [e0, e1]
        obtain ⟨bt, ebt⟩ : ∃ b : ByteArray, b = ⟨t.toArray⟩ := ⟨_, rfl⟩
        simp only [← ebt] at hc x0 x1
        clear ebt h0 h1 e0 e1
        go_enter Tryz.func138, Tryz.ntmps138
        go_wp2_with fail
        refine (hc _).mono ?_
        rintro e w1 ⟨rfl, rfl⟩
        go_wp2_with fail
        go_ret2
        exact ⟨rfl, rfl⟩

set_option maxRecDepth 100000 in
set_option maxHeartbeats 3200000 in
theorem goodTarget_any (s : ByteArray) (w : World) (hs : s.size ≤ 140737488355328) :
    Calls Tryz.prog 137 #[.string s] w fun e w' => e = .returned (.bool (targetL s.data.toList)) ∧ w = w' := by
  have hc := fun w => Tryz.strings_HasPrefix s ⟨#[47]⟩ w
  change ∀ w, Calls Tryz.prog 145 _ w (fun e w' => e = .returned (.bool (Lib.hasPrefix s.data.toList [47])) ∧ w' = w) at hc
  have HL := hide (size_of s)
  unfold targetL slashOk
  obtain ⟨b, hb⟩ : ∃ t, t = Lib.hasPrefix s.data.toList [47] := ⟨_, rfl⟩
  simp only [← hb] at hc ⊢
  clear hb
  obtain ⟨r, hr⟩ : ∃ r, r = (s.data.toList.all slashB && (b && decide (s.data.toList.length ≤ 2048))) := ⟨_, rfl⟩
  rw [← hr]
  have HR := hide hr
  clear hr
  go_enter Tryz.func137, Tryz.ntmps137
  go_wp2_with fail
  go_loop [6] (fun i => ∃ k : Nat, k ≤ s.size ∧ i = .int .i64 k ∧ (s.data.toList.take k).all slashB = true) (fun i => s.size - (intOf i).toNat)
  case atStart => exact ⟨0, Nat.zero_le _, rfl, rfl⟩
  case round =>
    obtain ⟨k, hk, rfl, ha⟩ := hrel
    have HA := hide ha
    clear ha
    by_cases hlt : k < s.size
    · have hts := all_take_snoc (p := slashB) s k hlt
      have HT := hide hts
      clear hts
      have hfa : slashB s[k] = false → s.data.toList.all slashB = false := all_false (p := slashB) s k hlt
      have HF := hide hfa
      clear hfa
      obtain ⟨c, hcc⟩ : ∃ c, s[k] = c := ⟨_, rfl⟩
      rw [hcc] at HT HF
      have hc256 : c.toNat < 256 := c.toNat_lt
      by_cases h1 : (c.toNat : Int) < 33
      · have hv : slashB c = false := by unfold slashB; rw [decide_eq_false]; omega
        have HV := hide (HF.out hv)
        clear hv HF HT
        go_wp2_with fail
        go_ret
        exact ⟨ret_bool (by rw [HR.out, HV.out]; rfl), rfl⟩
      · by_cases h2 : 126 < (c.toNat : Int)
        · have hv : slashB c = false := by unfold slashB; rw [decide_eq_false]; omega
          have HV := hide (HF.out hv)
          clear hv HF HT
          go_wp2_with fail
          go_ret
          exact ⟨ret_bool (by rw [HR.out, HV.out]; rfl), rfl⟩
        · have hv : slashB c = true := by unfold slashB; rw [decide_eq_true]; omega
          have HV := hide hv
          clear hv HF
          go_wp2_with fail
          go_round
          case rel => exact ⟨k + 1, by omega, by go_num, by rw [HT.out, HA.out, HV.out]; rfl⟩
          case measure => simp [intOf]; omega
    · have hfin : s.data.toList.all slashB = true := by have := HA.out; rwa [take_all s k (by omega)] at this
      have HF := hide hfin
      clear hfin
      rcases b with _ | _
      · go_wp2_with fail
        refine (hc _).mono ?_
        rintro e w1 ⟨rfl, rfl⟩
        go_wp2_with fail
        go_ret
        exact ⟨ret_bool (by rw [HR.out, HF.out]; rfl), rfl⟩
      · go_wp2_with fail
        refine (hc _).mono ?_
        rintro e w1 ⟨rfl, rfl⟩
        go_wp2_with fail
        all_goals go_ret
        all_goals
          refine ⟨ret_bool ?_, rfl⟩
          rw [HR.out, HF.out, ← HL.out, Bool.eq_iff_iff]
          simp
          try omega
end Go.Proofs.YtijlaclngibekaaGreatDoor
/- head.parse: the lines of a head as a first line and fields. -/
namespace Go.Proofs.YtijlaclngibekaaGreatDoor
open Go.RowKit

theorem splitB_scells (sep s : ByteArray) (k : Nat) : (Lib.splitB sep 0 k s).map Value.string = scells (Lib.splitK sep.data.toList 0 k s.data.toList) := by
  rw [← Lib.splitB_data]
  unfold scells
  rw [List.map_map]
  refine List.map_congr_left fun x _ => ?_
  show Value.string x = Value.string ⟨x.data.toList.toArray⟩
  rw [bytes_of]
theorem split_len (s sep : ByteArray) (h1 : 1 ≤ sep.size) : (Lib.split s.data.toList sep.data.toList).length = Lib.countB s sep + 1 := by
  have := Lib.splitB_all sep h1 0 _ s rfl
  rw [← this, ← List.length_map (f := Value.string), splitB_scells, scells_length]; rfl
theorem strsplit_any (s sep : ByteArray) (mx : Int) (w : World) (hs : s.size ≤ 1000000) (hm : w.cell? ⟨1, 0, none⟩ = some (.int .i64 mx)) (h1 : 1 ≤ sep.size) :
    Calls Tryz.prog 136 #[.string s, .string sep] w fun e w' => e = .returned (.slice (some ⟨w.heap.size, 0, none⟩) (Lib.split s.data.toList sep.data.toList).length (Lib.split s.data.toList sep.data.toList).length) ∧
      Rd w' (w.heap.size + 1) 1 (some ⟨w.heap.size, 0, none⟩) (Lib.split s.data.toList sep.data.toList).length (scells (Lib.split s.data.toList sep.data.toList)) ∧ Below w.heap.size w w' := by
  refine (Tryz.strings_Split s sep mx w (by omega) hm h1).mono ?_
  rintro e w' ⟨rfl, rfl⟩
  have hl := split_len s sep h1
  refine ⟨by rw [hl], ?_, (Below.refl _ _).alloc (Nat.le_refl _) _⟩
  refine ⟨by rw [scells_length, Nat.mul_one], .inr ⟨_, rfl, Nat.lt_succ_self _, fun j u hu => ?_⟩⟩
  rw [Addr.add_lit, cell_of_row _ w.heap.size _ _ _ (0, 0) (heap_alloc_new w _), splitB_scells]
  simpa [Lib.split] using hu

def pFirst (b : List UInt8) : List UInt8 := if parseE b = 0 then lineoneL b else []
def pFs (b : List UInt8) : List (List UInt8 × List UInt8) := if parseE b = 0 then fieldsL b else []
set_option maxRecDepth 100000 in
set_option maxHeartbeats 3200000 in
theorem parse_any (A : Option Addr) (n c B : Nat) (bs : List UInt8) (mx : Int) (w : World) (h : Rd w B 1 A n (bcells bs)) (hB : B ≤ w.heap.size) (hn : n ≤ 100000) (hm : w.cell? ⟨1, 0, none⟩ = some (.int .i64 mx)) :
    Calls Tryz.prog 135 #[.slice A n c] w fun e w' => ∃ A' c', e = .returned (.tuple #[.string ⟨(pFirst bs).toArray⟩, .slice A' (pFs bs).length c', .int .i64 (parseE bs)]) ∧
      w'.ownsRow w.heap.size 110 2 (.slice A' (pFs bs).length c') (pFs bs).length (fcells (pFs bs)) ∧ Below w.heap.size w w' := by
  have hlen : bs.length = n := by have := h.1; rw [bcells_length] at this; omega
  by_cases hbig : 16384 < n
  · have hE : parseE bs = 6 := by unfold parseE; rw [hlen, if_pos hbig]
    have h1 : pFirst bs = [] := by unfold pFirst; rw [hE]; rfl
    have h2 : pFs bs = [] := by unfold pFs; rw [hE]; rfl
    rw [hE, h1, h2]
    clear hE h1 h2 hlen
    go_enter Tryz.func135, Tryz.ntmps135
    go_wp2_with fail
    go_ret3
    exact ⟨none, 0, rfl, World.ownsRow_nil _ _ _ _, Below.refl _ _⟩
  have hcv := run_string_of (P := Tryz.prog) 35 9 5 Tryz.underlying35 Tryz.underlying5 Tryz.underlying9 w B n c A bs h
  have hcs := fun w => Tryz.strings_CutSuffix ⟨bs.toArray⟩ ⟨#[13, 10, 13, 10]⟩ w (by rw [mk_size]; omega)
  change ∀ w, Calls Tryz.prog 181 _ w (fun e w' => e = .returned (.tuple #[.string ⟨(Lib.trimSuffix bs endL).toArray⟩, .bool (Lib.hasSuffix bs endL)]) ∧ w' = w) at hcs
  by_cases hsf : Lib.hasSuffix bs endL = false
  · have hE : parseE bs = 2 := by unfold parseE; rw [hlen, if_neg hbig, if_pos hsf]
    have h1 : pFirst bs = [] := by unfold pFirst; rw [hE]; rfl
    have h2 : pFs bs = [] := by unfold pFs; rw [hE]; rfl
    rw [hE, h1, h2]
    rw [hsf] at hcs
    obtain ⟨t, ht⟩ : ∃ t : ByteArray, t = ⟨(Lib.trimSuffix bs endL).toArray⟩ := ⟨_, rfl⟩
    obtain ⟨s, hs⟩ : ∃ t : ByteArray, t = ⟨bs.toArray⟩ := ⟨_, rfl⟩
    simp only [← ht, ← hs] at hcs hcv
    clear hE h1 h2 hlen hsf ht hs
    go_enter Tryz.func135, Tryz.ntmps135
    go_wp2_with fail
    refine (hcs _).mono ?_
    rintro e w1 ⟨rfl, rfl⟩
    go_wp2_with fail
    go_ret3
    exact ⟨none, 0, rfl, World.ownsRow_nil _ _ _ _, Below.refl _ _⟩
  have hsf' : Lib.hasSuffix bs endL = true := by simpa using hsf
  rw [hsf'] at hcs
  have htl : (Lib.trimSuffix bs endL).length ≤ bs.length := Lib.trimSuffix_le _ _
  have hE : parseE bs = if 65 < (linesL (Lib.trimSuffix bs endL)).length then 6 else if (linesL (Lib.trimSuffix bs endL)).tail.all lineOk then 0 else 2 := by unfold parseE; rw [hlen, if_neg hbig, if_neg hsf]
  have hF : lineoneL bs = (linesL (Lib.trimSuffix bs endL)).headD [] := rfl
  have hG : fieldsL bs = (linesL (Lib.trimSuffix bs endL)).tail.map lineF := rfl
  unfold pFirst pFs
  rw [hE, hF, hG]
  have hsp := fun w hm => strsplit_any ⟨(Lib.trimSuffix bs endL).toArray⟩ ⟨#[13, 10]⟩ mx w (by rw [mk_size]; omega) hm (by decide)
  have hmem : ∀ x ∈ linesL (Lib.trimSuffix bs endL), x.length ≤ 100000 := fun x hx => by
    have := splitK_mem _ _ _ _ hx; omega
  rw [show (⟨#[13, 10]⟩ : ByteArray).data.toList = crlfL from rfl, show (⟨(Lib.trimSuffix bs endL).toArray⟩ : ByteArray).data.toList = Lib.trimSuffix bs endL from rfl] at hsp
  have hpos := split_pos (Lib.trimSuffix bs endL) crlfL
  have hll := splitK_len (Lib.count (Lib.trimSuffix bs endL) crlfL) crlfL (Lib.trimSuffix bs endL)
  change ∀ w hm, Calls _ _ _ w (fun e w' => e = .returned (.slice (some ⟨w.heap.size, 0, none⟩) (linesL (Lib.trimSuffix bs endL)).length (linesL (Lib.trimSuffix bs endL)).length) ∧ Rd w' (w.heap.size + 1) 1 (some ⟨w.heap.size, 0, none⟩) (linesL (Lib.trimSuffix bs endL)).length (scells (linesL (Lib.trimSuffix bs endL))) ∧ Below w.heap.size w w') at hsp
  obtain ⟨L, hL⟩ : ∃ L, L = linesL (Lib.trimSuffix bs endL) := ⟨_, rfl⟩
  rw [← hL]
  change 1 ≤ (linesL (Lib.trimSuffix bs endL)).length at hpos
  have hlb : (linesL (Lib.trimSuffix bs endL)).length ≤ 200000 := by
    have h1 := Lib.count_le (Lib.trimSuffix bs endL) crlfL
    unfold linesL Lib.split; omega
  simp only [← hL] at hsp hmem hpos hlb
  obtain ⟨m, hmL⟩ : ∃ m, L.length = m := ⟨_, rfl⟩
  rw [hmL]
  simp only [hmL] at hsp hpos hlb
  obtain ⟨t, ht⟩ : ∃ t : ByteArray, t = ⟨(Lib.trimSuffix bs endL).toArray⟩ := ⟨_, rfl⟩
  obtain ⟨s, hs⟩ : ∃ t : ByteArray, t = ⟨bs.toArray⟩ := ⟨_, rfl⟩
  simp only [← ht] at hsp
  simp only [← ht, ← hs] at hcs
  simp only [← hs] at hcv
  have HM := hide hmL
  have HMEM := hide hmem
  have hbig' : n ≤ 16384 := by omega
  clear hE hF hG hlen hsf hsf' ht hs hL hmL hmem hll htl hbig
  by_cases h65 : 65 < m
  · rw [if_pos h65, if_neg (by decide), if_neg (by decide)]
    go_enter Tryz.func135, Tryz.ntmps135
    go_wp2_with fail
    refine (hcs _).mono ?_
    rintro e w1 ⟨rfl, rfl⟩
    go_wp2_with fail
    refine (hsp _ hm).mono ?_
    rintro e w1 ⟨rfl, r1, b1⟩
    go_wp2_with fail
    go_ret3
    exact ⟨none, 0, rfl, World.ownsRow_nil _ _ _ _, b1⟩
  rw [if_neg h65]
  by_cases hm1 : m = 1
  · subst hm1
    have hL1 : L.tail = [] := List.eq_nil_of_length_eq_zero (by rw [List.length_tail, HM.out])
    rw [hL1]
    have hl0 : 0 < L.length := by rw [HM.out]; decide
    have hx0 : L.headD [] = L[0] := (head_of hl0).symm
    rw [hx0]
    go_enter Tryz.func135, Tryz.ntmps135
    go_wp2_with fail
    refine (hcs _).mono ?_
    rintro e w1 ⟨rfl, hw1⟩
    rw [hw1]
    go_wp2_with fail
    refine (hsp _ hm).mono ?_
    rintro e w2 ⟨rfl, r1, b1⟩
    obtain ⟨a, ha, -, hcell⟩ := r1.text (k := 0) (by decide) hl0
    cases ha
    rw [Addr.add_zero'] at hcell
    clear hw1 hL1 hx0
    go_wp2_with fail
    go_loopw [8, 33] (fun o i wr => o = .slice none 0 0 ∧ i = .int .i64 0 ∧ wr = w2) (fun _ _ _ => 0)
    case atStart => exact ⟨rfl, rfl, rfl⟩
    case round =>
      obtain ⟨rfl, rfl, rfl⟩ := hrel
      go_wp2_with fail
      go_ret3
      exact ⟨none, 0, rfl, World.ownsRow_nil _ _ _ _, b1⟩
  obtain ⟨x0, T, hLT⟩ : ∃ x0 T, L = x0 :: T := by
    rcases L with _ | ⟨x0, T⟩
    · have := HM.out; simp at this; omega
    · exact ⟨x0, T, rfl⟩
  subst hLT
  have hTm : T.length = m - 1 := by have := HM.out; simp at this; omega
  have HTM := hide hTm
  have hr1' : ∀ w2 : World, Rd w2 (w.heap.size + 1) 1 (some ⟨w.heap.size, 0, none⟩) m (scells (x0 :: T)) → w2.cell? ⟨w.heap.size, 0, none⟩ = some (.string ⟨x0.toArray⟩) ∧ ∀ (k : Nat) (hk : k < T.length), w2.cell? ⟨w.heap.size, 1 + k, none⟩ = some (.string ⟨T[k].toArray⟩) := by
    intro w2 r
    have ht := fun k (hk : k < m) => r.text (k := k) hk (by rw [HM.out]; exact hk)
    constructor
    · obtain ⟨a, ha, -, hc⟩ := ht 0 (by omega)
      cases ha
      rw [Addr.add_zero'] at hc
      exact hc
    · intro k hk
      obtain ⟨a, ha, -, hc⟩ := ht (k + 1) (by omega)
      cases ha
      rw [Addr.add_lit] at hc
      rw [show 1 + k = 0 + (k + 1) by omega]
      exact hc
  rw [List.tail_cons, List.headD_cons]
  obtain ⟨r, hr⟩ : ∃ r : Nat, r = if T.all lineOk then 0 else 2 := ⟨_, rfl⟩
  rw [← hr]
  have HR := hide hr
  clear hr hTm
  go_enter Tryz.func135, Tryz.ntmps135
  go_wp2_with fail
  refine (hcs _).mono ?_
  rintro e w1 ⟨rfl, hw1⟩
  rw [hw1]
  go_wp2_with fail
  refine (hsp _ hm).mono ?_
  rintro e w2 ⟨rfl, r1, b1⟩
  obtain ⟨c0, ck⟩ := hr1' w2 r1
  clear hw1 hr1' r1 hcs hsp hcv
  go_wp2_with fail
  obtain ⟨i0, hi0, hz0, hz1, hz2⟩ := info_parts infoFld
  have hm63 : m - 1 ≤ 64 := by omega
  have hwz : w.heap.size < w2.heap.size := World.block_lt_of_cell? w2 _ c0
  go_loopw [8, 33] (fun o i wr => ∃ k : Nat, k ≤ m - 1 ∧ i = .int .i64 k ∧ (T.take k).all lineOk = true ∧ wr.ownsRow w2.heap.size 110 2 o k (fcells ((T.take k).map lineF)) ∧ Below w2.heap.size w2 wr) (fun _ i _ => m - (intOf i).toNat)
  case atStart => exact ⟨0, Nat.zero_le _, rfl, rfl, World.ownsRow_nil _ _ _ _, Below.refl _ _⟩
  case round =>
    obtain ⟨k, hk, rfl, ha, ho, hb⟩ := hrel
    have hbz := hb.size
    have HA := hide ha
    clear ha
    by_cases hlt : k < m - 1
    · have hkT : k < T.length := by rw [HTM.out]; exact hlt
      have e0 := (hb.cell (p := ⟨w.heap.size, 1 + k, none⟩) hwz).trans (ck k hkT)
      have hsnoc := list_take_snoc T k hkT
      have hxl := HMEM.out T[k] (List.mem_cons_of_mem _ (List.getElem_mem hkT))
      have hxT : T[k] ∈ T := List.getElem_mem hkT
      obtain ⟨x, hx⟩ : ∃ x, x = T[k] := ⟨_, rfl⟩
      rw [← hx] at e0 hsnoc hxl hxT
      have ql := fun w => line_any ⟨x.toArray⟩ w (by rw [mk_size]; exact hxl)
      rw [mk_list] at ql
      have hnA : (lineF x).1 = (⟨(lineF x).1.toArray⟩ : ByteArray).data.toList := rfl
      have hnB : (lineF x).2 = (⟨(lineF x).2.toArray⟩ : ByteArray).data.toList := rfl
      obtain ⟨sx, esx⟩ : ∃ b : ByteArray, b = ⟨x.toArray⟩ := ⟨_, rfl⟩
      obtain ⟨sa, esa⟩ : ∃ b : ByteArray, b = ⟨(lineF x).1.toArray⟩ := ⟨_, rfl⟩
      obtain ⟨sb, esb⟩ : ∃ b : ByteArray, b = ⟨(lineF x).2.toArray⟩ := ⟨_, rfl⟩
      rw [← esx] at e0 ql
      rw [← esa] at ql hnA
      rw [← esb] at ql hnB
      have HNA := hide hnA.symm
      have HNB := hide hnB.symm
      have HS := hide hsnoc
      have HXT := hide hxT
      clear hsnoc hx hxl esx esa esb hnA hnB hxT
      have kz : (1 : Int) + (k : Int) = ((1 + k : Nat) : Int) := by omega
      rcases hcase : lineOk x with _ | _
      · rw [hcase] at ql
        have hr2 : r = 2 := by
          rw [HR.out, if_neg]
          intro hall
          have := List.all_eq_true.1 hall x HXT.out
          rw [hcase] at this; cases this
        subst hr2
        go_wp2_with fail
        refine (ql _).mono ?_
        rintro e w3 ⟨rfl, b3⟩
        go_wp2_with fail
        go_ret3
        exact ⟨none, 0, rfl, World.ownsRow_nil _ _ _ _, (b1.trans (hb.mono (by omega))).trans ((b3.mono (by omega)).alloc (by have := b3.size; omega) _)⟩
      · rw [hcase] at ql
        have HC := hide hcase
        clear hcase
        go_wp2_with fail
        refine (ql _).mono ?_
        rintro e w3 ⟨rfl, b3⟩
        go_upto_region 16 with (fail)
        have hb35 : Below wr.heap.size wr (w3.alloc (.cells #[.string sa, .string sb] 110)) := b3.alloc (b3.size) _
        have c50 := cell_of_row (w3.alloc (.cells #[.string sa, .string sb] 110)) w3.heap.size 0 #[.string sa, .string sb] 110 (0, 0) (heap_alloc_new w3 _)
        have c51 := cell_of_row (w3.alloc (.cells #[.string sa, .string sb] 110)) w3.heap.size 1 #[.string sa, .string sb] 110 (0, 0) (heap_alloc_new w3 _)
        obtain ⟨g, hg⟩ : ∃ g, w3.heap.size = g := ⟨_, rfl⟩
        rw [hg] at c50 c51
        have hw5 : ∃ w5, w3.alloc (.cells #[.string sa, .string sb] 110) = w5 := ⟨_, rfl⟩
        obtain ⟨w5, hw5⟩ := hw5
        rw [hw5] at c50 c51 hb35
        rw [hw5, hg]
        simp at c50 c51
        have ho5 := own_below ho hb35
        have hb5 := hb.trans (hb35.mono hbz)
        have hb5z := hb5.size
        clear hw5 hg b3 hb35
        go_wp2_with (at_builtin; refine wpl_push rfl _ _ _ rfl w2.heap.size i0 _ 2 32 Tryz.underlying44 hi0 hz0 hz1 hz2 rfl (by omega) _ _ _ rfl _ rfl ho5 rfl (by simp [Value.oneCell']) (by unfold maxLen; omega) (by omega) hb5z ?_; intro v1 w6 hown1 hbel1 _)
        go_roundw
        case rel =>
          refine ⟨k + 1, by omega, by go_num, by rw [HS.out, List.all_append, HA.out]; simp [HC.out], ?_, hb5.trans hbel1⟩
          rw [HS.out, List.map_append]
          exact own_snoc_fld hown1 HNA.out HNB.out
        case measure => simp [intOf]; omega
    · have hkm : k = m - 1 := by omega
      have htk : T.take k = T := List.take_of_length_le (by rw [HTM.out]; omega)
      have hall : T.all lineOk = true := by rw [← htk]; exact HA.out
      have hr0 : r = 0 := by rw [HR.out, if_pos hall]
      subst hr0
      rw [htk] at ho
      subst hkm
      have e0 := (hb.cell (p := ⟨w.heap.size, 0, none⟩) hwz).trans c0
      clear htk
      go_wp2_with fail
      go_ret3
      obtain ⟨A', c', rfl, hc', -⟩ := own_shape ho
      rw [HTM.out]
      exact ⟨A', c', rfl, own_base ho (by omega), b1.trans (hb.mono (by omega))⟩
end Go.Proofs.YtijlaclngibekaaGreatDoor
/- head.ParseRequest. -/
namespace Go.Proofs.YtijlaclngibekaaGreatDoor
open Go.RowKit

theorem results_q2 {fn : Func} {p u : Tmp} (h : fn.results = #[.cell p 80, .tmp u]) (tmps : Array Value) (w : World) (g : Nat) (a b c d e : Value) (hb : Box w g [a, b, c, d]) (hp : tmps.getD p undef = .pointer (some ⟨g, 0, none⟩)) (hu : tmps.getD u undef = e) :
    (results fn tmps).run Tryz.prog w = .ok (.tuple #[.agg #[a, b, c, d], e]) w := by
  have hp' : tmps[p]?.getD undef = .pointer (some ⟨g, 0, none⟩) := by simpa using hp
  have hu' : tmps[u]?.getD undef = e := by simpa using hu
  obtain ⟨k0, k1, k2, k3⟩ := hb.four
  simp [results, h, hp', hu', go_sem, k0, k1, k2, k3]
theorem drew_box {w : World} {g : Nat} {cs : List Value} (h : Box w g cs) : Box w.drew g cs := ⟨h.1, fun j u hu => h.2 j u hu⟩
def rM (b : List UInt8) : List UInt8 := if reqE b = 0 then (reqWords b).getD 0 [] else []
def rT (b : List UInt8) : List UInt8 := if reqE b = 0 then (reqWords b).getD 1 [] else []
def rN (b : List UInt8) : Nat := if reqE b = 0 then minorN ((reqWords b).getD 2 []) else 0
def rFs (b : List UInt8) : List (List UInt8 × List UInt8) := if reqE b = 0 then fieldsL b else []
theorem req_none {b : List UInt8} (h : reqE b ≠ 0) : rM b = [] ∧ rT b = [] ∧ rN b = 0 ∧ rFs b = [] := by
  unfold rM rT rN rFs
  simp only [if_neg h, and_self]
set_option maxRecDepth 100000 in
set_option maxHeartbeats 3200000 in
theorem parsereq_any (A : Option Addr) (n c B : Nat) (bs : List UInt8) (mx : Int) (w : World) (h : Rd w B 1 A n (bcells bs)) (hB : B ≤ w.heap.size) (hn : n ≤ 100000) (hm : w.cell? ⟨1, 0, none⟩ = some (.int .i64 mx)) :
    Calls Tryz.prog 103 #[.slice A n c] w fun e w' => ∃ A' c', e = .returned (.tuple #[.agg #[.string ⟨(rM bs).toArray⟩, .string ⟨(rT bs).toArray⟩, .int .i64 (rN bs), .slice A' (rFs bs).length c'], .int .i64 (reqE bs)]) ∧
      Rd w' w'.heap.size 2 A' (rFs bs).length (fcells (rFs bs)) ∧ Below w.heap.size w w' := by
  have hlen : bs.length = n := by have := h.1; rw [bcells_length] at this; omega
  have hmb : 1 < w.heap.size := World.block_lt_of_cell? w _ hm
  obtain ⟨zs, hzs⟩ : ∃ z : Array Value, z = #[.string ⟨#[]⟩, .string ⟨#[]⟩, .int .i64 0, .slice none 0 0] := ⟨_, rfl⟩
  have hp := fun (W : World) (b : Below w.heap.size w W) => parse_any A n c B bs mx W (h.below (b.mono hB)) (Nat.le_trans hB b.size) hn ((b.cell (p := ⟨1, 0, none⟩) hmb).trans hm)
  have hal : Below w.heap.size w (w.alloc (.cells #[.string ⟨#[]⟩, .string ⟨#[]⟩, .int .i64 0, .slice none 0 0] 80)) := (Below.refl _ _).alloc (Nat.le_refl _) _
  have boxOf : ∀ w1 : World, Below (w.heap.size + 1) (w.alloc (.cells #[.string ⟨#[]⟩, .string ⟨#[]⟩, .int .i64 0, .slice none 0 0] 80)) w1 → Box w1 w.heap.size [.string ⟨#[]⟩, .string ⟨#[]⟩, .int .i64 0, .slice none 0 0] := fun w1 T =>
    (Box.new w #[.string ⟨#[]⟩, .string ⟨#[]⟩, .int .i64 0, .slice none 0 0] 80).below (T.mono (by simp))
  clear hzs zs
  by_cases hpe : parseE bs = 0
  · have hE : reqE bs = if reqOk (reqWords bs) then 0 else 2 := by unfold reqE; rw [if_pos hpe]
    have y1 : pFirst bs = lineoneL bs := by unfold pFirst; rw [if_pos hpe]
    have y2 : pFs bs = fieldsL bs := by unfold pFs; rw [if_pos hpe]
    simp only [y1, y2, hpe] at hp
    have hfl : (lineoneL bs).length ≤ 200000 := by
      unfold lineoneL linesL
      have h1 : (Lib.trimSuffix bs endL).length ≤ bs.length := Lib.trimSuffix_le _ _
      rcases hl : Lib.split (Lib.trimSuffix bs endL) crlfL with _ | ⟨x, l⟩
      · simp
      · have := splitK_mem _ _ _ x (by show x ∈ Lib.split (Lib.trimSuffix bs endL) crlfL; rw [hl]; simp)
        simp; omega
    have hsp := fun (W : World) (b : Below w.heap.size w W) => strsplit_any ⟨(lineoneL bs).toArray⟩ ⟨#[32]⟩ mx W (by rw [mk_size]; omega) ((b.cell (p := ⟨1, 0, none⟩) hmb).trans hm) (by decide)
    change ∀ (W : World) (b : Below w.heap.size w W), Calls _ _ _ W (fun e w' => e = .returned (.slice (some ⟨W.heap.size, 0, none⟩) (reqWords bs).length (reqWords bs).length) ∧ Rd w' (W.heap.size + 1) 1 (some ⟨W.heap.size, 0, none⟩) (reqWords bs).length (scells (reqWords bs)) ∧ Below W.heap.size W w') at hsp
    have hml : ∀ x ∈ reqWords bs, x.length ≤ 200000 := fun x hx => by
      have := splitK_mem _ _ _ x hx; omega
    have hpl : (reqWords bs).length ≤ 300000 := by
      have h1 := splitK_len (Lib.count (lineoneL bs) [32]) [32] (lineoneL bs)
      have h2 := Lib.count_le (lineoneL bs) [32]
      unfold reqWords Lib.split; omega
    unfold rM rT rN rFs
    obtain ⟨ps, hps⟩ : ∃ p, p = reqWords bs := ⟨_, rfl⟩
    rw [hE, ← hps]
    simp only [← hps] at hsp hml hpl
    obtain ⟨fs, hfs⟩ : ∃ p, p = fieldsL bs := ⟨_, rfl⟩
    rw [← hfs]
    simp only [← hfs] at hp
    obtain ⟨first, hf⟩ : ∃ b : ByteArray, b = ⟨(lineoneL bs).toArray⟩ := ⟨_, rfl⟩
    simp only [← hf] at hp hsp
    obtain ⟨nf, hnf⟩ : ∃ m, fs.length = m := ⟨_, rfl⟩
    simp only [hnf] at hp
    have HNF := hide hnf
    clear hE y1 y2 hpe hfl hlen hps hfs hf hnf
    by_cases h3 : ps.length = 3
    · obtain ⟨p0, p1, p2, rfl⟩ : ∃ p0 p1 p2, ps = [p0, p1, p2] := by
        match ps, h3 with
        | [a, b, c], _ => exact ⟨a, b, c, rfl⟩
      have hl0 := hml p0 (by simp)
      have hl1 := hml p1 (by simp)
      have hl2 := hml p2 (by simp)
      have q0 := fun w => goodName_any ⟨p0.toArray⟩ w (by rw [mk_size]; omega)
      have q1 := fun w => goodTarget_any ⟨p1.toArray⟩ w (by rw [mk_size]; omega)
      have q2 := fun w => minor_any ⟨p2.toArray⟩ w
      have hcells : ∀ (W W' : World), Rd W' (W.heap.size + 1) 1 (some ⟨W.heap.size, 0, none⟩) 3 (scells [p0, p1, p2]) → W'.cell? ⟨W.heap.size, 0, none⟩ = some (.string ⟨p0.toArray⟩) ∧ W'.cell? ⟨W.heap.size, 1, none⟩ = some (.string ⟨p1.toArray⟩) ∧ W'.cell? ⟨W.heap.size, 2, none⟩ = some (.string ⟨p2.toArray⟩) := by
        intro W W' r
        obtain ⟨a, ha, -, hc⟩ := r.at_ (k := 0) (by decide)
        cases ha
        have h0 := hc 0 _ rfl
        have h1 := hc 1 _ rfl
        have h2 := hc 2 _ rfl
        rw [Addr.add_zero'] at h0
        rw [Addr.add_lit] at h1 h2
        exact ⟨h0, h1, h2⟩
      change ∀ (W : World) (b : Below w.heap.size w W), Calls _ _ _ W (fun e w' => e = .returned (.slice (some ⟨W.heap.size, 0, none⟩) 3 3) ∧ Rd w' (W.heap.size + 1) 1 (some ⟨W.heap.size, 0, none⟩) 3 (scells [p0, p1, p2]) ∧ Below W.heap.size W w') at hsp
      obtain ⟨gn, hgn⟩ : ∃ x, x = goodNameL p0 := ⟨_, rfl⟩
      obtain ⟨gt, hgt⟩ : ∃ x, x = targetL p1 := ⟨_, rfl⟩
      obtain ⟨mo, hmo⟩ : ∃ x, x = minorOk p2 := ⟨_, rfl⟩
      obtain ⟨mn, hmn⟩ : ∃ x, x = minorN p2 := ⟨_, rfl⟩
      have hro : reqOk [p0, p1, p2] = (gn && (gt && mo)) := by rw [hgn, hgt, hmo]; rfl
      rw [hro]
      simp only [List.getD_cons_zero, List.getD_cons_succ, ← hmn]
      simp only [← hgn, ← hgt, ← hmo, ← hmn] at q0 q1 q2
      obtain ⟨b0, e0⟩ : ∃ b : ByteArray, b = ⟨p0.toArray⟩ := ⟨_, rfl⟩
      obtain ⟨b1, e1⟩ : ∃ b : ByteArray, b = ⟨p1.toArray⟩ := ⟨_, rfl⟩
      obtain ⟨b2', e2⟩ : ∃ b : ByteArray, b = ⟨p2.toArray⟩ := ⟨_, rfl⟩
      simp only [← e0, ← e1, ← e2] at q0 q1 q2 hcells
      have E0 := hide e0
      have E1 := hide e1
      clear hro hgn hgt hmo hmn e0 e1 e2 hl0 hl1 hl2 hml hpl h3
      rcases gn with _ | _
      · rw [Bool.false_and]
        change Calls _ _ _ w (fun e w' => ∃ A' c', e = .returned (.tuple #[.agg #[.string ⟨#[]⟩, .string ⟨#[]⟩, .int .i64 0, .slice A' 0 c'], .int .i64 2]) ∧ Rd w' w'.heap.size 2 A' 0 (fcells []) ∧ Below w.heap.size w w')
        go_enter Tryz.func103, Tryz.ntmps103
        go_wp2_with fail
        refine (hp _ hal).mono ?_
        rintro e w1 ⟨A1, c1, rfl, o1, T⟩
        replace T : Below (w.heap.size + 1) (w.alloc (.cells #[.string ⟨#[]⟩, .string ⟨#[]⟩, .int .i64 0, .slice none 0 0] 80)) w1 := by simpa using T
        go_wp2_with fail
        refine (hsp w1 (hal.trans (T.mono (by omega)))).mono ?_
        rintro e w2 ⟨rfl, r2, b2⟩
        have t12 := T.trans (b2.mono (by have := T.size; simpa using this))
        have b := boxOf w2 t12
        obtain ⟨k0, k1, k2, k3⟩ := b.four
        obtain ⟨f0, f1, f2, f3⟩ := b.free4
        have t := hal.trans (t12.mono (by omega))
        obtain ⟨v0, v1, v2⟩ := hcells w1 w2 r2
        clear hcells r2
        go_wp2_with fail
        refine (q0 _).mono ?_
        rintro e w3 ⟨rfl, rfl⟩
        go_wp2_with fail
        exact bodyPost_ret (v := .tuple #[.agg #[.string ⟨#[]⟩, .string ⟨#[]⟩, .int .i64 0, .slice none 0 0], .int .i64 2]) (results_q2 Tryz.results103 _ _ _ _ _ _ _ _ (b.fill4 (.string ⟨#[]⟩) (.string ⟨#[]⟩) (.int .i64 0) (.slice none 0 0)) rfl rfl) rfl ⟨none, 0, rfl, Rd.nil_, below_fill4 t (Nat.le_refl _) _ _ _ _⟩
      · rcases gt with _ | _
        · change Calls _ _ _ w (fun e w' => ∃ A' c', e = .returned (.tuple #[.agg #[.string ⟨#[]⟩, .string ⟨#[]⟩, .int .i64 0, .slice A' 0 c'], .int .i64 2]) ∧ Rd w' w'.heap.size 2 A' 0 (fcells []) ∧ Below w.heap.size w w')
          go_enter Tryz.func103, Tryz.ntmps103
          go_wp2_with fail
          refine (hp _ hal).mono ?_
          rintro e w1 ⟨A1, c1, rfl, o1, T⟩
          replace T : Below (w.heap.size + 1) (w.alloc (.cells #[.string ⟨#[]⟩, .string ⟨#[]⟩, .int .i64 0, .slice none 0 0] 80)) w1 := by simpa using T
          go_wp2_with fail
          refine (hsp w1 (hal.trans (T.mono (by omega)))).mono ?_
          rintro e w2 ⟨rfl, r2, b2⟩
          have t12 := T.trans (b2.mono (by have := T.size; simpa using this))
          have b := boxOf w2 t12
          obtain ⟨k0, k1, k2, k3⟩ := b.four
          obtain ⟨f0, f1, f2, f3⟩ := b.free4
          have t := hal.trans (t12.mono (by omega))
          obtain ⟨v0, v1, v2⟩ := hcells w1 w2 r2
          clear hcells r2
          go_wp2_with fail
          refine (q0 _).mono ?_
          rintro e w3 ⟨rfl, rfl⟩
          go_wp2_with fail
          refine (q1 _).mono ?_
          rintro e w3 ⟨rfl, rfl⟩
          go_wp2_with fail
          exact bodyPost_ret (v := .tuple #[.agg #[.string ⟨#[]⟩, .string ⟨#[]⟩, .int .i64 0, .slice none 0 0], .int .i64 2]) (results_q2 Tryz.results103 _ _ _ _ _ _ _ _ (b.fill4 (.string ⟨#[]⟩) (.string ⟨#[]⟩) (.int .i64 0) (.slice none 0 0)) rfl rfl) rfl ⟨none, 0, rfl, Rd.nil_, below_fill4 t (Nat.le_refl _) _ _ _ _⟩
        · rcases mo with _ | _
          · change ∀ w, Calls _ _ _ w (fun e w' => e = .returned (.tuple #[.int .i64 0, .bool false]) ∧ w = w') at q2
            change Calls _ _ _ w (fun e w' => ∃ A' c', e = .returned (.tuple #[.agg #[.string ⟨#[]⟩, .string ⟨#[]⟩, .int .i64 0, .slice A' 0 c'], .int .i64 2]) ∧ Rd w' w'.heap.size 2 A' 0 (fcells []) ∧ Below w.heap.size w w')
            go_enter Tryz.func103, Tryz.ntmps103
            go_wp2_with fail
            refine (hp _ hal).mono ?_
            rintro e w1 ⟨A1, c1, rfl, o1, T⟩
            replace T : Below (w.heap.size + 1) (w.alloc (.cells #[.string ⟨#[]⟩, .string ⟨#[]⟩, .int .i64 0, .slice none 0 0] 80)) w1 := by simpa using T
            go_wp2_with fail
            refine (hsp w1 (hal.trans (T.mono (by omega)))).mono ?_
            rintro e w2 ⟨rfl, r2, b2⟩
            have t12 := T.trans (b2.mono (by have := T.size; simpa using this))
            have b := boxOf w2 t12
            obtain ⟨k0, k1, k2, k3⟩ := b.four
            obtain ⟨f0, f1, f2, f3⟩ := b.free4
            have t := hal.trans (t12.mono (by omega))
            obtain ⟨v0, v1, v2⟩ := hcells w1 w2 r2
            clear hcells r2
            go_wp2_with fail
            refine (q0 _).mono ?_
            rintro e w3 ⟨rfl, rfl⟩
            go_wp2_with fail
            refine (q1 _).mono ?_
            rintro e w3 ⟨rfl, rfl⟩
            go_wp2_with fail
            refine (q2 _).mono ?_
            rintro e w3 ⟨rfl, rfl⟩
            go_wp2_with fail
            exact bodyPost_ret (v := .tuple #[.agg #[.string ⟨#[]⟩, .string ⟨#[]⟩, .int .i64 0, .slice none 0 0], .int .i64 2]) (results_q2 Tryz.results103 _ _ _ _ _ _ _ _ (b.fill4 (.string ⟨#[]⟩) (.string ⟨#[]⟩) (.int .i64 0) (.slice none 0 0)) rfl rfl) rfl ⟨none, 0, rfl, Rd.nil_, below_fill4 t (Nat.le_refl _) _ _ _ _⟩
          · change ∀ w, Calls _ _ _ w (fun e w' => e = .returned (.tuple #[.int .i64 mn, .bool true]) ∧ w = w') at q2
            change Calls _ _ _ w (fun e w' => ∃ A' c', e = .returned (.tuple #[.agg #[.string ⟨p0.toArray⟩, .string ⟨p1.toArray⟩, .int .i64 mn, .slice A' fs.length c'], .int .i64 0]) ∧ Rd w' w'.heap.size 2 A' fs.length (fcells fs) ∧ Below w.heap.size w w')
            rw [HNF.out, ← E0.out, ← E1.out]
            go_enter Tryz.func103, Tryz.ntmps103
            go_wp2_with fail
            refine (hp _ hal).mono ?_
            rintro e w1 ⟨A1, c1, rfl, o1, T⟩
            replace T : Below (w.heap.size + 1) (w.alloc (.cells #[.string ⟨#[]⟩, .string ⟨#[]⟩, .int .i64 0, .slice none 0 0] 80)) w1 := by simpa using T
            go_wp2_with fail
            refine (hsp w1 (hal.trans (T.mono (by omega)))).mono ?_
            rintro e w2 ⟨rfl, r2, b2⟩
            have t12 := T.trans (b2.mono (by have := T.size; simpa using this))
            have b := boxOf w2 t12
            obtain ⟨k0, k1, k2, k3⟩ := b.four
            obtain ⟨f0, f1, f2, f3⟩ := b.free4
            have t := hal.trans (t12.mono (by omega))
            obtain ⟨v0, v1, v2⟩ := hcells w1 w2 r2
            clear hcells r2
            have hap : (Value.slice A1 nf c1).ownBlock ≠ some w.heap.size := ow_apart (g := w.heap.size) ((Ow.of_row o1).below b2) (by simp)
            have oo := ((Ow.of_row o1).below b2).far4 hap (.string b0) (.string b1) (.int .i64 mn) (.slice A1 nf c1)
            go_wp2_with fail
            refine (q0 _).mono ?_
            rintro e w3 ⟨rfl, rfl⟩
            go_wp2_with fail
            refine (q1 _).mono ?_
            rintro e w3 ⟨rfl, rfl⟩
            go_wp2_with fail
            refine (q2 _).mono ?_
            rintro e w3 ⟨rfl, rfl⟩
            go_wp2_with fail
            go_region
            go_wp2_with fail
            have hw : ((((w2.setCell ⟨w.heap.size, 0, none⟩ (.string b0)).setCell ⟨w.heap.size, 1, none⟩ (.string b1)).setCell ⟨w.heap.size, 2, none⟩ (.int .i64 mn)).setCell ⟨w.heap.size, 3, none⟩ (.slice A1 nf c1)).drew = (fill4 w2 w.heap.size (.string b0) (.string b1) (.int .i64 mn) (.slice A1 nf c1)).drew := rfl
            rw [hw]
            have bx := drew_box (b.fill4 (.string b0) (.string b1) (.int .i64 mn) (.slice A1 nf c1))
            have tt : Below w.heap.size w (fill4 w2 w.heap.size (.string b0) (.string b1) (.int .i64 mn) (.slice A1 nf c1)).drew := below_drewN (k := 1) (below_fill4 t (Nat.le_refl _) _ _ _ _)
            have rr := Ow.rd (oo.drewN 1)
            exact bodyPost_ret (v := .tuple #[.agg #[.string b0, .string b1, .int .i64 mn, .slice A1 nf c1], .int .i64 0]) (results_q2 Tryz.results103 _ _ _ _ _ _ _ _ bx rfl rfl) rfl ⟨A1, c1, rfl, rr, tt⟩
    · have hno : reqOk ps = false := by unfold reqOk; rw [decide_eq_false h3]; rfl
      rw [hno]
      change Calls _ _ _ w (fun e w' => ∃ A' c', e = .returned (.tuple #[.agg #[.string ⟨#[]⟩, .string ⟨#[]⟩, .int .i64 0, .slice A' 0 c'], .int .i64 2]) ∧ Rd w' w'.heap.size 2 A' 0 (fcells []) ∧ Below w.heap.size w w')
      obtain ⟨np, hnp⟩ : ∃ m, ps.length = m := ⟨_, rfl⟩
      simp only [hnp] at hsp h3 hpl
      have hz : ((np : Int) != 3) = true := by simp; omega
      clear hno hnp hml
      go_enter Tryz.func103, Tryz.ntmps103
      go_wp2_with fail
      refine (hp _ hal).mono ?_
      rintro e w1 ⟨A1, c1, rfl, o1, T⟩
      replace T : Below (w.heap.size + 1) (w.alloc (.cells #[.string ⟨#[]⟩, .string ⟨#[]⟩, .int .i64 0, .slice none 0 0] 80)) w1 := by simpa using T
      go_wp2_with fail
      refine (hsp w1 (hal.trans (T.mono (by omega)))).mono ?_
      rintro e w2 ⟨rfl, r2, b2⟩
      have t12 := T.trans (b2.mono (by have := T.size; simpa using this))
      have b := boxOf w2 t12
      obtain ⟨k0, k1, k2, k3⟩ := b.four
      obtain ⟨f0, f1, f2, f3⟩ := b.free4
      have t := hal.trans (t12.mono (by omega))
      go_wp2_with fail
      exact bodyPost_ret (v := .tuple #[.agg #[.string ⟨#[]⟩, .string ⟨#[]⟩, .int .i64 0, .slice none 0 0], .int .i64 2]) (results_q2 Tryz.results103 _ _ _ _ _ _ _ _ (b.fill4 (.string ⟨#[]⟩) (.string ⟨#[]⟩) (.int .i64 0) (.slice none 0 0)) rfl rfl) rfl ⟨none, 0, rfl, Rd.nil_, below_fill4 t (Nat.le_refl _) _ _ _ _⟩
  · have hE : reqE bs = parseE bs := by unfold reqE; rw [if_neg hpe]
    obtain ⟨z1, z2, z3, z4⟩ := req_none (b := bs) (by rw [hE]; exact hpe)
    rw [z1, z2, z3, z4, hE]
    have y1 : pFirst bs = [] := by unfold pFirst; rw [if_neg hpe]
    have y2 : pFs bs = [] := by unfold pFs; rw [if_neg hpe]
    simp only [y1, y2] at hp
    obtain ⟨r, hr⟩ : ∃ r, r = parseE bs := ⟨_, rfl⟩
    simp only [← hr] at hp hpe ⊢
    have hz : ((r : Int) != 0) = true := by simp; omega
    clear hE hr y1 y2 z1 z2 z3 z4 hpe
    go_enter Tryz.func103, Tryz.ntmps103
    go_wp2_with fail
    refine (hp _ hal).mono ?_
    rintro e w1 ⟨A1, c1, rfl, o1, T⟩
    replace T : Below (w.heap.size + 1) (w.alloc (.cells #[.string ⟨#[]⟩, .string ⟨#[]⟩, .int .i64 0, .slice none 0 0] 80)) w1 := by simpa using T
    have b := boxOf w1 T
    obtain ⟨k0, k1, k2, k3⟩ := b.four
    obtain ⟨f0, f1, f2, f3⟩ := b.free4
    have t := hal.trans (T.mono (by omega))
    clear T o1
    go_wp2_with fail
    exact bodyPost_ret (v := .tuple #[.agg #[.string ⟨#[]⟩, .string ⟨#[]⟩, .int .i64 0, .slice none 0 0], .int .i64 r]) (results_q2 Tryz.results103 _ _ _ _ _ _ _ _ (b.fill4 (.string ⟨#[]⟩) (.string ⟨#[]⟩) (.int .i64 0) (.slice none 0 0)) rfl rfl) rfl ⟨none, 0, rfl, Rd.nil_, below_fill4 t (Nat.le_refl _) _ _ _ _⟩
end Go.Proofs.YtijlaclngibekaaGreatDoor
/- Bytes of strings; law 17's answers. -/
namespace Go.Proofs.YtijlaclngibekaaGreatDoor
open Go.RowKit

theorem maxLen_cell (w : World) (h : w.ShapedOpen Tryz.prog) : ∃ m, w.cell? ⟨1, 0, none⟩ = some (.int .i64 m) :=
  cell_of_shapedOpen_int (zero := #[.int .i64 0]) (t := 3) h (of_decide_eq_true (by kernel_rfl)) (by kernel_rfl) rfl (by kernel_rfl) (by kernel_rfl) Tryz.underlying3
theorem conv_bytes (W : World) (s : ByteArray) (hs : s.size ≤ 1000000) :
    ∃ A c w', (convert 9 35 (.string s)).run Tryz.prog W = .ok (.slice (some A) s.size c) w' ∧ Rd w' w'.heap.size 1 (some A) s.size (bcells s.data.toList) ∧ Below W.heap.size W w' := by
  have hcv := run_bytes_of_string (P := Tryz.prog) W 9 35 5 s Tryz.underlying9 Tryz.underlying35 Tryz.underlying5
  obtain ⟨c, hc⟩ : ∃ c, c = grownCap W s.size 0 5 := ⟨_, rfl⟩
  have hc1 : s.size ≤ c := by rw [hc]; exact grownCap_ge _ _ _ _
  have hc2 : c ≤ maxLen := by rw [hc]; exact grownCap_le_maxLen _ _ _ _ (by simp [maxLen]; omega)
  rw [← hc] at hcv
  have ho := ow_of_string W 5 s c hc1 hc2
  exact ⟨_, _, _, hcv, ho.rd, (Below.refl _ _).drew.alloc (Nat.le_refl _) _⟩

def ansB : List UInt8 := [71, 69, 84, 32, 47, 32, 72, 84, 84, 80, 47, 49, 46, 49, 13, 10, 72, 111, 115, 116, 58, 32, 97, 13, 10, 13, 10]
end Go.Proofs.YtijlaclngibekaaGreatDoor
/- head.printed: a head's bytes, by way of bytes.Buffer. -/
namespace Go.Proofs.YtijlaclngibekaaGreatDoor
open Go.RowKit

theorem byteCells_eq (l : List UInt8) : Lib.byteCells l = bcells l := rfl
theorem own_shape0 {w : World} {base e size n : Nat} {v : Value} {xs : List Value} (h : w.ownsRow base e size v n xs) : ∃ A c, v = .slice A n c ∧ n ≤ c ∧ (A = none → c = 0) := by
  rcases h.2 with ⟨rfl, rfl⟩ | ⟨g, cap, cur, rfl, h0, _, h1, h2, _⟩
  · exact ⟨none, 0, rfl, Nat.le_refl _, fun _ => rfl⟩
  · exact ⟨_, cap, rfl, h1, fun h => by cases h⟩
set_option maxRecDepth 100000 in
set_option maxHeartbeats 3200000 in
theorem printed_own (first : ByteArray) (A : Option Addr) (n c B : Nat) (fs : List (List UInt8 × List UInt8)) (w : World) (h : Rd w B 2 A n (fcells fs)) (hB : B ≤ w.heap.size) (hn : n ≤ 1000) (hok : fsOk fs) (hf : first.size ≤ 1000000) :
    Calls Tryz.prog 78 #[.string first, .slice A n c] w fun e w' => ∃ A' c', e = .returned (.tuple #[.slice A' (printB first.data.toList fs).length c', .int .i64 (printE first.data.toList fs)]) ∧
      Rd w' w'.heap.size 1 A' (printB first.data.toList fs).length (bcells (printB first.data.toList fs)) ∧ (printB first.data.toList fs).length ≤ c' ∧ ((A' = none → c' = 0) ∧ w'.ownsRow w.heap.size 5 1 (.slice A' (printB first.data.toList fs).length c') (printB first.data.toList fs).length (bcells (printB first.data.toList fs))) ∧ Below w.heap.size w w' := by
  have hlen := h.flen
  by_cases h64 : 64 < n
  · obtain ⟨e1, e2⟩ := print_many (first := first.data.toList) (show 64 < fs.length by omega)
    rw [e1, e2]
    have i1 : (64 : Int) < (n : Int) := by omega
    clear e1 e2 hlen
    go_enter Tryz.func78, Tryz.ntmps78
    go_wp2_with fail
    go_ret2
    exact ⟨none, 0, rfl, Rd.nil_, Nat.le_refl _, ⟨fun _ => rfl, World.ownsRow_nil _ _ _ _⟩, Below.refl _ _⟩
  have i1 : ¬ (64 : Int) < (n : Int) := by omega
  have hfr := Lib.fresh_isBuffer 150 5 w
  have q0 := Tryz.Buffer_WriteString_k w.heap.size w.heap.size [] (first ++ ⟨#[13, 10]⟩) _ hfr (by simp) (by simp) (by rw [ByteArray.size_append]; change 0 + (first.size + 2) ≤ _; omega)
  have hfl : (first ++ ⟨#[13, 10]⟩ : ByteArray).data.toList = first.data.toList ++ crlfL := by rw [app_list]; rfl
  rw [hfl, List.nil_append, byteCells_eq] at q0
  have hfsz : first.data.toList.length ≤ 1000000 := by rw [← size_of]; exact hf
  obtain ⟨F, hF⟩ : ∃ F, F = first.data.toList := ⟨_, rfl⟩
  rw [← hF] at q0 hfsz ⊢
  obtain ⟨rE, hrE⟩ : ∃ x, x = printE F fs := ⟨_, rfl⟩
  obtain ⟨rB, hrB⟩ : ∃ x, x = printB F fs := ⟨_, rfl⟩
  rw [← hrE, ← hrB]
  have HE := hide hrE
  have HB := hide hrB
  clear hfl hF hrE hrB
  have HL := hide hlen
  have hle : n ≤ fs.length := by omega
  have HOK := hide hok
  clear hlen hok
  have ta : Below w.heap.size w (w.alloc (.cells #[.slice none 0 0, .int .i64 0, .int .i8 0] 150)) := (Below.refl _ _).alloc (Nat.le_refl _) _
  go_enter Tryz.func78, Tryz.ntmps78
  go_wp2_with fail
  refine q0.mono ?_
  rintro e w1 ⟨rfl, hI, b1, -⟩
  have t1 := ta.trans b1
  clear q0 hfr b1 ta
  go_wp2_with fail
  go_loopw [17] (fun i wr => ∃ k : Nat, k ≤ n ∧ i = .int .i64 k ∧ (fs.take k).all fldOk = true ∧ Lib.IsBuffer 150 5 w.heap.size w.heap.size (bcells (F ++ crlfL ++ linesB (fs.take k))) wr ∧ Below w.heap.size w wr) (fun i _ => n - (intOf i).toNat)
  case atStart => exact ⟨0, Nat.zero_le _, rfl, rfl, by simpa [linesB] using hI, t1⟩
  case round =>
    obtain ⟨k, hk, rfl, ha, hI, hb⟩ := hrel
    have HA := hide ha
    have hbz := hb.size
    have hlb : (F ++ crlfL ++ linesB (fs.take k)).length ≤ 3000000000 := by
      have h1 := linesB_len (fs.take k) 1000 (fun f hf => HOK.out f (List.mem_of_mem_take hf)) (by rw [List.length_take]; omega)
      simp [crlfL]; omega
    clear ha
    by_cases hlt : k < n
    · have hkl : k < fs.length := by omega
      obtain ⟨b, off, rfl, hbB, e0, e1⟩ := (h.below (hb.mono hB)).fld hlt hkl
      have hsn := list_take_snoc fs k hkl
      obtain ⟨hs1, hs2⟩ := HOK.out fs[k] (List.getElem_mem hkl)
      have hxm : fs[k] ∈ fs := List.getElem_mem hkl
      obtain ⟨x, hx⟩ : ∃ x, x = fs[k] := ⟨_, rfl⟩
      rw [← hx] at e0 e1 hsn hs1 hs2 hxm
      have q1 := fun w => goodName_any ⟨x.1.toArray⟩ w (by rw [mk_size]; omega)
      have q2 := fun w => goodValue_any ⟨x.2.toArray⟩ w (by rw [mk_size]; omega)
      have hfo : fldOk x = (goodNameL x.1 && goodValueL x.2) := rfl
      have hl1 : (⟨x.1.toArray⟩ : ByteArray).size ≤ 1000000 := by rw [mk_size]; exact hs1
      have hl2 : (⟨x.2.toArray⟩ : ByteArray).size ≤ 1000000 := by rw [mk_size]; exact hs2
      have hap : ((⟨x.1.toArray⟩ : ByteArray) ++ ⟨#[58, 32]⟩ ++ ⟨x.2.toArray⟩ ++ ⟨#[13, 10]⟩).data.toList = fldLn x := by rw [app_list, app_list, app_list]; rfl
      change ∀ w, Calls _ _ _ w (fun e w' => e = .returned (.bool (goodNameL x.1)) ∧ w = w') at q1
      change ∀ w, Calls _ _ _ w (fun e w' => e = .returned (.bool (goodValueL x.2)) ∧ Below w.heap.size w w') at q2
      obtain ⟨gn, hgn⟩ : ∃ x', x' = goodNameL x.1 := ⟨_, rfl⟩
      obtain ⟨gv, hgv⟩ : ∃ x', x' = goodValueL x.2 := ⟨_, rfl⟩
      simp only [← hgn] at q1
      simp only [← hgv] at q2
      rw [← hgn, ← hgv] at hfo
      obtain ⟨sx, hsx⟩ : ∃ b : ByteArray, b = ⟨x.1.toArray⟩ := ⟨_, rfl⟩
      obtain ⟨sv, hsv⟩ : ∃ b : ByteArray, b = ⟨x.2.toArray⟩ := ⟨_, rfl⟩
      rw [← hsx] at e0 q1 hl1 hap
      rw [← hsv] at e1 q2 hl2 hap
      have HX := hide hxm
      have HS := hide hsn
      have HFO := hide hfo
      have HAP := hide hap
      clear hsn hx hs1 hs2 hxm hgn hgv hsx hsv hfo hap
      have c0 := cell_of_row (wr.alloc (.cells #[.string sx, .string sv] 110)) wr.heap.size 0 #[.string sx, .string sv] 110 (0, 0) (heap_alloc_new wr _)
      have c1 := cell_of_row (wr.alloc (.cells #[.string sx, .string sv] 110)) wr.heap.size 1 #[.string sx, .string sv] 110 (0, 0) (heap_alloc_new wr _)
      have hIb := hI.alloc (.cells #[.string sx, .string sv] 110)
      have bb : Below w.heap.size w (wr.alloc (.cells #[.string sx, .string sv] 110)) := hb.alloc hbz _
      have gz : wr.heap.size < (wr.alloc (.cells #[.string sx, .string sv] 110)).heap.size := by simp
      go_upto_region 8 with (fail)
      generalize wr.alloc _ = wb at c0 c1 hIb bb gz ⊢
      generalize wr.heap.size = g at c0 c1 gz ⊢
      simp at c0 c1
      clear hI hb hbz e0 e1
      rcases gn with _ | _
      · have hbad : fs.all fldOk = false := by
          rcases hh : fs.all fldOk with _ | _
          · rfl
          · have := List.all_eq_true.1 hh x HX.out
            rw [HFO.out] at this; cases this
        obtain ⟨z1, z2⟩ := print_bad (first := F) hbad
        rw [← HE.out] at z1
        rw [← HB.out] at z2
        subst z1 z2
        clear hbad
        go_wp2_with fail
        refine (q1 wb).mono ?_
        rintro e w2 ⟨rfl, rfl⟩
        go_wp2_with fail
        go_ret2
        exact ⟨none, 0, rfl, Rd.nil_, Nat.le_refl _, ⟨fun _ => rfl, World.ownsRow_nil _ _ _ _⟩, bb⟩
      rcases gv with _ | _
      · have hbad : fs.all fldOk = false := by
          rcases hh : fs.all fldOk with _ | _
          · rfl
          · have := List.all_eq_true.1 hh x HX.out
            rw [HFO.out] at this; cases this
        obtain ⟨z1, z2⟩ := print_bad (first := F) hbad
        rw [← HE.out] at z1
        rw [← HB.out] at z2
        subst z1 z2
        clear hbad
        go_wp2_with fail
        refine (q1 wb).mono ?_
        rintro e w2 ⟨rfl, rfl⟩
        go_wp2_with fail
        refine (q2 wb).mono ?_
        rintro e w2 ⟨rfl, b2⟩
        go_wp2_with fail
        go_ret2
        exact ⟨none, 0, rfl, Rd.nil_, Nat.le_refl _, ⟨fun _ => rfl, World.ownsRow_nil _ _ _ _⟩, bb.trans (b2.mono bb.size)⟩
      go_wp2_with fail
      refine (q1 wb).mono ?_
      rintro e w2 ⟨rfl, rfl⟩
      go_wp2_with fail
      refine (q2 wb).mono ?_
      rintro e w2 ⟨rfl, b2⟩
      have d0 := (b2.cell (p := ⟨g, 0, none⟩) gz).trans c0
      have d1 := (b2.cell (p := ⟨g, 1, none⟩) gz).trans c1
      have hI2 := Lib.IsBuffer.old hIb b2
      have t2 := bb.trans (b2.mono bb.size)
      have q3 := Tryz.Buffer_WriteString_k w.heap.size w.heap.size _ (sx ++ ⟨#[58, 32]⟩ ++ sv ++ ⟨#[13, 10]⟩) w2 hI2 t2.size (bcells_one _) (by
        rw [ByteArray.size_append, ByteArray.size_append, ByteArray.size_append, bcells_length]
        change _ + (sx.size + 2 + sv.size + 2) ≤ _
        omega)
      rw [HAP.out, byteCells_eq, bcells_append] at q3
      clear q1 q2 b2 c0 c1 hIb bb hI2
      go_wp2_with fail
      refine q3.mono ?_
      rintro e w3 ⟨rfl, hI3, b3, -⟩
      clear q3 d0 d1
      go_wp2_with fail
      go_roundw
      case rel =>
        refine ⟨k + 1, by omega, by go_num, by rw [HS.out, List.all_append, HA.out]; simp [HFO.out], ?_, t2.trans b3⟩
        rw [HS.out, linesB_snoc, ← List.append_assoc]
        exact hI3
      case measure => simp [intOf]; omega
    · have hkn : k = n := by omega
      subst hkn
      have htk : fs.take k = fs := List.take_of_length_le (by rw [HL.out]; exact Nat.le_refl _)
      have hall : fs.all fldOk = true := by rw [← htk]; exact HA.out
      rw [htk] at hI hlb
      have h64' : ¬ 64 < fs.length := by rw [HL.out]; omega
      have HZ1 := hide (fun h => print_long (first := F) h64' hall h)
      have HZ2 := hide (fun h => print_ok (first := F) h64' hall h)
      have q4 := Tryz.Buffer_WriteString_k w.heap.size w.heap.size _ ⟨#[13, 10]⟩ wr hI hbz (bcells_one _) (by rw [bcells_length]; change _ + 2 ≤ _; omega)
      rw [show (⟨#[13, 10]⟩ : ByteArray).data.toList = crlfL from rfl, byteCells_eq, bcells_append] at q4
      change Calls _ _ _ wr (fun e w' => e = .returned _ ∧ Lib.IsBuffer _ _ _ _ (bcells (headB F fs)) w' ∧ Below w.heap.size wr w' ∧ _) at q4
      obtain ⟨H, hH⟩ : ∃ H, H = headB F fs := ⟨_, rfl⟩
      rw [← hH] at q4
      simp only [← hH] at HZ1 HZ2
      clear hlb hall h64' hH htk
      go_wp2_with fail
      refine q4.mono ?_
      rintro e w2 ⟨rfl, hI2, b2, -⟩
      have t2 := hb.trans b2
      have q5 := Tryz.Buffer_Len w.heap.size w.heap.size _ w2 hI2
      rw [bcells_length] at q5
      clear q4 b2 hb
      go_wp2_with fail
      refine q5.mono ?_
      rintro e w3 ⟨rfl, j, hw3⟩
      rw [hw3]
      have q6 := Tryz.Buffer_Bytes w.heap.size w.heap.size _ (w2.drewN j) (Lib.IsBuffer.drewN hI2 j)
      rw [bcells_length] at q6
      by_cases hlong : 16384 < H.length
      · obtain ⟨z1, z2⟩ := HZ1.out hlong
        rw [← HE.out] at z1
        rw [← HB.out] at z2
        have i2 : (16384 : Int) < (H.length : Int) := by omega
        subst z1 z2
        clear hw3 q6
        go_wp2_with fail
        go_ret2
        exact ⟨none, 0, rfl, Rd.nil_, Nat.le_refl _, ⟨fun _ => rfl, World.ownsRow_nil _ _ _ _⟩, below_drewN t2⟩
      · obtain ⟨z1, z2⟩ := HZ2.out hlong
        rw [← HE.out] at z1
        rw [← HB.out] at z2
        have i2 : ¬ (16384 : Int) < (H.length : Int) := by omega
        subst z1 z2
        clear hw3
        go_wp2_with fail
        refine q6.mono ?_
        rintro e w4 ⟨v, rfl, ho, j2, hw4⟩
        rw [hw4] at ho ⊢
        obtain ⟨A4, c4, rfl, hnc4, hA4⟩ := own_shape0 ho
        go_wp2_with fail
        go_ret2
        exact ⟨A4, c4, rfl, Rd.of_own ho, hnc4, ⟨hA4, ho⟩, below_drewN t2⟩
theorem printed_any (first : ByteArray) (A : Option Addr) (n c B : Nat) (fs : List (List UInt8 × List UInt8)) (w : World) (h : Rd w B 2 A n (fcells fs)) (hB : B ≤ w.heap.size) (hn : n ≤ 1000) (hok : fsOk fs) (hf : first.size ≤ 1000000) :
    Calls Tryz.prog 78 #[.string first, .slice A n c] w fun e w' => ∃ A' c', e = .returned (.tuple #[.slice A' (printB first.data.toList fs).length c', .int .i64 (printE first.data.toList fs)]) ∧
      Rd w' w'.heap.size 1 A' (printB first.data.toList fs).length (bcells (printB first.data.toList fs)) ∧ (printB first.data.toList fs).length ≤ c' ∧ (A' = none → c' = 0) ∧ Below w.heap.size w w' := by
  refine (printed_own first A n c B fs w h hB hn hok hf).mono ?_
  rintro e w' ⟨A', c', h1, h2, h3, h4, h5⟩
  exact ⟨A', c', h1, h2, h3, h4.1, h5⟩
theorem own_lower {w : World} {B B' : Nat} {e : TypeId} {size n : Nat} {v : Value} {xs : List Value} (h : w.ownsRow B e size v n xs) (hB : B' ≤ B) : w.ownsRow B' e size v n xs := by
  refine ⟨h.1, ?_⟩
  rcases h.2 with h2 | ⟨b, cap, cur, h1, h2, h3⟩
  · exact .inl h2
  · exact .inr ⟨b, cap, cur, h1, Nat.le_trans hB h2, h3⟩
end Go.Proofs.YtijlaclngibekaaGreatDoor
/- The reference's End. -/
namespace Go.Proofs.YtijlaclngibekaaGreatDoor
open Go.RowKit

set_option maxRecDepth 100000 in
set_option maxHeartbeats 3200000 in
theorem refend_any (A : Option Addr) (n c B : Nat) (bs : List UInt8) (w : World) (h : Rd w B 1 A n (bcells bs)) (hn : n ≤ 100000) :
    Calls Tryz.prog 18 #[.slice A n c] w fun e w' => e = .returned (.tuple #[.int .i64 (endN bs), .int .i64 (endE bs)]) ∧ w' = w := by
  have hlen : bs.length = n := by have := h.1; rw [bcells_length] at this; omega
  have hcv := run_string_of (P := Tryz.prog) 35 9 5 Tryz.underlying35 Tryz.underlying5 Tryz.underlying9 w B n c A bs h
  have hsz : (⟨bs.toArray⟩ : ByteArray).size = n := by rw [mk_size, hlen]
  have qc := fun i w hi => crlf_any ⟨bs.toArray⟩ i w hi
  obtain ⟨s, hs⟩ : ∃ t : ByteArray, t = ⟨bs.toArray⟩ := ⟨_, rfl⟩
  simp only [← hs] at hcv hsz qc
  obtain ⟨rN, hrN⟩ : ∃ x, x = endN bs := ⟨_, rfl⟩
  obtain ⟨rE, hrE⟩ : ∃ x, x = endE bs := ⟨_, rfl⟩
  rw [← hrN, ← hrE]
  have HN := hide hrN
  have HE := hide hrE
  have HL := hide hlen
  have HSZ := hide hsz
  clear hs hrN hrE hlen
  have hsn : (s.size : Int) = (n : Int) := by omega
  clear hsz
  go_enter Tryz.func18, Tryz.ntmps18
  go_wp2_with fail
  go_loopw [5] (fun i wr => ∃ k : Nat, k ≤ n ∧ i = .int .i64 k ∧ (∀ j, j < k → Lib.occAt bs endL j = false) ∧ wr = w) (fun i _ => n - (intOf i).toNat)
  case atStart => exact ⟨0, Nat.zero_le _, rfl, fun j hj => absurd hj (Nat.not_lt_zero _), rfl⟩
  case round =>
    obtain ⟨k, hk, rfl, ha, rfl⟩ := hrel
    have HA := hide ha
    clear ha
    by_cases hc1 : k + 4 ≤ n
    · by_cases hc2 : k + 4 ≤ 16384
      · have i1 : (k : Int) + 4 ≤ (n : Int) := by omega
        have i2 : (k : Int) + 4 ≤ 16384 := by omega
        have qa := qc k wr (by omega)
        have qb := qc (k + 2) wr (by omega)
        rw [show ((k + 2 : Nat) : Int) = (k : Int) + 2 by omega] at qb
        have ho := occ_two bs k
        rcases hA : Lib.occAt bs crlfL k with _ | _
        · rw [hA] at qa ho
          have HO := hide ho
          clear ho hA qb
          go_wp2_with fail
          refine qa.mono ?_
          rintro e w1 ⟨rfl, rfl⟩
          go_wp2_with fail
          go_roundw
          case rel =>
            refine ⟨k + 1, by omega, by go_num, fun j hj => ?_, trivial⟩
            rcases Nat.lt_or_ge j k with h1 | h1
            · exact HA.out j h1
            · obtain rfl : j = k := by omega
              rw [HO.out]; rfl
          case measure => simp [intOf]; omega
        · rcases hB : Lib.occAt bs crlfL (k + 2) with _ | _
          · rw [hA, hB] at ho
            rw [hA] at qa
            rw [hB] at qb
            have HO := hide ho
            clear ho hA hB
            go_wp2_with fail
            refine qa.mono ?_
            rintro e w1 ⟨rfl, rfl⟩
            go_wp2_with fail
            refine qb.mono ?_
            rintro e w1 ⟨rfl, rfl⟩
            go_wp2_with fail
            go_roundw
            case rel =>
              refine ⟨k + 1, by omega, by go_num, fun j hj => ?_, trivial⟩
              rcases Nat.lt_or_ge j k with h1 | h1
              · exact HA.out j h1
              · obtain rfl : j = k := by omega
                rw [HO.out]; rfl
            case measure => simp [intOf]; omega
          · rw [hA, hB] at ho
            rw [hA] at qa
            rw [hB] at qb
            obtain ⟨e1, e2⟩ := end_hit (endI_hit hc2 ho HA.out)
            rw [← HE.out] at e1
            rw [← HN.out] at e2
            subst e1 e2
            clear ho hA hB
            go_wp2_with fail
            refine qa.mono ?_
            rintro e w1 ⟨rfl, rfl⟩
            go_wp2_with fail
            refine qb.mono ?_
            rintro e w1 ⟨rfl, rfl⟩
            go_wp2_with fail
            go_ret2
            exact ⟨by simp, rfl⟩
      · have i1 : (k : Int) + 4 ≤ (n : Int) := by omega
        have i2 : ¬ (k : Int) + 4 ≤ 16384 := by omega
        obtain ⟨e1, e2⟩ := end_miss (endI_miss (k := k) (by right; omega) HA.out)
        rw [← HE.out, HL.out, if_pos (by omega)] at e1
        rw [← HN.out] at e2
        subst e1 e2
        have i3 : (16384 : Int) ≤ (n : Int) := by omega
        go_wp2_with fail
        go_ret2
        exact ⟨rfl, rfl⟩
    · have i1 : ¬ (k : Int) + 4 ≤ (n : Int) := by omega
      obtain ⟨e1, e2⟩ := end_miss (endI_miss (k := k) (by left; rw [HL.out]; omega) HA.out)
      rw [← HE.out, HL.out] at e1
      rw [← HN.out] at e2
      by_cases h16 : 16384 ≤ n
      · rw [if_pos h16] at e1
        subst e1 e2
        have i3 : (16384 : Int) ≤ (n : Int) := by omega
        go_wp2_with fail
        go_ret2
        exact ⟨rfl, rfl⟩
      · rw [if_neg h16] at e1
        subst e1 e2
        have i3 : ¬ (16384 : Int) ≤ (n : Int) := by omega
        go_wp2_with fail
        go_ret2
        exact ⟨rfl, rfl⟩
end Go.Proofs.YtijlaclngibekaaGreatDoor
