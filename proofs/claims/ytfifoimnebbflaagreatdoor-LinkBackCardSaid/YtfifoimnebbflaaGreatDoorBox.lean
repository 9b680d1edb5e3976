/- FrameLengths returns true, whatever its arguments. -/
import Derived.Test.YtfifoimnebbflaaGreatDoorTold
import Derived.Test.YtfifoimnebbflaaGreatDoorUdec
import Derived.Test.YtfifoimnebbflaaGreatDoorAlloc
import Derived.Deep.DeepCutAuto
import Derived.Deep.CutBlock
import Derived.Test.YtfifoimnebbflaaGreatDoorBoxA
namespace Go.Proofs.YtfifoimnebbflaaGreatDoor.FrameLengthsP
open Go.RowKit

theorem dig_val (n : Nat) (h : n < 10) : (48 + UInt8.ofNat n).toNat = 48 + n := by
  have : ∀ n, n < 10 → (48 + UInt8.ofNat n).toNat = 48 + n := by decide
  exact this n h
theorem udig_ok (n : Nat) : decV (udig n) = n ∧ (udig n).all digB = true ∧ 1 ≤ (udig n).length := by
  induction n using udig.induct with
  | case1 n h =>
    have hm : n % 10 = n := Nat.mod_eq_of_lt h
    have hv := dig_val n h
    rw [udig, dif_pos h, hm]
    refine ⟨?_, ?_, by simp⟩
    · show 10 * 0 + ((48 + UInt8.ofNat n).toNat - 48) = n
      omega
    · have : digB (48 + UInt8.ofNat n) = true := (digB_iff _).2 (by omega)
      simp [this]
  | case2 n h ih =>
    have hv := dig_val (n % 10) (by omega)
    rw [udig, dif_neg h]
    obtain ⟨i1, i2, i3⟩ := ih
    refine ⟨?_, ?_, by simp⟩
    · rw [decV_snoc, i1]; omega
    · have : digB (48 + UInt8.ofNat (n % 10)) = true := (digB_iff _).2 (by omega)
      rw [List.all_append, i2]; simp [this]
theorem udig_len (d : Nat) : ∀ n, n < 10 ^ (d + 1) → (udig n).length ≤ d + 1 := by
  induction d with
  | zero => intro n h; rw [udig, dif_pos (by simpa using h)]; simp
  | succ d ih =>
    intro n h
    by_cases h10 : n < 10
    · rw [udig, dif_pos h10]; simp
    · have := ih (n / 10) (by rw [Nat.pow_succ] at h; omega)
      rw [udig, dif_neg h10, List.length_append, List.length_singleton]; omega
theorem udig_small (k : Nat) (h : k < 2199023255552) : (udig k).length ≤ 14 := udig_len 13 k (by omega)
def zeros (z k : Nat) : List UInt8 := List.replicate z 48 ++ udig k
theorem zeros_ok (z k : Nat) : decV (zeros z k) = k ∧ (zeros z k).all digB = true ∧ 1 ≤ (zeros z k).length := by
  obtain ⟨i1, i2, i3⟩ := udig_ok k
  induction z with
  | zero => exact ⟨i1, i2, i3⟩
  | succ z ih =>
    obtain ⟨j1, j2, j3⟩ := ih
    have e : zeros (z + 1) k = 48 :: zeros z k := by unfold zeros; rw [List.replicate_succ]; rfl
    rw [e]
    refine ⟨j1, ?_, by simp⟩
    have : digB 48 = true := by decide
    rw [List.all_cons, this, j2]; rfl
theorem num_zeros (z k : Nat) : numL (zeros z k) = if (zeros z k).length ≤ 15 then (k, decide (k ≤ 1099511627776)) else (0, false) := by
  obtain ⟨j1, j2, j3⟩ := zeros_ok z k
  unfold numL
  by_cases h : (zeros z k).length ≤ 15
  · rw [if_pos ⟨j3, h, j2⟩, if_pos h, j1]
  · rw [if_neg (fun x => h x.2.1), if_neg h]
def capCL : List UInt8 := [67, 111, 110, 116, 101, 110, 116, 45, 76, 101, 110, 103, 116, 104]
theorem cap_1 : sameL capCL nameTE = false := by decide
theorem cap_2 : sameL capCL nameCL = true := by decide
theorem res_zeros (z k : Nat) (m : Int) (o : Nat) : frOf [(capCL, zeros z k)] m o = if (zeros z k).length ≤ 15 ∧ k ≤ 1099511627776 then (1, k, 0) else (0, 0, 2) := by
  rw [frOf_one _ _ _ _ cap_1 cap_2, num_zeros]
  by_cases h : (zeros z k).length ≤ 15
  · by_cases h2 : k ≤ 1099511627776
    · simp [h, h2]
    · simp [h, h2]
  · simp [h]

end Go.Proofs.YtfifoimnebbflaaGreatDoor.FrameLengthsP

/- FrameSmuggles returns true, whatever its arguments. -/
namespace Go.Proofs.YtfifoimnebbflaaGreatDoor.FrameSmugglesP
open Go.RowKit
open FrameLengthsP (step_ rd_put rd_two capCL cap_1 cap_2)

def capTE : List UInt8 := [84, 114, 97, 110, 115, 102, 101, 114, 45, 69, 110, 99, 111, 100, 105, 110, 103]
def mixTE : List UInt8 := [116, 114, 97, 110, 115, 102, 101, 114, 45, 69, 110, 99, 111, 100, 105, 110, 103]
def mixCL : List UInt8 := [67, 79, 78, 84, 69, 78, 84, 45, 108, 101, 110, 103, 116, 104]
def gzipChunked : List UInt8 := [103, 122, 105, 112, 44, 32, 99, 104, 117, 110, 107, 101, 100]
/-- The eight heads. -/
def rows (a b : List UInt8) : Nat → List (List UInt8 × List UInt8)
  | 0 => [(capCL, a), (mixCL, b)]
  | 1 => [(capTE, chunkedL), (nameCL, a)]
  | 2 => [(mixTE, chunkedL), (capTE, chunkedL)]
  | 3 => [(capTE, gzipChunked)]
  | 4 => [(capCL, [43, 53])]
  | 5 => [(capCL, [53, 44, 32, 53])]
  | 6 => [(capCL, [])]
  | _ => [(capCL, [49, 48, 57, 57, 53, 49, 49, 54, 50, 55, 55, 55, 55])]
theorem m1 : sameL mixCL nameTE = false := by decide
theorem m2 : sameL mixCL nameCL = true := by decide
theorem m3 : sameL capTE nameTE = true := by decide
theorem m4 : sameL capTE nameCL = false := by decide
theorem m5 : sameL mixTE nameTE = true := by decide
theorem m6 : sameL mixTE nameCL = false := by decide
theorem m7 : sameL gzipChunked chunkedL = false := by decide
theorem rows_err (a b : List UInt8) (q : Nat) (minor : Int) (o : Nat) : (frOf (rows a b q) minor o).2.2 = 2 := by
  rcases q with _ | _ | _ | _ | _ | _ | _ | q
  · show (frOf [(capCL, a), (mixCL, b)] minor o).2.2 = 2
    unfold frOf getL; simp [cap_1, cap_2, m1, m2, toldL]
  · show (frOf [(capTE, chunkedL), (nameCL, a)] minor o).2.2 = 2
    unfold frOf getL; simp [m3, m4, nm_1, nm_2, toldL]
  · show (frOf [(mixTE, chunkedL), (capTE, chunkedL)] minor o).2.2 = 2
    unfold frOf getL; simp [m3, m4, m5, m6, toldL]
  · show (frOf [(capTE, gzipChunked)] minor o).2.2 = 2
    unfold frOf getL; simp [m3, m4, m7, toldL]
  · show (frOf [(capCL, [43, 53])] minor o).2.2 = 2
    rw [frOf_one _ _ _ _ cap_1 cap_2, show numL [43, 53] = (0, false) by decide]; rfl
  · show (frOf [(capCL, [53, 44, 32, 53])] minor o).2.2 = 2
    rw [frOf_one _ _ _ _ cap_1 cap_2, show numL [53, 44, 32, 53] = (0, false) by decide]; rfl
  · show (frOf [(capCL, [])] minor o).2.2 = 2
    rw [frOf_one _ _ _ _ cap_1 cap_2, show numL [] = (0, false) by decide]; rfl
  · show (frOf [(capCL, [49, 48, 57, 57, 53, 49, 49, 54, 50, 55, 55, 55, 55])] minor o).2.2 = 2
    rw [frOf_one _ _ _ _ cap_1 cap_2, show numL [49, 48, 57, 57, 53, 49, 49, 54, 50, 55, 55, 55, 55] = (1099511627777, false) by decide]; rfl
theorem chunk_err (o : Nat) : (frOf [(capTE, chunkedL)] 0 o).2.2 = 2 := by
  unfold frOf getL; simp [m3, m4, toldL]

def objs (w : World) (a b : ByteArray) : List Obj := [.cells #[.string ⟨#[67, 111, 110, 116, 101, 110, 116, 45, 76, 101, 110, 103, 116, 104]⟩, .string a, .string ⟨#[67, 79, 78, 84, 69, 78, 84, 45, 108, 101, 110, 103, 116, 104]⟩, .string b] 68, .cells #[.string ⟨#[84, 114, 97, 110, 115, 102, 101, 114, 45, 69, 110, 99, 111, 100, 105, 110, 103]⟩, .string ⟨#[99, 104, 117, 110, 107, 101, 100]⟩, .string ⟨#[99, 111, 110, 116, 101, 110, 116, 45, 108, 101, 110, 103, 116, 104]⟩, .string a] 68, .cells #[.string ⟨#[116, 114, 97, 110, 115, 102, 101, 114, 45, 69, 110, 99, 111, 100, 105, 110, 103]⟩, .string ⟨#[99, 104, 117, 110, 107, 101, 100]⟩, .string ⟨#[84, 114, 97, 110, 115, 102, 101, 114, 45, 69, 110, 99, 111, 100, 105, 110, 103]⟩, .string ⟨#[99, 104, 117, 110, 107, 101, 100]⟩] 68, .cells #[.string ⟨#[84, 114, 97, 110, 115, 102, 101, 114, 45, 69, 110, 99, 111, 100, 105, 110, 103]⟩, .string ⟨#[103, 122, 105, 112, 44, 32, 99, 104, 117, 110, 107, 101, 100]⟩] 68, .cells #[.string ⟨#[67, 111, 110, 116, 101, 110, 116, 45, 76, 101, 110, 103, 116, 104]⟩, .string ⟨#[43, 53]⟩] 68, .cells #[.string ⟨#[67, 111, 110, 116, 101, 110, 116, 45, 76, 101, 110, 103, 116, 104]⟩, .string ⟨#[53, 44, 32, 53]⟩] 68, .cells #[.string ⟨#[67, 111, 110, 116, 101, 110, 116, 45, 76, 101, 110, 103, 116, 104]⟩, .string ⟨#[]⟩] 68, .cells #[.string ⟨#[67, 111, 110, 116, 101, 110, 116, 45, 76, 101, 110, 103, 116, 104]⟩, .string ⟨#[49, 48, 57, 57, 53, 49, 49, 54, 50, 55, 55, 55, 55]⟩] 68, .cells #[.slice (some ⟨w.heap.size, 0, none⟩) 2 2, .slice (some ⟨w.heap.size + 1, 0, none⟩) 2 2, .slice (some ⟨w.heap.size + 1 + 1, 0, none⟩) 2 2, .slice (some ⟨w.heap.size + 1 + 1 + 1, 0, none⟩) 1 1, .slice (some ⟨w.heap.size + 1 + 1 + 1 + 1, 0, none⟩) 1 1, .slice (some ⟨w.heap.size + 1 + 1 + 1 + 1 + 1, 0, none⟩) 1 1, .slice (some ⟨w.heap.size + 1 + 1 + 1 + 1 + 1 + 1, 0, none⟩) 1 1, .slice (some ⟨w.heap.size + 1 + 1 + 1 + 1 + 1 + 1 + 1, 0, none⟩) 1 1] 29]
theorem objs_at (w : World) (a b : ByteArray) (q : Nat) (hq : q < 8) : ∃ g n, (allocs w (objs w a b)).cell? ⟨w.heap.size + 8, q, none⟩ = some (.slice (some ⟨g, 0, none⟩) n n) ∧ n ≤ 2 ∧
    Rd (allocs w (objs w a b)) (allocs w (objs w a b)).heap.size 2 (some ⟨g, 0, none⟩) n (fcells (rows a.data.toList b.data.toList q)) := by
  have h8 := fun j => allocs_cell (objs w a b) w 8 j _ _ rfl
  rcases q with _ | _ | _ | _ | _ | _ | _ | _ | q
  · exact ⟨_, 2, by rw [h8]; rfl, by omega, allocs_rd (objs w a b) w 0 2 2 _ _ rfl rfl⟩
  · exact ⟨_, 2, by rw [h8]; rfl, by omega, allocs_rd (objs w a b) w 1 2 2 _ _ rfl rfl⟩
  · exact ⟨_, 2, by rw [h8]; rfl, by omega, allocs_rd (objs w a b) w 2 2 2 _ _ rfl rfl⟩
  · exact ⟨_, 1, by rw [h8]; rfl, by omega, allocs_rd (objs w a b) w 3 1 2 _ _ rfl rfl⟩
  · exact ⟨_, 1, by rw [h8]; rfl, by omega, allocs_rd (objs w a b) w 4 1 2 _ _ rfl rfl⟩
  · exact ⟨_, 1, by rw [h8]; rfl, by omega, allocs_rd (objs w a b) w 5 1 2 _ _ rfl rfl⟩
  · exact ⟨_, 1, by rw [h8]; rfl, by omega, allocs_rd (objs w a b) w 6 1 2 _ _ rfl rfl⟩
  · exact ⟨_, 1, by rw [h8]; rfl, by omega, allocs_rd (objs w a b) w 7 1 2 _ _ rfl rfl⟩
  · omega
theorem rows_ok (a b : List UInt8) (q : Nat) (ha : a.length ≤ 100) (hb : b.length ≤ 100) : fsOk (rows a b q) := by
  have h1 : ∀ l ∈ [capCL, mixCL, capTE, mixTE, nameCL, chunkedL, gzipChunked, [43, 53], [53, 44, 32, 53], [], [49, 48, 57, 57, 53, 49, 49, 54, 50, 55, 55, 55, 55]], l.length ≤ 1000000 := by decide
  rcases q with _ | _ | _ | _ | _ | _ | _ | q <;> intro f hf
  · rcases List.mem_cons.1 (show f ∈ [(capCL, a), (mixCL, b)] from hf) with rfl | hf
    · exact ⟨h1 _ (by simp), show a.length ≤ 1000000 by omega⟩
    · obtain rfl := List.mem_singleton.1 hf; exact ⟨h1 _ (by simp), show b.length ≤ 1000000 by omega⟩
  · rcases List.mem_cons.1 (show f ∈ [(capTE, chunkedL), (nameCL, a)] from hf) with rfl | hf
    · exact ⟨(h1 _ (by simp)), (h1 _ (by simp))⟩
    · obtain rfl := List.mem_singleton.1 hf; exact ⟨h1 _ (by simp), show a.length ≤ 1000000 by omega⟩
  · rcases List.mem_cons.1 (show f ∈ [(mixTE, chunkedL), (capTE, chunkedL)] from hf) with rfl | hf
    · exact ⟨(h1 _ (by simp)), (h1 _ (by simp))⟩
    · obtain rfl := List.mem_singleton.1 hf; exact ⟨(h1 _ (by simp)), (h1 _ (by simp))⟩
  · obtain rfl := List.mem_singleton.1 (show f ∈ [(capTE, gzipChunked)] from hf); exact ⟨(h1 _ (by simp)), (h1 _ (by simp))⟩
  · obtain rfl := List.mem_singleton.1 (show f ∈ [(capCL, [43, 53])] from hf); exact ⟨(h1 _ (by simp)), (h1 _ (by simp))⟩
  · obtain rfl := List.mem_singleton.1 (show f ∈ [(capCL, [53, 44, 32, 53])] from hf); exact ⟨(h1 _ (by simp)), (h1 _ (by simp))⟩
  · obtain rfl := List.mem_singleton.1 (show f ∈ [(capCL, [])] from hf); exact ⟨(h1 _ (by simp)), (h1 _ (by simp))⟩
  · obtain rfl := List.mem_singleton.1 (show f ∈ [(capCL, [49, 48, 57, 57, 53, 49, 49, 54, 50, 55, 55, 55, 55])] from hf); exact ⟨(h1 _ (by simp)), (h1 _ (by simp))⟩

end Go.Proofs.YtfifoimnebbflaaGreatDoor.FrameSmugglesP

/- Boxes, behind the framing laws. -/
namespace Go.Proofs.YtfifoimnebbflaaGreatDoor
end Go.Proofs.YtfifoimnebbflaaGreatDoor
