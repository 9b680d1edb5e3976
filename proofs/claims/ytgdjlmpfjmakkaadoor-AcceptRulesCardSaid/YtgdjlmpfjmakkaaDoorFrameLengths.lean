/- FrameLengths returns true, whatever its arguments. -/
import Derived.Test.YtgdjlmpfjmakkaaDoorAns19
import Derived.Test.YtgdjlmpfjmakkaaDoorUdec
import Derived.Deep.DeepCutAuto
import Derived.Deep.CutBlock
namespace Go.Proofs.YtgdjlmpfjmakkaaDoor.FrameLengthsP
open Go.RowKit

theorem dig_val (n : Nat) (h : n < 10) : (48 + UInt8.ofNat n).toNat = 48 + n := by
  have : ∀ n, n < 10 → (48 + UInt8.ofNat n).toNat = 48 + n := by decide
  exact this n h
theorem udig_ok (n : Nat) : decV (udig n) = n ∧ (udig n).all digB = true ∧ 1 ≤ (udig n).length := by
  induction n using udig.induct with
  | case1 n h =>
    have hm : n % 10 = n := Nat.mod_eq_of_lt h
    have hv := dig_val n h
    rw [udig, dif_pos h, hm]
    refine ⟨?_, ?_, by simp⟩
    · show 10 * 0 + ((48 + UInt8.ofNat n).toNat - 48) = n
      omega
    · have : digB (48 + UInt8.ofNat n) = true := (digB_iff _).2 (by omega)
      simp [this]
  | case2 n h ih =>
    have hv := dig_val (n % 10) (by omega)
    rw [udig, dif_neg h]
    obtain ⟨i1, i2, i3⟩ := ih
    refine ⟨?_, ?_, by simp⟩
    · rw [decV_snoc, i1]; omega
    · have : digB (48 + UInt8.ofNat (n % 10)) = true := (digB_iff _).2 (by omega)
      rw [List.all_append, i2]; simp [this]
theorem udig_len (d : Nat) : ∀ n, n < 10 ^ (d + 1) → (udig n).length ≤ d + 1 := by
  induction d with
  | zero => intro n h; rw [udig, dif_pos (by simpa using h)]; simp
  | succ d ih =>
    intro n h
    by_cases h10 : n < 10
    · rw [udig, dif_pos h10]; simp
    · have := ih (n / 10) (by rw [Nat.pow_succ] at h; omega)
      rw [udig, dif_neg h10, List.length_append, List.length_singleton]; omega
theorem udig_small (k : Nat) (h : k < 2199023255552) : (udig k).length ≤ 14 := udig_len 13 k (by omega)
def zeros (z k : Nat) : List UInt8 := List.replicate z 48 ++ udig k
theorem zeros_ok (z k : Nat) : decV (zeros z k) = k ∧ (zeros z k).all digB = true ∧ 1 ≤ (zeros z k).length := by
  obtain ⟨i1, i2, i3⟩ := udig_ok k
  induction z with
  | zero => exact ⟨i1, i2, i3⟩
  | succ z ih =>
    obtain ⟨j1, j2, j3⟩ := ih
    have e : zeros (z + 1) k = 48 :: zeros z k := by unfold zeros; rw [List.replicate_succ]; rfl
    rw [e]
    refine ⟨j1, ?_, by simp⟩
    have : digB 48 = true := by decide
    rw [List.all_cons, this, j2]; rfl
theorem num_zeros (z k : Nat) : numL (zeros z k) = if (zeros z k).length ≤ 15 then (k, decide (k ≤ 1099511627776)) else (0, false) := by
  obtain ⟨j1, j2, j3⟩ := zeros_ok z k
  unfold numL
  by_cases h : (zeros z k).length ≤ 15
  · rw [if_pos ⟨j3, h, j2⟩, if_pos h, j1]
  · rw [if_neg (fun x => h x.2.1), if_neg h]
theorem step_ {w w' : World} {s n : Nat} {A : Option Addr} {xs : List Value} (h : Rd w w.heap.size s A n xs) (hb : Below w.heap.size w w') : Rd w' w'.heap.size s A n xs := (h.below hb).mono hb.size
theorem rd_put (w : World) (cs : Array Value) (e : TypeId) (size n : Nat) (hl : cs.size = n * size) : Rd (w.alloc (.cells cs e)) (w.alloc (.cells cs e)).heap.size size (some ⟨w.heap.size, 0, none⟩) n cs.toList := (rd_new w cs e size n hl).mono (by simp)
theorem rd_two {w : World} {B g : Nat} {u v : Value} (h : Rd w B 2 (some ⟨g, 0, none⟩) 1 [u, v]) : w.cell? ⟨g, 0, none⟩ = some u ∧ w.cell? ⟨g, 1, none⟩ = some v := by
  obtain ⟨a, ha, _, hc⟩ := h.at_ (k := 0) (by omega)
  cases ha
  exact ⟨by have := hc 0 u rfl; rwa [Addr.add_lit] at this, by have := hc 1 v rfl; rwa [Addr.add_lit] at this⟩
def capCL : List UInt8 := [67, 111, 110, 116, 101, 110, 116, 45, 76, 101, 110, 103, 116, 104]
theorem cap_1 : sameL capCL nameTE = false := by decide
theorem cap_2 : sameL capCL nameCL = true := by decide
theorem res_zeros (z k : Nat) (m : Int) (o : Nat) : frOf [(capCL, zeros z k)] m o = if (zeros z k).length ≤ 15 ∧ k ≤ 1099511627776 then (1, k, 0) else (0, 0, 2) := by
  rw [frOf_one _ _ _ _ cap_1 cap_2, num_zeros]
  by_cases h : (zeros z k).length ≤ 15
  · by_cases h2 : k ≤ 1099511627776
    · simp [h, h2]
    · simp [h, h2]
  · simp [h]

end Go.Proofs.YtgdjlmpfjmakkaaDoor.FrameLengthsP
