/- AcceptWeights returns true, whatever its arguments. -/
import Derived.Test.YtgdjlmpfjmakkaaDoorAns20
import Derived.Test.YtgdjlmpfjmakkaaDoorFrameLengths
namespace Go.Proofs.YtgdjlmpfjmakkaaDoor.AcceptWeightsP
open Go.RowKit
open FrameLengthsP (udig_ok udig_len)

theorem digits_k (k : Nat) (hk : k < 1000) : (udig (1000 + k)).length = 4 ∧ weightL (48 :: 46 :: (udig (1000 + k)).drop 1) = (k, true) := by
  obtain ⟨h1, h2, h3⟩ := udig_ok (1000 + k)
  have h4 := udig_len 3 (1000 + k) (by omega)
  have h5 := decV_lt _ h2 (udig (1000 + k)).length (Nat.le_refl _)
  rw [List.take_length, h1] at h5
  have hl : (udig (1000 + k)).length = 4 := by
    have hlt : ¬ (udig (1000 + k)).length ≤ 3 := fun h => by
      have : 10 ^ (udig (1000 + k)).length ≤ 10 ^ 3 := Nat.pow_le_pow_right (by decide) h
      omega
    omega
  refine ⟨hl, ?_⟩
  obtain ⟨c, r, hcr⟩ : ∃ c r, udig (1000 + k) = c :: r := by
    cases h : udig (1000 + k) with
    | nil => rw [h] at hl; simp at hl
    | cons c r => exact ⟨c, r, rfl⟩
  rw [hcr] at h1 h2 hl
  rw [hcr]
  have hrl : r.length = 3 := by simpa using hl
  have hra : r.all digB = true := by rw [List.all_cons, Bool.and_eq_true] at h2; exact h2.2
  have hd := decV_consk c r 3 (by omega)
  rw [List.take_of_length_le (by omega), h1] at hd
  have hr3 := decV_lt r hra 3 (by omega)
  rw [List.take_of_length_le (by omega)] at hr3
  have hv : decV r = k := by
    have : (10 : Nat) ^ 3 = 1000 := by decide
    rw [this] at hd hr3
    have hc : c.toNat - 48 = 1 := by
      rcases Nat.lt_or_ge (c.toNat - 48) 1 with h | h
      · have : c.toNat - 48 = 0 := by omega
        rw [this] at hd; omega
      · rcases Nat.lt_or_ge 1 (c.toNat - 48) with h' | h'
        · have := Nat.mul_le_mul_right 1000 h'
          omega
        · omega
    rw [hc] at hd; omega
  have hp : pad3 r = r := by unfold pad3; rw [List.take_append_of_le_length (by omega), List.take_of_length_le (by omega)]
  rw [List.drop_one, List.tail_cons, weight_cons, List.drop_one, List.tail_cons, if_pos ⟨.inl rfl, .inr rfl, by omega, hra⟩, if_neg (by decide), hp, hv]

end Go.Proofs.YtgdjlmpfjmakkaaDoor.AcceptWeightsP
