/- AcceptWeights returns true, whatever its arguments. -/
import Derived.Test.YtmijkefdnfmpiaaDoorAns20
import Derived.Test.YtmijkefdnfmpiaaDoorFrameLengths
namespace Go.Proofs.YtmijkefdnfmpiaaDoor.AcceptWeightsP
open Go.RowKit
open FrameLengthsP (udig_ok udig_len)

theorem digits_k (k : Nat) (hk : k < 1000) : (udig (1000 + k)).length = 4 ∧ weightL (48 :: 46 :: (udig (1000 + k)).drop 1) = (k, true) := by
  obtain ⟨h1, h2, h3⟩ := udig_ok (1000 + k)
  have h4 := udig_len 3 (1000 + k) (by omega)
  have h5 := decV_lt _ h2 (udig (1000 + k)).length (Nat.le_refl _)
  rw [List.take_length, h1] at h5
  have hl : (udig (1000 + k)).length = 4 := by
    have hlt : ¬ (udig (1000 + k)).length ≤ 3 := fun h => by
      have : 10 ^ (udig (1000 + k)).length ≤ 10 ^ 3 := Nat.pow_le_pow_right (by decide) h
      omega
    omega
  refine ⟨hl, ?_⟩
  obtain ⟨c, r, hcr⟩ : ∃ c r, udig (1000 + k) = c :: r := by
    cases h : udig (1000 + k) with
    | nil => rw [h] at hl; simp at hl
    | cons c r => exact ⟨c, r, rfl⟩
  rw [hcr] at h1 h2 hl
  rw [hcr]
  have hrl : r.length = 3 := by simpa using hl
  have hra : r.all digB = true := by rw [List.all_cons, Bool.and_eq_true] at h2; exact h2.2
  have hd := decV_consk c r 3 (by omega)
  rw [List.take_of_length_le (by omega), h1] at hd
  have hr3 := decV_lt r hra 3 (by omega)
  rw [List.take_of_length_le (by omega)] at hr3
  have hv : decV r = k := by
    have : (10 : Nat) ^ 3 = 1000 := by decide
    rw [this] at hd hr3
    have hc : c.toNat - 48 = 1 := by
      rcases Nat.lt_or_ge (c.toNat - 48) 1 with h | h
      · have : c.toNat - 48 = 0 := by omega
        rw [this] at hd; omega
      · rcases Nat.lt_or_ge 1 (c.toNat - 48) with h' | h'
        · have := Nat.mul_le_mul_right 1000 h'
          omega
        · omega
    rw [hc] at hd; omega
  have hp : pad3 r = r := by unfold pad3; rw [List.take_append_of_le_length (by omega), List.take_of_length_le (by omega)]
  rw [List.drop_one, List.tail_cons, weight_cons, List.drop_one, List.tail_cons, if_pos ⟨.inl rfl, .inr rfl, by omega, hra⟩, if_neg (by decide), hp, hv]

set_option maxRecDepth 100000 in
set_option maxHeartbeats 3200000 in
theorem walk (s : ByteArray) (un : Int) (w : World) (hs : s.size ≤ 9223372036854775807) (hwn : (Lit.int .u16 un).wf = true) :
    Calls Tryd.prog 12 #[.string s, .int .u16 un] w fun e w' => e = .returned (.bool true) ∧ Below w.heap.size w w' := by
  have hn01 : 0 ≤ un ∧ un < 65536 := by simp [Lit.wf, IntKind.min, IntKind.max, IntKind.signed, IntKind.bits] at hwn; omega
  obtain ⟨hn0, hn1⟩ := hn01
  clear hwn
  by_cases hbig : s.size ≤ 100
  · obtain ⟨k, hk, hk1⟩ : ∃ k : Nat, Int.tmod un 1000 = k ∧ k < 1000 := ⟨(Int.tmod un 1000).toNat, by rw [Int.tmod_eq_emod_of_nonneg hn0]; omega, by rw [Int.tmod_eq_emod_of_nonneg hn0]; omega⟩
    obtain ⟨hd4, hdw⟩ := digits_k k hk1
    have g1 := fun w => weight_any s w hs
    have g2 := fun w => refweight_any s w
    have g3 := fun w => dec_any (1000 + k) (by omega) w
    obtain ⟨dg, hdg⟩ : ∃ d, d = udig (1000 + k) := ⟨_, rfl⟩
    rw [← hdg] at hd4 hdw
    simp only [← hdg] at g3
    have hz := mk_size dg
    have hx : (⟨dg.toArray⟩ : ByteArray).extract 1 (⟨dg.toArray⟩ : ByteArray).size = ⟨(dg.drop 1).toArray⟩ := bytes_ext (by rw [extract_list, mk_list, mk_list, mk_size]; simp)
    have hy : (⟨#[48, 46]⟩ : ByteArray) ++ ⟨(dg.drop 1).toArray⟩ = ⟨(48 :: 46 :: dg.drop 1).toArray⟩ := bytes_ext (by simp)
    have hzd := mk_size (dg.drop 1)
    have g4 := fun w => weight_any ⟨(48 :: 46 :: dg.drop 1).toArray⟩ w (by rw [mk_size]; simp; omega)
    simp only [hdw] at g4
    obtain ⟨bd, ebd⟩ : ∃ b : ByteArray, b = ⟨dg.toArray⟩ := ⟨_, rfl⟩
    obtain ⟨be, ebe⟩ : ∃ b : ByteArray, b = ⟨(dg.drop 1).toArray⟩ := ⟨_, rfl⟩
    obtain ⟨bt, ebt⟩ : ∃ b : ByteArray, b = ⟨(48 :: 46 :: dg.drop 1).toArray⟩ := ⟨_, rfl⟩
    simp only [← ebd] at g3 hx hz
    rw [← ebe] at hx hy hzd
    rw [← ebt] at hy
    simp only [← ebt] at g4
    obtain ⟨⟨x, ok⟩, hxo⟩ : ∃ r, r = weightL s.data.toList := ⟨_, rfl⟩
    simp only [← hxo] at g1 g2
    have hz4 : bd.size = 4 := by rw [hz, hd4]
    have hxe : bd.extract 1 4 = be := by rw [← hz4]; exact hx
    have hze : be.size ≤ 3 := by rw [hzd, List.length_drop]; omega
    clear hdw hd4 hdg hz hx hzd ebd ebe ebt hxo
    go_enter Tryd.func12, Tryd.ntmps12
    go_wp2_with fail
    refine (g1 _).mono ?_
    rintro e w1 ⟨rfl, b1⟩
    go_wp2_with fail
    refine (g2 w1).mono ?_
    rintro e w2 ⟨rfl, hw⟩
    subst hw
    go_wp2_with fail
    refine (g3 w1).mono ?_
    rintro e w3 ⟨rfl, b3⟩
    have t3 := b1.trans (b3.mono b1.size)
    go_wp2_with fail
    refine (g4 w3).mono ?_
    rintro e w4 ⟨rfl, b4⟩
    have t4 := t3.trans (b4.mono t3.size)
    go_wp2_with fail
    refine (ans20_any w4).mono ?_
    rintro e w5 ⟨rfl, b5⟩
    go_wp2
    go_ret
    exact ⟨ret_bool (by simp), t4.trans (b5.mono t4.size)⟩
  · go_enter Tryd.func12, Tryd.ntmps12
    go_wp2_with (refine (ans20_any _).mono ?_; rintro e w' ⟨rfl, hB⟩)
    go_ret
    exact ⟨rfl, hB⟩
end Go.Proofs.YtmijkefdnfmpiaaDoor.AcceptWeightsP
