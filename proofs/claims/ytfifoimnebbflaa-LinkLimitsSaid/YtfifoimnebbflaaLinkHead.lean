/- link.Side.Head, without a body. -/
import Derived.Test.YtfifoimnebbflaaLink
import Derived.OwnWalk
namespace Go.Proofs.Ytfifoimnebbflaa
open Go.RowKit
set_option linter.unusedVariables false
set_option linter.unusedSimpArgs false

theorem end_take (bs : List UInt8) : endN (bs.take (min 16384 bs.length)) = endN bs ∧ endE (bs.take (min 16384 bs.length)) = endE bs := by
  have e : bs.take (min 16384 bs.length) = bs.take 16384 := by
    by_cases h : bs.length ≤ 16384
    · rw [Nat.min_eq_right h, List.take_length, List.take_of_length_le h]
    · rw [Nat.min_eq_left (by omega)]
  have hi : endI (bs.take 16384) = endI bs := by unfold endI; rw [List.take_take, Nat.min_self]
  rw [e]
  unfold endN endE
  rw [hi]
  refine ⟨rfl, ?_⟩
  split
  · rfl
  · rw [List.length_take]
    by_cases h : 16384 ≤ bs.length
    · rw [if_pos (by omega), if_pos h]
    · rw [if_neg (by omega), if_neg h]
theorem endN_le (bs : List UInt8) : endN bs ≤ bs.length := by
  unfold endN
  split
  · rename_i hi
    have := Lib.index_room (bs.take 16384) endL hi
    have e : (endL.length : Int) = 4 := rfl
    have h2 : endI bs + 4 ≤ ((bs.take 16384).length : Nat) := this
    rw [List.length_take] at h2
    omega
  · exact Nat.zero_le _
def hdE (bs : List UInt8) (ended : Bool) : Nat := if endE bs = 0 then 0 else if endE bs = 5 then (if ended then (if bs.length = 0 then 8 else 2) else 5) else endE bs
def hdO (bs : List UInt8) : List UInt8 := if endE bs = 0 then bs.take (endN bs) else []
theorem own_shape1 {w : World} {base e size n : Nat} {v : Value} {xs : List Value} (h : w.ownsRow base e size v n xs) : ∃ A c, v = .slice A n c ∧ n ≤ c ∧ (A = none → c = 0) := by
  rcases h.2 with ⟨rfl, rfl⟩ | ⟨g, cap, cur, rfl, h0, _, h1, h2, _⟩
  · exact ⟨none, 0, rfl, Nat.le_refl _, fun _ => rfl⟩
  · exact ⟨_, cap, rfl, h1, fun h => by cases h⟩
set_option maxRecDepth 100000 in
set_option maxHeartbeats 3200000 in
theorem linkhead_any (s r mo : Nat) (ended : Bool) (d : Option Nat) (bs : List UInt8) (mx : Int) (w : World) (h : IsSide w s r mo ended d bs) (hm : w.cell? ⟨0, 0, none⟩ = some (.int .i64 mx)) :
    Calls Try.prog 7 #[.pointer (some ⟨s, 0, none⟩)] w fun e w' => ∃ A c, e = .returned (.tuple #[.slice A (hdO bs).length c, .int .i64 (hdE bs ended : Nat)]) ∧
      Rd w' w'.heap.size 1 A (hdO bs).length (bcells (hdO bs)) ∧ IsSide w' s r mo ended d (bs.drop (hdO bs).length) ∧ w.grownBy w' (some r) := by
  have hle := h.2.1.le
  have hm2 := h.2.2.2.2
  have hmb : 0 < w.heap.size := World.block_lt_of_cell? w _ hm
  obtain ⟨k0, k1, k2⟩ := h.1.three_
  obtain ⟨m, hmd⟩ : ∃ m, m = min 16384 bs.length := ⟨_, rfl⟩
  have q1 := peekB r bs.length mo d 16384 (bcells bs) w h.2.1 (by omega) (bcells_one _) m (by omega)
  rw [Nat.mul_one, bcells_take] at q1
  obtain ⟨t1, t2⟩ := end_take bs
  rw [← hmd] at t1 t2
  have hNle := endN_le bs
  have hmB : m ≤ 100000 := by omega
  obtain ⟨N, hN⟩ : ∃ N, N = endN bs := ⟨_, rfl⟩
  obtain ⟨E, hE⟩ : ∃ E, E = endE bs := ⟨_, rfl⟩
  obtain ⟨rE, hrE⟩ : ∃ x, x = hdE bs ended := ⟨_, rfl⟩
  obtain ⟨rO, hrO⟩ : ∃ x, x = hdO bs := ⟨_, rfl⟩
  rw [← hrE, ← hrO]
  unfold hdE at hrE
  unfold hdO at hrO
  rw [← hE] at hrE hrO t2
  rw [← hN] at hrO t1 hNle
  have HRE := hide hrE
  have HRO := hide hrO
  have HT := hide hmd
  clear hN hE hrE hrO hmd
  obtain ⟨n, hn⟩ : ∃ n, n = bs.length := ⟨_, rfl⟩
  have HN := hide hn
  go_enter Try.func7, Try.ntmps7
  go_wp2_with fail
  refine q1.mono ?_
  rintro e w1 ⟨A1, c1, rfl, o1, hc1, hc2, b1⟩
  obtain ⟨A1', c1', he1, -, hA1⟩ := own_shape1 o1
  cases he1
  have q2 := headend_any A1 m c1 w1.heap.size (bs.take m) mx w1 (Rd.of_own o1) (Nat.le_refl _) hmB hc1 hA1 ((b1.cell (p := ⟨0, 0, none⟩) hmb).trans hm)
  rw [t1, t2] at q2
  have h1 := h.below b1
  clear q1 t1 t2 o1 hm k0 k1 k2 hA1 hc1 hc2
  go_wp2_with fail
  refine q2.mono ?_
  rintro e w2 ⟨rfl, b2⟩
  have h2 := h1.below b2
  have t2 := b1.trans (b2.mono b1.size)
  obtain ⟨k0, k1, k2⟩ := h2.1.three_
  clear q2 h1 b1 b2
  by_cases hE0 : E = 0
  · subst hE0
    have q3 := popB r bs.length mo d N (bcells bs) w2 h2.2.1 (by omega) (bcells_one _) N (by omega)
    rw [Nat.mul_one, bcells_take, bcells_drop] at q3
    go_wp2_with fail
    refine q3.mono ?_
    rintro e w3 ⟨A3, c3, rfl, o3, r3, g3⟩
    go_wp2_with fail
    go_ret2
    obtain rfl : rE = 0 := by rw [HRE.out]; simp
    obtain rfl : rO = bs.take N := by rw [HRO.out]; simp
    have hl : (bs.take N).length = N := by rw [List.length_take]; omega
    rw [hl]
    refine ⟨A3, c3, rfl, Rd.of_own o3, ⟨h2.1.grown_ g3 (by intro e; cases e; exact h.2.2.1 rfl), ?_, h.2.2⟩, grown_trans (grown_of_below t2) g3⟩
    rw [List.length_drop]; exact r3
  · have e0 : ((E : Int) == 0) = false := by rw [beq_eq_false_iff_ne]; omega
    obtain rfl : rO = [] := by rw [HRO.out, if_neg hE0]
    by_cases hE5 : E = 5
    · subst hE5
      rcases ended with _ | _
      · obtain rfl : rE = 5 := by rw [HRE.out]; rfl
        go_wp2_with fail
        go_ret2
        exact ⟨none, 0, rfl, Rd.nil_, h2, grown_of_below t2⟩
      · have q3 := lenB r _ mo d _ w2 h2.2.1
        by_cases hz : bs.length = 0
        · obtain rfl : rE = 8 := by rw [HRE.out]; simp [hz]
          have hz' : ((bs.length : Int) == 0) = true := by rw [beq_iff_eq]; omega
          go_wp2_with fail
          refine q3.mono ?_
          rintro e w3 ⟨rfl, rfl⟩
          go_wp2_with fail
          go_ret2
          exact ⟨none, 0, rfl, Rd.nil_, h2, grown_of_below t2⟩
        · obtain rfl : rE = 2 := by rw [HRE.out]; simp [hz]
          have hz' : ((bs.length : Int) == 0) = false := by rw [beq_eq_false_iff_ne]; omega
          go_wp2_with fail
          refine q3.mono ?_
          rintro e w3 ⟨rfl, rfl⟩
          go_wp2_with fail
          go_ret2
          exact ⟨none, 0, rfl, Rd.nil_, h2, grown_of_below t2⟩
    · have e5 : ((E : Int) == 5) = false := by rw [beq_eq_false_iff_ne]; omega
      obtain rfl : rE = E := by rw [HRE.out, if_neg hE0, if_neg hE5]
      go_wp2_with fail
      go_ret2
      exact ⟨none, 0, rfl, Rd.nil_, h2, grown_of_below t2⟩
end Go.Proofs.Ytfifoimnebbflaa
