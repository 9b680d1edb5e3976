/- chunk.Decoder: begin, bytes. -/
import Derived.Test.YtdpcncpfbaigeaaDoorDecLine
import Derived.Test.YtdpcncpfbaigeaaDoorDecSize
namespace Go.Proofs.YtdpcncpfbaigeaaDoor
open Go.RowKit
set_option linter.unusedVariables false
set_option linter.unusedSimpArgs false

theorem lineR_of {l : List UInt8} (h : lineE l ≠ 0) : lineR l = l := by
  unfold lineE at h
  split at h
  · exact absurd rfl h
  · rename_i hi
    unfold lineR; rw [if_neg hi]
theorem lineT_len (l : List UInt8) : (lineT l).length ≤ 1022 := by
  unfold lineT
  split
  · rename_i h
    have := lineIx_le l h
    rw [List.length_take]; omega
  · simp
theorem lineR_len (l : List UInt8) : (lineR l).length ≤ l.length := by
  unfold lineR
  split
  · rw [List.length_drop]; omega
  · exact Nat.le_refl _
set_option maxRecDepth 100000 in
set_option maxHeartbeats 3200000 in
theorem decbegin_any (d base : Nat) (own : Option Nat) (S : DS) (mx : Int) (w : World) (h : IsDec w d base own S) (hbase : base ≤ w.heap.size) (hn : S.inp.length ≤ 1000000000) (hm : w.cell? ⟨1, 0, none⟩ = some (.int .i64 mx)) :
    Calls Tryd.prog 35 #[.pointer (some ⟨d, 0, none⟩)] w fun e w' => e = .returned (.int .i64 (beginE S)) ∧ IsDec w' d base own (beginS S) ∧ w.grownBy w' (some d) := by
  have q := decline_any d base own S mx w h hbase hn hm
  have qs := fun w => decsize_any ⟨(lineT S.inp).toArray⟩ w (by rw [size_of]; have := lineT_len S.inp; show (lineT S.inp).length ≤ 2000; omega)
  change ∀ w, Calls _ _ _ w (fun e w' => ∃ v : Int, e = .returned (.tuple #[.int .i64 v, .bool (sizeOk (lineT S.inp))]) ∧ (sizeOk (lineT S.inp) = true → v = sizeN (lineT S.inp)) ∧ Below w.heap.size w w') at qs
  obtain ⟨rE, hrE⟩ : ∃ x, x = beginE S := ⟨_, rfl⟩
  obtain ⟨rS, hrS⟩ : ∃ x, x = beginS S := ⟨_, rfl⟩
  rw [← hrE, ← hrS]
  obtain ⟨l, st, lf, fl, er⟩ := S
  dsimp only at q qs hrE hrS
  unfold beginE at hrE
  unfold beginS at hrS
  dsimp only at hrE hrS
  obtain ⟨T, hT⟩ : ∃ T, T = lineT l := ⟨_, rfl⟩
  have HRR := hide (fun h => lineR_of (l := l) h)
  obtain ⟨R, hR⟩ : ∃ R, R = lineR l := ⟨_, rfl⟩
  rw [← hT] at q qs hrE hrS
  rw [← hR] at q hrS
  obtain ⟨sT, hsT⟩ : ∃ s : ByteArray, s = ⟨T.toArray⟩ := ⟨_, rfl⟩
  rw [← hsT] at q qs
  have HT := hide hT
  have HR := hide hR
  clear h hn hm hsT hT hR
  by_cases hE : lineE l = 0
  · rw [if_pos hE] at hrE hrS
    rw [hE] at q
    rcases hok : sizeOk T with _ | _
    · simp only [hok, Bool.false_eq_true, if_true, if_false] at hrE hrS
      rw [hok] at qs
      subst hrE
      have HS := hide hrS
      clear hrS hE hok
      go_enter Tryd.func35, Tryd.ntmps35
      go_wp2_with fail
      refine q.mono ?_
      rintro e w1 ⟨rfl, h1, b1⟩
      have b1s := b1.size
      clear q
      go_wp2_with fail
      refine (qs w1).mono ?_
      rintro e w2 ⟨v, rfl, -, b2⟩
      have h2 := h1.below b2
      have t2 := grown_trans b1 (grown_of_below b2)
      clear qs
      go_wp2_with fail
      go_ret
      rw [HS.out]
      exact ⟨rfl, h2, t2⟩
    · simp only [hok, Bool.false_eq_true, if_true, if_false] at hrE hrS
      rw [hok] at qs
      subst hrE
      obtain ⟨N, hN⟩ : ∃ N, N = sizeN T := ⟨_, rfl⟩
      rw [← hN] at hrS qs
      have HS := hide hrS
      clear hrS hE hok hN
      go_enter Tryd.func35, Tryd.ntmps35
      go_wp2_with fail
      refine q.mono ?_
      rintro e w1 ⟨rfl, h1, b1⟩
      have b1s := b1.size
      clear q
      go_wp2_with fail
      refine (qs w1).mono ?_
      rintro e w2 ⟨v, rfl, hv, b2⟩
      obtain rfl : v = (N : Int) := by first | exact hv rfl | exact hv trivial
      have h2 := h1.below b2
      have t2 := grown_trans b1 (grown_of_below b2)
      clear qs b1 b2 h1
      obtain ⟨A, c, hx, ho, ⟨hoe, hod⟩, hB⟩ := h2
      have hne := fun e => hod (hoe.symm.trans e)
      dsimp only at hx ho hne hoe
      obtain ⟨k0, k1, k2, k3, k4⟩ := hx.five
      obtain ⟨f0, f1, f2, f3, f4⟩ := hx.free5
      have x1 := hx.set (k := 2) (x := .int .i64 N) (by simp)
      have x2 := x1.set (k := 1) (x := .int .i64 1) (by simp)
      have x3 := x2.set (k := 1) (x := .int .i64 3) (by simp)
      simp only [List.set_cons_succ, List.set_cons_zero] at x1 x2 x3
      have o1 := ho.store_far (a := ⟨d, 2, none⟩) hne (.int .i64 N)
      have o2 := o1.store_far (a := ⟨d, 1, none⟩) hne (.int .i64 1)
      have o3 := o2.store_far (a := ⟨d, 1, none⟩) hne (.int .i64 3)
      have u1 := grown_set t2 2 (.int .i64 N)
      have u2 := grown_set u1 1 (.int .i64 1)
      have u3 := grown_set u2 1 (.int .i64 3)
      have HIs := hide (show ∀ W s, Box W d [.slice A R.length c, .int .i64 (s : Nat), .int .i64 N, .int .i64 fl, .int .i64 er] → Ow W base 1 (.slice A R.length c) R.length (bcells R) → IsDec W d base own ⟨R, s, N, fl, er⟩ from fun W s b o => ⟨A, c, b, o, ⟨hoe, hod⟩, hB⟩)
      clear hx ho hne t2
      by_cases h0 : N = 0
      · have hN0 : ((N : Int) == 0) = true := by rw [beq_iff_eq]; omega
        rw [if_pos h0] at HS
        clear h0
        go_wp2_with fail
        go_ret
        rw [HS.out]
        exact ⟨rfl, HIs.out _ 3 x3 o3, u3⟩
      · have hN0 : ((N : Int) == 0) = false := by rw [beq_eq_false_iff_ne]; omega
        rw [if_neg h0] at HS
        clear h0
        go_wp2_with fail
        go_ret
        rw [HS.out]
        exact ⟨rfl, HIs.out _ 1 x2 o2, u2⟩
  · rw [if_neg hE] at hrE hrS
    have hRl : R = l := by rw [HR.out, HRR.out hE]
    subst hRl
    subst hrE
    have hne : ((lineE R : Int) != 0) = true := by rw [bne_iff_ne]; omega
    have HS := hide hrS
    obtain ⟨E, hEE⟩ : ∃ E, E = lineE R := ⟨_, rfl⟩
    rw [← hEE] at q hne ⊢
    clear hrS hE hEE qs
    go_enter Tryd.func35, Tryd.ntmps35
    go_wp2_with fail
    refine q.mono ?_
    rintro e w1 ⟨rfl, h1, b1⟩
    clear q
    go_wp2_with fail
    go_ret
    rw [HS.out]
    exact ⟨rfl, h1, b1⟩
end Go.Proofs.YtdpcncpfbaigeaaDoor
