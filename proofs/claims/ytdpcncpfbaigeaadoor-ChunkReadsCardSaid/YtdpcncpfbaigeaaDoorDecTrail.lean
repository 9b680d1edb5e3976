/- chunk.Decoder: trailer. -/
import Derived.Test.YtdpcncpfbaigeaaDoorDecBegin
import Derived.Test.YtdpcncpfbaigeaaDoorCut
namespace Go.Proofs.YtdpcncpfbaigeaaDoor
open Go.RowKit
set_option linter.unusedVariables false
set_option linter.unusedSimpArgs false

set_option maxRecDepth 100000 in
set_option maxHeartbeats 3200000 in
theorem dectrail_any (d base : Nat) (own : Option Nat) (S : DS) (mx : Int) (w : World) (h : IsDec w d base own S) (hbase : base ≤ w.heap.size) (hn : S.inp.length ≤ 1000000000) (hf : S.fl ≤ 1000000000) (hm : w.cell? ⟨1, 0, none⟩ = some (.int .i64 mx)) :
    Calls Tryd.prog 38 #[.pointer (some ⟨d, 0, none⟩)] w fun e w' => e = .returned (.int .i64 (trailE S)) ∧ IsDec w' d base own (trailS S) ∧ w.grownBy w' (some d) := by
  have q := decline_any d base own S mx w h hbase hn hm
  obtain ⟨l, st, lf, fl, er⟩ := S
  dsimp only at q hf
  obtain ⟨rE, hrE⟩ : ∃ x, x = trailE ⟨l, st, lf, fl, er⟩ := ⟨_, rfl⟩
  obtain ⟨rS, hrS⟩ : ∃ x, x = trailS ⟨l, st, lf, fl, er⟩ := ⟨_, rfl⟩
  rw [← hrE, ← hrS]
  unfold trailE at hrE
  unfold trailS at hrS
  dsimp only at hrE hrS
  have HRR := hide (fun h => lineR_of (l := l) h)
  have hTl := lineT_len l
  obtain ⟨T, hT⟩ : ∃ T, T = lineT l := ⟨_, rfl⟩
  obtain ⟨R, hR⟩ : ∃ R, R = lineR l := ⟨_, rfl⟩
  rw [← hT] at q hrE hrS hTl
  rw [← hR] at q hrS
  have hc := fun w => strcut_any ⟨T.toArray⟩ 58 w (by rw [size_of]; show T.length ≤ _; omega)
  change ∀ w, Calls _ _ _ w (fun e w' => e = .returned (.tuple #[.string ⟨(cutHead 58 T).toArray⟩, .string ⟨(cutTail 58 T).toArray⟩, .bool (cutHas 58 T)]) ∧ Below w.heap.size w w') at hc
  have hle1 := cutHead_le 58 T
  have hle2 : (cutTail 58 T).length ≤ T.length := by unfold cutTail; simp
  have hlk : lineOk T = (cutHas 58 T && (goodNameL (cutHead 58 T) && goodValueL (trimL (cutTail 58 T)))) := rfl
  rw [hlk] at hrE hrS
  obtain ⟨hd, hhd⟩ : ∃ hd, hd = cutHead 58 T := ⟨_, rfl⟩
  obtain ⟨tl, htl⟩ : ∃ tl, tl = cutTail 58 T := ⟨_, rfl⟩
  obtain ⟨hs, hhs⟩ : ∃ h, h = cutHas 58 T := ⟨_, rfl⟩
  simp only [← hhd, ← htl, ← hhs] at hc hle1 hle2 hrE hrS
  have q1 := fun w => trim_any ⟨tl.toArray⟩ w (by rw [mk_size]; omega)
  change ∀ w, Calls _ _ _ w (fun e w' => e = .returned (.string ⟨(trimL tl).toArray⟩) ∧ Below w.heap.size w w') at q1
  have hle3 : (trimL tl).length ≤ tl.length := by
    show ((tl.reverse.dropWhile blankB).reverse.dropWhile blankB).length ≤ _
    have h1 := (List.dropWhile_suffix blankB (l := tl.reverse)).length_le
    have h2 := (List.dropWhile_suffix blankB (l := (tl.reverse.dropWhile blankB).reverse)).length_le
    simp only [List.length_reverse] at h1 h2
    omega
  obtain ⟨th, hth⟩ : ∃ t, t = trimL tl := ⟨_, rfl⟩
  simp only [← hth] at q1 hle3 hrE hrS
  have q2 := fun w => goodName_any ⟨hd.toArray⟩ w (by rw [mk_size]; omega)
  have q3 := fun w => goodValue_any ⟨th.toArray⟩ w (by rw [mk_size]; omega)
  change ∀ w, Calls _ _ _ w (fun e w' => e = .returned (.bool (goodNameL hd)) ∧ w = w') at q2
  change ∀ w, Calls _ _ _ w (fun e w' => e = .returned (.bool (goodValueL th)) ∧ Below w.heap.size w w') at q3
  obtain ⟨gn, hgn⟩ : ∃ x, x = goodNameL hd := ⟨_, rfl⟩
  obtain ⟨gv, hgv⟩ : ∃ x, x = goodValueL th := ⟨_, rfl⟩
  simp only [← hgn] at q2 hrE hrS
  simp only [← hgv] at q3 hrE hrS
  obtain ⟨sT, e0⟩ : ∃ b : ByteArray, b = ⟨T.toArray⟩ := ⟨_, rfl⟩
  obtain ⟨bhd, e1⟩ : ∃ b : ByteArray, b = ⟨hd.toArray⟩ := ⟨_, rfl⟩
  obtain ⟨btl, e2⟩ : ∃ b : ByteArray, b = ⟨tl.toArray⟩ := ⟨_, rfl⟩
  obtain ⟨bth, e3⟩ : ∃ b : ByteArray, b = ⟨th.toArray⟩ := ⟨_, rfl⟩
  simp only [← e0, ← e1, ← e2, ← e3] at hc q1 q2 q3 q
  have hTe : (sT.toList == []) = decide (T = []) := by
    rw [e0, ByteArray.toList_eq]
    show (T == []) = _
    rcases T with _ | _ <;> rfl
  have HT := hide hT
  have HR := hide hR
  have hb := hbase
  clear e0 e1 e2 e3 hgn hgv hth hle1 hle2 hle3 hhd htl hhs hTl hlk hT hR h hn hm
  by_cases hE : lineE l = 0
  · rw [if_pos hE] at hrE hrS
    rw [hE] at q
    by_cases hT0 : T = []
    · rw [if_pos hT0] at hrE hrS
      rw [decide_eq_true hT0] at hTe
      subst hrE
      have HS := hide hrS
      clear hrS hE hT0 hc q1 q2 q3
      go_enter Tryd.func38, Tryd.ntmps38
      go_wp2_with fail
      refine q.mono ?_
      rintro e w1 ⟨rfl, h1, b1⟩
      clear q
      go_wp2_with fail
      go_ret
      rw [HS.out]
      exact ⟨rfl, h1, b1⟩
    · rw [if_neg hT0] at hrE hrS
      rw [decide_eq_false hT0] at hTe
      have HE := hide hrE
      have HS := hide hrS
      clear hrE hrS hE hT0
      rcases hs with _ | _
      · have HF := hide (show rE = 2 ∧ rS = ⟨R, st, lf, fl, er⟩ from ⟨by rw [HE.out]; rfl, by rw [HS.out]; rfl⟩)
        go_enter Tryd.func38, Tryd.ntmps38
        go_wp2_with fail
        refine q.mono ?_
        rintro e w1 ⟨rfl, h1, b1⟩
        have z1 := b1.size
        clear q
        go_wp2_with fail
        refine (hc w1).mono ?_
        rintro e w2 ⟨rfl, b2⟩
        have h2 := h1.below b2
        have t2 := grown_trans b1 (grown_of_below b2)
        clear hc
        go_wp2_with fail
        go_ret
        obtain ⟨rfl, rfl⟩ := HF.out
        exact ⟨rfl, h2, t2⟩
      rcases gn with _ | _
      · have HF := hide (show rE = 2 ∧ rS = ⟨R, st, lf, fl, er⟩ from ⟨by rw [HE.out]; rfl, by rw [HS.out]; rfl⟩)
        go_enter Tryd.func38, Tryd.ntmps38
        go_wp2_with fail
        refine q.mono ?_
        rintro e w1 ⟨rfl, h1, b1⟩
        have z1 := b1.size
        clear q
        go_wp2_with fail
        refine (hc w1).mono ?_
        rintro e w2 ⟨rfl, b2⟩
        have h2 := h1.below b2
        have t2 := grown_trans b1 (grown_of_below b2)
        clear hc
        go_wp2_with fail
        refine (q2 w2).mono ?_
        rintro e w3 ⟨rfl, rfl⟩
        clear q2
        go_wp2_with fail
        go_ret
        obtain ⟨rfl, rfl⟩ := HF.out
        exact ⟨rfl, h2, t2⟩
      rcases gv with _ | _
      · have HF := hide (show rE = 2 ∧ rS = ⟨R, st, lf, fl, er⟩ from ⟨by rw [HE.out]; rfl, by rw [HS.out]; rfl⟩)
        go_enter Tryd.func38, Tryd.ntmps38
        go_wp2_with fail
        refine q.mono ?_
        rintro e w1 ⟨rfl, h1, b1⟩
        have z1 := b1.size
        clear q
        go_wp2_with fail
        refine (hc w1).mono ?_
        rintro e w2 ⟨rfl, b2⟩
        have h2 := h1.below b2
        have t2 := grown_trans b1 (grown_of_below b2)
        have z2 := b2.size
        clear hc
        go_wp2_with fail
        refine (q2 w2).mono ?_
        rintro e w3 ⟨rfl, rfl⟩
        clear q2
        go_wp2_with fail
        refine (q1 w2).mono ?_
        rintro e w3 ⟨rfl, b3⟩
        have h3 := h2.below b3
        have t3 := grown_trans t2 (grown_of_below b3)
        have z3 := b3.size
        clear q1
        go_wp2_with fail
        refine (q3 w3).mono ?_
        rintro e w4 ⟨rfl, b4⟩
        have h4 := h3.below b4
        have t4 := grown_trans t3 (grown_of_below b4)
        clear q3
        go_wp2_with fail
        go_ret
        obtain ⟨rfl, rfl⟩ := HF.out
        exact ⟨rfl, h4, t4⟩
      · have HF := hide (show rE = (if 64 < fl + 1 then 6 else 0) ∧ rS = ⟨R, st, lf, fl + 1, er⟩ from ⟨by rw [HE.out]; rfl, by rw [HS.out]; rfl⟩)
        have hw1 : IntKind.i64.wrap ((fl : Int) + 1) = ((fl + 1 : Nat) : Int) := by rw [IntKind.wrap_i64]; omega
        obtain ⟨F, hF⟩ : ∃ F, F = fl + 1 := ⟨_, rfl⟩
        rw [← hF] at hw1 HF
        go_enter Tryd.func38, Tryd.ntmps38
        go_wp2_with fail
        refine q.mono ?_
        rintro e w1 ⟨rfl, h1, b1⟩
        have z1 := b1.size
        clear q
        go_wp2_with fail
        refine (hc w1).mono ?_
        rintro e w2 ⟨rfl, b2⟩
        have h2 := h1.below b2
        have t2 := grown_trans b1 (grown_of_below b2)
        have z2 := b2.size
        clear hc
        go_wp2_with fail
        refine (q2 w2).mono ?_
        rintro e w3 ⟨rfl, rfl⟩
        clear q2
        go_wp2_with fail
        refine (q1 w2).mono ?_
        rintro e w3 ⟨rfl, b3⟩
        have h3 := h2.below b3
        have t3 := grown_trans t2 (grown_of_below b3)
        have z3 := b3.size
        clear q1
        go_wp2_with fail
        refine (q3 w3).mono ?_
        rintro e w4 ⟨rfl, b4⟩
        have h4 := h3.below b4
        have t4 := grown_trans t3 (grown_of_below b4)
        clear q3 h3 h2 h1 b1 b2 b3 b4 t3 t2 z1 z2 z3
        obtain ⟨A, c, hx, ho, ⟨hoe, hod⟩, hB⟩ := h4
        have hne := fun e => hod (hoe.symm.trans e)
        dsimp only at hx ho hne hoe
        obtain ⟨k0, k1, k2, k3, k4⟩ := hx.five
        obtain ⟨f0, f1, f2, f3, f4⟩ := hx.free5
        have x1 := hx.set (k := 3) (x := .int .i64 F) (by simp)
        simp only [List.set_cons_succ, List.set_cons_zero] at x1
        have o1 := ho.store_far (a := ⟨d, 3, none⟩) hne (.int .i64 F)
        have u1 := grown_set t4 3 (.int .i64 F)
        have HI := hide (show ∀ W, Box W d [.slice A R.length c, .int .i64 st, .int .i64 lf, .int .i64 F, .int .i64 er] → Ow W base 1 (.slice A R.length c) R.length (bcells R) → IsDec W d base own ⟨R, st, lf, F, er⟩ from fun W b o => ⟨A, c, b, o, ⟨hoe, hod⟩, hB⟩)
        clear hx ho t4 hF
        by_cases h64 : 64 < F
        · have i1 : (64 : Int) < (F : Int) := by omega
          rw [if_pos h64] at HF
          clear h64
          go_wp2_with fail
          go_ret
          obtain ⟨rfl, rfl⟩ := HF.out
          exact ⟨rfl, HI.out _ x1 o1, u1⟩
        · have i1 : ¬ (64 : Int) < (F : Int) := by omega
          rw [if_neg h64] at HF
          clear h64
          go_wp2_with fail
          go_ret
          obtain ⟨rfl, rfl⟩ := HF.out
          exact ⟨rfl, HI.out _ x1 o1, u1⟩
  · rw [if_neg hE] at hrE hrS
    have hRl : R = l := by rw [HR.out, HRR.out hE]
    subst hRl
    subst hrE
    have hne : ((lineE R : Int) != 0) = true := by rw [bne_iff_ne]; omega
    have HS := hide hrS
    obtain ⟨E, hEE⟩ : ∃ E, E = lineE R := ⟨_, rfl⟩
    rw [← hEE] at q hne ⊢
    clear hrS hE hEE hc q1 q2 q3 hTe
    go_enter Tryd.func38, Tryd.ntmps38
    go_wp2_with fail
    refine q.mono ?_
    rintro e w1 ⟨rfl, h1, b1⟩
    clear q
    go_wp2_with fail
    go_ret
    rw [HS.out]
    exact ⟨rfl, h1, b1⟩
end Go.Proofs.YtdpcncpfbaigeaaDoor
