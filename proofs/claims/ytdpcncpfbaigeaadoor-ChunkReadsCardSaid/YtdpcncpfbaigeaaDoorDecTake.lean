/- chunk.Decoder.Take, Feed, Rest. -/
import Derived.Test.YtdpcncpfbaigeaaDoorRunSpec
import Derived.Test.YtdpcncpfbaigeaaDoorDecStep
import Derived.Deep.LoopGhost
namespace Go.Proofs.YtdpcncpfbaigeaaDoor
open Go.RowKit
set_option linter.unusedVariables false
set_option linter.unusedSimpArgs false

theorem IsDec.grown {w w' : World} {d base r : Nat} {own : Option Nat} {S : DS} (h : IsDec w d base own S) (hg : w.grownBy w' (some r)) (hr : r ≠ d) (ho : own ≠ some r) : IsDec w' d base own S := by
  obtain ⟨A, c, h1, h2, h3, h4⟩ := h
  refine ⟨A, c, h1.grown hg (fun e => hr (by cases e; rfl)), h2.kept hg ?_, h3, h4⟩
  by_cases hn : (Value.slice A S.inp.length c).ownBlock = none
  · exact .inl hn
  · exact .inr (fun e => ho (h3.1.symm.trans e))
theorem IsDec.keptRow {w w' : World} {d base : Nat} {row : Option Nat} {own : Option Nat} {S : DS} (h : IsDec w d base own S) (hg : w.grownBy w' row) (hr : row ≠ some d) (ho : own ≠ row ∨ own = none) : IsDec w' d base own S := by
  obtain ⟨A, c, h1, h2, h3, h4⟩ := h
  refine ⟨A, c, h1.grown hg hr, h2.kept hg ?_, h3, h4⟩
  rcases ho with ho | ho
  · exact .inr (fun e => ho (h3.1.symm.trans e))
  · exact .inl (h3.1.trans ho)
theorem IsDec.setEr {w : World} {d base : Nat} {own : Option Nat} {S : DS} (h : IsDec w d base own S) (e : Nat) : IsDec (w.setCell ⟨d, 4, none⟩ (.int .i64 e)) d base own { S with er := e } := by
  obtain ⟨A, c, h1, h2, ⟨h3, h5⟩, h4⟩ := h
  have x := h1.set (k := 4) (x := .int .i64 e) (by simp)
  simp only [List.set_cons_succ, List.set_cons_zero] at x
  exact ⟨A, c, x, h2.store_far (by rw [h3]; exact h5) _, ⟨h3, h5⟩, h4⟩
theorem IsDec.er_cell {w : World} {d base : Nat} {own : Option Nat} {S : DS} (h : IsDec w d base own S) : w.cell? ⟨d, 4, none⟩ = some (.int .i64 S.er) ∧ w.frozen? ⟨d, 4, none⟩ = false ∧ d < w.heap.size := by
  obtain ⟨A, c, h1, -⟩ := h
  exact ⟨h1.five.2.2.2.2, h1.free5.2.2.2.2, h1.1⟩
theorem grown_far {w w1 w2 : World} {d : Nat} {row : Option Nat} (h : w.grownBy w1 (some d)) (k : w1.grownBy w2 row) (hr : ∀ r, row = some r → w.heap.size ≤ r) : w.grownBy w2 (some d) :=
  ⟨k.os.trans h.os, k.tape.trans h.tape, k.output.trans h.output, Nat.le_trans h.size k.size, fun i hi hne => (k.block i (Nat.lt_of_lt_of_le hi h.size) (fun e => by have := hr i e.symm; omega)).trans (h.block i hi hne)⟩
set_option maxRecDepth 100000 in
set_option maxHeartbeats 6400000 in
theorem dectake_any (d base : Nat) (own : Option Nat) (S : DS) (n : Int) (mx : Int) (w : World) (h : IsDec w d base own S) (hown : ∀ g, own = some g → g < w.heap.size) (hbase : base ≤ w.heap.size) (hok : DSok S) (hn : n ≤ 9223372036854775807) (hm : w.cell? ⟨1, 0, none⟩ = some (.int .i64 mx)) (hmd : 1 ≠ d) :
    Calls Tryd.prog 11 #[.pointer (some ⟨d, 0, none⟩), .int .i64 n] w fun e w' => ∃ A' c', e = .returned (.tuple #[.slice A' (takeO n S).length c', .int .i64 (takeEr n S)]) ∧
      Ow w' w.heap.size 1 (.slice A' (takeO n S).length c') (takeO n S).length (bcells (takeO n S)) ∧ IsDec w' d base own (takeR n S).2.2 ∧ w.grownBy w' (some d) := by
  obtain ⟨i0, hi0, hz0, hz1, hz2⟩ := info_parts infoU8b
  have hmb : 1 < w.heap.size := World.block_lt_of_cell? w _ hm
  have hmx := fun (W : World) (bl : w.grownBy W (some d)) => (World.cell?_of_block (a := ⟨1, 0, none⟩) (bl.block _ hmb (by intro e; cases e; exact hmd rfl))).trans hm
  have hdw : d < w.heap.size := h.er_cell.2.2
  obtain ⟨rE, hrE⟩ : ∃ x, x = takeEr n S := ⟨_, rfl⟩
  obtain ⟨rO, hrO⟩ : ∃ x, x = takeO n S := ⟨_, rfl⟩
  obtain ⟨R, hR⟩ : ∃ x, x = takeR n S := ⟨_, rfl⟩
  unfold takeEr at hrE
  unfold takeO at hrO
  rw [← hR] at hrE hrO
  have hE0 : rE = takeEr n S := by rw [hrE, hR]; rfl
  have hO0 : rO = takeO n S := by rw [hrO, hR]; rfl
  rw [← hE0, ← hO0, ← hR]
  have HE := hide hrE
  have HO := hide hrO
  have HR := hide hR
  have HOK := hide hok
  clear hrE hrO hR hE0 hO0 hok hm
  obtain ⟨TL, hTL⟩ : ∃ t, t = S.inp.length := ⟨_, rfl⟩
  go_enter Tryd.func11, Tryd.ntmps11
  go_wp2_with fail
  go_loopg [6, 7] (TL + 1) (fun f o e wr => ∃ (fu : Nat) (S' : DS) (out : List UInt8) (m : Nat) (er : Nat) (sr : Nat) (A : Option Addr) (c : Nat), f = fu ∧ o = .slice A m c ∧ out.length = m ∧ S'.er = sr ∧ e = .int .i64 er ∧ Ow wr w.heap.size 1 (.slice A m c) m (bcells out) ∧ IsDec wr d base own S' ∧ DSok S' ∧ m + S'.inp.length ≤ TL ∧ (er = 0 → S'.inp.length + 1 ≤ fu) ∧ R = runD fu n S' out er ∧ w.grownBy wr (some d))
  case atStart => exact ⟨TL + 1, S, [], 0, 0, _, none, 0, rfl, rfl, rfl, rfl, rfl, Ow.nil_, h, HOK.out, by omega, fun _ => by omega, by rw [hTL]; exact HR.out, World.grownBy.refl _ _⟩
  case round =>
    obtain ⟨fu, S', out, m, er, sr, A, c, hfu, rfl, hm', hsr, rfl, ho, hd', hok, hlen, hf, hrun, hg⟩ := hrel
    obtain ⟨c4, f4, -⟩ := hd'.er_cell
    rw [hsr] at c4
    have hgs := hg.size
    by_cases h1 : (m : Int) < n
    · by_cases h2 : sr = 0
      · by_cases h3 : er = 0
        · have hsz := h2
          subst h2 h3
          have hf0 := hf rfl
          clear hf
          obtain ⟨f', rfl⟩ : ∃ f', fu = f' + 1 := ⟨fu - 1, by omega⟩
          obtain ⟨X, hX⟩ : ∃ X : Nat, (X : Int) = n - m := ⟨(n - m).toNat, by omega⟩
          have hXn : (n - (m : Int)).toNat = X := by omega
          have hw : IntKind.i64.wrap (n - (m : Int)) = X := by rw [IntKind.wrap_i64]; omega
          have hRR := hrun
          rw [runD_go ⟨by rw [hm']; exact h1, hsr, rfl⟩, hm', hXn] at hRR
          have hok2 := hok.2.2
          have qs := decstep_any d base own S' X mx wr hd' (Nat.le_trans hbase hgs) (by omega) hok.2.1 (by omega) hok.1 (hmx wr hg)
          have hSK := step_ok X hok
          have hSL := stepO_len X hok
          obtain ⟨sE, hsE⟩ : ∃ x, x = stepE S' X := ⟨_, rfl⟩
          obtain ⟨sO, hsO⟩ : ∃ x, x = stepO S' X := ⟨_, rfl⟩
          obtain ⟨k, hk⟩ : ∃ x, x = sO.length := ⟨_, rfl⟩
          have hT : stepT S' X = if sE ≠ 0 ∧ sE ≠ 5 then { stepS S' X with er := sE } else stepS S' X := by rw [hsE]; rfl
          obtain ⟨T, hTT⟩ : ∃ x, x = stepT S' X := ⟨_, rfl⟩
          rw [← hTT] at hT hRR
          rw [← hsE, ← hsO] at hRR
          rw [← hsE, ← hsO, ← hk] at qs
          rw [← hsE] at hSK
          rw [← hsO, ← hk] at hSL
          obtain ⟨U, hU⟩ : ∃ x, x = stepS S' X := ⟨_, rfl⟩
          rw [← hU] at hT qs hSK hSL
          have hsr0 := hSK.2.2.2
          rw [hsr] at hsr0
          have hOr : A.map Addr.block = A.map Addr.block := rfl
          clear hok hrun hsE hsO hTT hU hsr hd' hXn hX hOr
          have HRR := hide hRR
          have HSK := hide hSK
          have HT := hide hT
          clear hRR hSK hT
          go_wp2_with fail
          refine qs.mono ?_
          rintro e w1 ⟨A1, c1, rfl, r1, h1', g1⟩
          clear qs
          have hrow : ∀ g, (Value.slice A m c).ownBlock = some g → w.heap.size ≤ g := fun g hg => (ho.lt g hg).1
          have hA : (Value.slice A m c).ownBlock = none ∨ (Value.slice A m c).ownBlock ≠ some d := .inr (fun e => by have := hrow d e; omega)
          have hO2 : own ≠ (Value.slice A m c).ownBlock ∨ own = none := by
            cases own with
            | none => exact .inr rfl
            | some g => exact .inl (fun e => by have := hrow g e.symm; have := hown g rfl; omega)
          have ho1 := ho.kept g1 hA
          have g1s := g1.size
          have hkd : ∀ W, w1.grownBy W (Value.slice A m c).ownBlock → IsDec W d base own U := fun W k => h1'.keptRow k (fun e => by have := hrow d e; omega) hO2
          have hkg : ∀ W, w1.grownBy W (Value.slice A m c).ownBlock → w.grownBy W (some d) := fun W k => grown_far (hg.trans g1) k hrow
          have HKG := hide hkg
          have HKD := hide hkd
          have hko := HOK.out.2.2
          have hmk : m + k ≤ 900000000 := by omega
          have hbs : w.heap.size ≤ w1.heap.size := Nat.le_trans hgs g1s
          have HK := hide hk
          clear hkg hkd hA hO2 hrow h1' ho g1 hg hk
          by_cases e0 : sE = 0
          · have hT2 : T = U := by rw [HT.out, if_neg (fun h => h.1 e0)]
            have i5 : ((sE : Int) != 0) = false := by rw [e0]; rfl
            go_wp2_with (at_builtin; refine wpl_append_ow _ rfl _ _ _ rfl w.heap.size 5 i0 _ 1 1 Tryd.underlying26 hi0 hz0 hz1 hz2 rfl (by omega) _ _ _ rfl _ _ _ _ _ rfl ho1 r1 (bcells_one _) (by simp [maxLen]; omega) (by omega) hbs ?_; intro v2 w2 ho2 b2 g2 hv2; obtain ⟨A2, c2', rfl, -, -⟩ := Ow.shape ho2; have c42 := (HKD.out _ g2).er_cell.1; have f42 := (HKD.out _ g2).er_cell.2.1)
            go_roundg f'
            · exact ⟨f', T, out ++ sO, m + k, sE, 0, A2, c2', rfl, rfl, by rw [List.length_append, hm', HK.out], by rw [hT2]; exact hsr0, by first | rfl | (rw [e0]; rfl) | (rw [e5]; rfl), by rw [← bcells_append]; exact ho2, by rw [hT2]; exact HKD.out _ g2, by rw [hT2]; exact HSK.out.1, by rw [hT2]; omega, fun h => by rw [hT2]; have := HSK.out.2.2.1 e0; omega, HRR.out, HKG.out _ g2⟩
            · omega
          · by_cases e5 : sE = 5
            · have hT2 : T = U := by rw [HT.out, if_neg (fun h => h.2 e5)]
              have i5 : ((sE : Int) != 0) = true := by rw [e5]; rfl
              have i6 : ((sE : Int) != 5) = false := by rw [e5]; rfl
              go_wp2_with (at_builtin; refine wpl_append_ow _ rfl _ _ _ rfl w.heap.size 5 i0 _ 1 1 Tryd.underlying26 hi0 hz0 hz1 hz2 rfl (by omega) _ _ _ rfl _ _ _ _ _ rfl ho1 r1 (bcells_one _) (by simp [maxLen]; omega) (by omega) hbs ?_; intro v2 w2 ho2 b2 g2 hv2; obtain ⟨A2, c2', rfl, -, -⟩ := Ow.shape ho2; have c42 := (HKD.out _ g2).er_cell.1; have f42 := (HKD.out _ g2).er_cell.2.1)
              go_roundg f'
              · exact ⟨f', T, out ++ sO, m + k, sE, 0, A2, c2', rfl, rfl, by rw [List.length_append, hm', HK.out], by rw [hT2]; exact hsr0, by first | rfl | (rw [e0]; rfl) | (rw [e5]; rfl), by rw [← bcells_append]; exact ho2, by rw [hT2]; exact HKD.out _ g2, by rw [hT2]; exact HSK.out.1, by rw [hT2]; omega, fun h => absurd h e0, HRR.out, HKG.out _ g2⟩
              · omega
            · have hT2 : T = { U with er := sE } := by rw [HT.out, if_pos ⟨e0, e5⟩]
              have i5 : ((sE : Int) != 0) = true := by simp; omega
              have i6 : ((sE : Int) != 5) = true := by simp; omega
              go_wp2_with (at_builtin; refine wpl_append_ow _ rfl _ _ _ rfl w.heap.size 5 i0 _ 1 1 Tryd.underlying26 hi0 hz0 hz1 hz2 rfl (by omega) _ _ _ rfl _ _ _ _ _ rfl ho1 r1 (bcells_one _) (by simp [maxLen]; omega) (by omega) hbs ?_; intro v2 w2 ho2 b2 g2 hv2; obtain ⟨A2, c2', rfl, -, -⟩ := Ow.shape ho2; have c42 := (HKD.out _ g2).er_cell.1; have f42 := (HKD.out _ g2).er_cell.2.1)
              go_roundg f'
              · exact ⟨f', T, out ++ sO, m + k, sE, sE, A2, c2', rfl, rfl, by rw [List.length_append, hm', HK.out], by rw [hT2], rfl, by rw [← bcells_append]; exact ho2.store_far (fun e => by have := (ho2.lt d e).1; omega) _, by rw [hT2]; exact (HKD.out _ g2).setEr sE, by rw [hT2]; exact HSK.out.1, by rw [hT2]; show _ + U.inp.length ≤ _; omega, fun h => absurd h e0, HRR.out, grown_set (HKG.out _ g2) 4 _⟩
              · omega
        · have hno : ¬ ((out.length : Int) < n ∧ S'.er = 0 ∧ er = 0) := fun h => h3 h.2.2
          have i3 : ((er : Int) == 0) = false := by rw [beq_eq_false_iff_ne]; omega
          have i2' : ((sr : Int) == 0) = true := by rw [beq_iff_eq]; omega
          have hsz := h2
          clear h3 h2
          have hRR := hrun
          rw [runD_stop hno] at hRR
          have r0 := ho
          have HE2 := hide (show rE = if n ≤ m then 0 else if 0 < m ∨ sr = 0 then 5 else sr by rw [HE.out, hRR, ← hm', ← hsr])
          have HO2 := hide (show rO = if n ≤ m then out else if 0 < m ∨ sr = 0 then out else [] by rw [HO.out, hRR, ← hm', ← hsr])
          have HDD := hide (show IsDec wr d base own R.2.2 by rw [hRR]; exact hd')
          have HM := hide hm'
          clear hRR hrun hno hf hm' hsr hd' hlen hok
          have hnl : ¬ n ≤ (m : Int) := by omega
          by_cases hpos : m = 0
          · subst hpos
            have hnil := List.eq_nil_of_length_eq_zero HM.out
            subst hnil
            have HF := hide (show rE = 5 ∧ rO = [] from ⟨by rw [HE2.out, if_neg hnl, if_pos (.inr hsz)], by rw [HO2.out, if_neg hnl, if_pos (.inr hsz)]⟩)
            subst hsz
            clear hnl
            go_wp2_with fail
            go_ret2
            obtain ⟨rfl, rfl⟩ := HF.out
            first | exact ⟨A, c, rfl, r0, HDD.out, hg⟩ | exact ⟨A, ⟨c, rfl⟩, r0, HDD.out, hg⟩
          · have HF := hide (show rE = 5 ∧ rO = out from ⟨by rw [HE2.out, if_neg hnl, if_pos (.inl (by omega))], by rw [HO2.out, if_neg hnl, if_pos (.inl (by omega))]⟩)
            have i1 : (0 : Int) < (m : Int) := by omega
            clear hpos hnl
            go_wp2_with fail
            go_ret2
            obtain ⟨rfl, rfl⟩ := HF.out
            rw [HM.out]
            first | exact ⟨A, c, rfl, r0, HDD.out, hg⟩ | exact ⟨A, ⟨c, rfl⟩, r0, HDD.out, hg⟩
      · have hno : ¬ ((out.length : Int) < n ∧ S'.er = 0 ∧ er = 0) := fun h => h2 (by omega)
        have i2' : ((sr : Int) == 0) = false := by rw [beq_eq_false_iff_ne]; omega
        have hsn := h2
        clear h2
        have hRR := hrun
        rw [runD_stop hno] at hRR
        have r0 := ho
        have HE2 := hide (show rE = if n ≤ m then 0 else if 0 < m ∨ sr = 0 then 5 else sr by rw [HE.out, hRR, ← hm', ← hsr])
        have HO2 := hide (show rO = if n ≤ m then out else if 0 < m ∨ sr = 0 then out else [] by rw [HO.out, hRR, ← hm', ← hsr])
        have HDD := hide (show IsDec wr d base own R.2.2 by rw [hRR]; exact hd')
        have HM := hide hm'
        clear hRR hrun hno hf hm' hsr hd' hlen hok
        have hnl : ¬ n ≤ (m : Int) := by omega
        by_cases hpos : m = 0
        · subst hpos
          have hnil := List.eq_nil_of_length_eq_zero HM.out
          subst hnil
          have HF := hide (show rE = sr ∧ rO = [] from ⟨by rw [HE2.out, if_neg hnl, if_neg (fun h => h.elim (fun h => absurd h (Nat.lt_irrefl _)) hsn)], by rw [HO2.out, if_neg hnl, if_neg (fun h => h.elim (fun h => absurd h (Nat.lt_irrefl _)) hsn)]⟩)
          clear hnl hsn
          go_wp2_with fail
          go_quiet (fail)
          go_wp2_with fail
          go_ret2
          obtain ⟨rfl, rfl⟩ := HF.out
          first | exact ⟨none, 0, rfl, Ow.nil_, HDD.out.drewN _, grown_far hg (grown_of_below (row := none) (below_drewN (Below.refl _ _))) (fun r h => by cases h)⟩ | exact ⟨none, ⟨0, rfl⟩, Ow.nil_, HDD.out.drewN _, grown_far hg (grown_of_below (row := none) (below_drewN (Below.refl _ _))) (fun r h => by cases h)⟩
        · have HF := hide (show rE = 5 ∧ rO = out from ⟨by rw [HE2.out, if_neg hnl, if_pos (.inl (by omega))], by rw [HO2.out, if_neg hnl, if_pos (.inl (by omega))]⟩)
          have i1 : (0 : Int) < (m : Int) := by omega
          clear hpos hnl
          go_wp2_with fail
          go_ret2
          obtain ⟨rfl, rfl⟩ := HF.out
          rw [HM.out]
          first | exact ⟨A, c, rfl, r0, HDD.out, hg⟩ | exact ⟨A, ⟨c, rfl⟩, r0, HDD.out, hg⟩
    · have hno : ¬ ((out.length : Int) < n ∧ S'.er = 0 ∧ er = 0) := fun h => h1 (by omega)
      have hRR := hrun
      rw [runD_stop hno] at hRR
      have r0 := ho
      have HE2 := hide (show rE = if n ≤ m then 0 else if 0 < m ∨ sr = 0 then 5 else sr by rw [HE.out, hRR, ← hm', ← hsr])
      have HO2 := hide (show rO = if n ≤ m then out else if 0 < m ∨ sr = 0 then out else [] by rw [HO.out, hRR, ← hm', ← hsr])
      have HDD := hide (show IsDec wr d base own R.2.2 by rw [hRR]; exact hd')
      have HM := hide hm'
      clear hRR hrun hno hf hm' hsr hd' hlen hok
      have hnl : n ≤ (m : Int) := by omega
      have HF := hide (show rE = 0 ∧ rO = out from ⟨by rw [HE2.out, if_pos hnl], by rw [HO2.out, if_pos hnl]⟩)
      clear h1
      go_wp2_with fail
      go_ret2
      obtain ⟨rfl, rfl⟩ := HF.out
      rw [HM.out]
      first | exact ⟨A, c, rfl, r0, HDD.out, hg⟩ | exact ⟨A, ⟨c, rfl⟩, r0, HDD.out, hg⟩
end Go.Proofs.YtdpcncpfbaigeaaDoor
