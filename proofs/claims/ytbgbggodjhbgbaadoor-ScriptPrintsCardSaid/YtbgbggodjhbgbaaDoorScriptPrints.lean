/- concertinalaw27.ScriptPrints: the walk. -/
import Derived.Test.YtbgbggodjhbgbaaDoorScrFl
import Derived.Test.YtbgbggodjhbgbaaDoorScrLight
import Derived.Test.YtbgbggodjhbgbaaDoorScrRBel
import Derived.Test.YtbgbggodjhbgbaaDoorScrRefP
import Derived.Test.YtbgbggodjhbgbaaDoorScrSame
import Derived.Test.YtbgbggodjhbgbaaDoorScrGlo
import Derived.Test.YtbgbggodjhbgbaaDoorLaid7
namespace Go.Proofs.YtbgbggodjhbgbaaDoor.ScriptPrintsP
open Go.RowKit
set_option linter.unusedVariables false
set_option linter.unusedSimpArgs false

theorem same_of {C D : CfgA} {S T : ActA} {F : Scr.Fl} {w : World} {B : Nat} (hC : C.In w B) (hD : D.In w B) (hS : S.In w B) (hT : T.In w B) (hB : B ≤ w.heap.size) (hn : C.nR ≤ 100000 ∧ C.nT ≤ 100000 ∧ S.n ≤ 100000) (ht : totA S.al ≤ 2000000) (M : Match C S F) (M' : Match D T F) :
    Calls Tryd.prog 12 #[C.val, D.val, S.val, T.val] w fun e w' => e = .returned (.bool true) ∧ Below w.heap.size w w' := by
  have r1 := hC.nR
  have r2 := hD.nR
  have r3 := hC.nT
  have r4 := hD.nT
  have r5 := hS.nA
  have r6 := hT.nA
  obtain ⟨AR, nR, cR, AT, nT, cT, a, b, c, d, e, rs, ts⟩ := C
  obtain ⟨AR', nR', cR', AT', nT', cT', a', b', c', d', e', rs', ts'⟩ := D
  obtain ⟨A, n, cA, al, ps⟩ := S
  obtain ⟨A', n', cA', al', ps'⟩ := T
  obtain ⟨m1, m2, m3, m4, m5, m6, m7, m8⟩ := M
  obtain ⟨p1, p2, p3, p4, p5, p6, p7, p8⟩ := M'
  simp only at m1 m2 m3 m4 m5 m6 m7 m8 p1 p2 p3 p4 p5 p6 p7 p8 r1 r2 r3 r4 r5 r6
  obtain rfl : a' = a := p1.trans m1.symm
  obtain rfl : b' = b := p2.trans m2.symm
  obtain rfl : c' = c := p3.trans m3.symm
  obtain rfl : d' = d := p4.trans m4.symm
  obtain rfl : e' = e := p5.trans m5.symm
  obtain rfl : rs' = rs := p6.trans m6.symm
  obtain rfl : ts' = ts := p7.trans m7.symm
  obtain rfl : al' = al := p8.trans m8.symm
  obtain rfl : nR' = nR := r2.symm.trans r1
  obtain rfl : nT' = nT := r4.symm.trans r3
  obtain rfl : n' = n := r6.symm.trans r5
  exact scrsame_any _ _ _ _ _ _ _ _ _ _ _ _ _ _ _ _ _ _ _ _ _ _ _ _ _ w B hC hD hS hT hB hn ht
set_option maxRecDepth 100000 in
set_option maxHeartbeats 3200000 in
theorem walk (C : CfgA) (S : ActA) (w : World) (hC : C.In w w.heap.size) (hS : S.In w w.heap.size) (hb : LightBounds C S) (hi : I64 C S) (hG : ∀ W, Below w.heap.size w W → Glo W) :
    Calls Tryd.prog 3 #[C.val, S.val] w fun e w' => e = .returned (.bool true) ∧ Below w.heap.size w w' := by
  obtain ⟨g, hg⟩ : ∃ g, w.heap.size = g := ⟨_, rfl⟩
  rw [hg] at hC hS hG
  have t0 : Below g w (w.alloc (.cells #[.slice C.AR C.nR C.cR, .slice C.AT C.nT C.cT, .int .i64 C.a, .int .i64 C.b, .int .i64 C.c, .int .i64 C.d, .int .i64 C.e] 25)) := (Below.refl _ _).alloc (Nat.le_of_eq hg.symm) _
  have bx := Box.new w #[.slice C.AR C.nR C.cR, .slice C.AT C.nT C.cT, .int .i64 C.a, .int .i64 C.b, .int .i64 C.c, .int .i64 C.d, .int .i64 C.e] 25
  rw [hg] at bx
  have sz : ∀ {W}, Below g w W → g ≤ W.heap.size := fun b => hg ▸ b.size
  have QA := fun W (b : Below g w W) => scrans_any W (fun W' b' => hG W' (b.trans (b'.mono (sz b))))
  have QL := fun W (b : Below g w W) => scrlight_any C S W g (hC.below b) (hS.below b) (sz b) hb
  have HQA := hide QA
  have HQL : Hid (∀ W (b : Below g w W), Calls Tryd.prog 7 #[C.val, S.val] W fun e w' => ∃ lb, e = .returned (.bool lb) ∧ Below W.heap.size W w' ∧ (lb = true → totR C.rs + totT C.ts + totA S.al + 20 * (C.nR + C.nT + S.n) < 20000)) := hide QL
  have QB : Hid (∀ W (b : Below g w W) (h : totR C.rs + totT C.ts + totA S.al + 20 * (C.nR + C.nT + S.n) < 20000), Calls Tryd.prog 9 #[C.val, S.val] W fun e w' => e = .returned (.bool (belowB C S)) ∧ Below W.heap.size W w') :=
    hide fun W b h => scrrbelow_any C S W g (hC.below b) (hS.below b) (sz b) ⟨by omega, by omega⟩
  have QN : Hid (∀ W (b : Below g w W) (h : totR C.rs + totT C.ts + totA S.al + 20 * (C.nR + C.nT + S.n) < 20000) (hn : belowB C S = true), Calls Tryd.prog 8 #[C.val, S.val] W fun e w' => e = .returned (.tuple #[.string ⟨#[]⟩, .int .i64 2]) ∧ Below W.heap.size W w') :=
    hide fun W b h hn => scrprint_neg C S W g (hC.below b) (hS.below b) (sz b) ⟨by omega, by omega⟩ hn
  obtain ⟨tb, htb⟩ : ∃ tb : ByteArray, tb = ⟨(Scr.linesT (flOf C S).lines).toArray⟩ := ⟨_, rfl⟩
  have QP : Hid (∀ W (b : Below g w W) (h : totR C.rs + totT C.ts + totA S.al + 20 * (C.nR + C.nT + S.n) < 20000) (hn : belowB C S = false), Calls Tryd.prog 8 #[C.val, S.val] W fun e w' => e = .returned (.tuple #[.string tb, .int .i64 0]) ∧ Below W.heap.size W w') :=
    hide fun W b h hn => htb ▸ scrprint_any C S (flOf C S) W g (hC.below b) (hS.below b) (sz b) ⟨by omega, by omega, by omega⟩ (by omega) (match_flOf hn) (fit_flOf hi) (by have := flOf_len hC hS hn hi h; omega) (fun W' b' => hG W' (b.trans (b'.mono (sz b))))
  have QR : Hid (∀ W (b : Below g w W) (h : totR C.rs + totT C.ts + totA S.al + 20 * (C.nR + C.nT + S.n) < 20000) (hn : belowB C S = false), Calls Tryd.prog 11 #[C.val, S.val] W fun e w' => e = .returned (.string tb) ∧ Below W.heap.size W w') :=
    hide fun W b h hn => htb ▸ scrrefp_any C S (flOf C S) W g (hC.below b) (hS.below b) (sz b) ⟨by omega, by omega, by omega⟩ (by omega) (match_flOf hn) (fit_flOf hi) (by have := flOf_len hC hS hn hi h; omega)
  have QS : Hid (∀ W (b : Below g w W) (h : totR C.rs + totT C.ts + totA S.al + 20 * (C.nR + C.nT + S.n) < 20000) (hn : belowB C S = false), Calls Tryd.prog 10 #[.string tb] W fun e w' => Below W.heap.size W w' ∧ ∃ (D : CfgA) (T : ActA), e = .returned (.tuple #[D.val, T.val, .int .i64 0, .int .i64 0]) ∧ D.In w' w'.heap.size ∧ T.In w' w'.heap.size ∧ Match D T (flOf C S)) :=
    hide fun W b h hn => by
      have hlen := flOf_len hC hS hn hi h
      have hT : tb.data.toList = Scr.linesT (flOf C S).lines := by rw [htb]
      refine (scrparse_any tb W (by rw [← Array.length_toList] at *; show tb.data.size ≤ _; rw [← Array.length_toList, hT]; omega) (fun W' b' => hG W' (b.trans (b'.mono (sz b))))).mono ?_
      rintro e w' ⟨bel, hp⟩
      refine ⟨bel, ?_⟩
      have hright := Scr.parse_right (flOf C S).lines (fit_flOf hi) 0 1 [] (Scr.ord_lines _)
      rw [hT, hright] at hp
      rcases hp with ⟨Ls, vR, vT, vA, ps, f, hp, -, -, rfl, hR⟩ | ⟨m, hp, -⟩
      · obtain rfl : (flOf C S).lines = Ls := by simpa using hp
        rw [Scr.fileOf_lines] at hR ⊢
        obtain ⟨D, T, hD, hT2, hDv, hTv, M, -, -, -⟩ := match_of_rows hR
        exact ⟨D, T, by rw [hDv, hTv], hD, hT2, M⟩
      · cases hp
  have QM : Hid (∀ W (b : Below g w W) (h : totR C.rs + totT C.ts + totA S.al + 20 * (C.nR + C.nT + S.n) < 20000) (hn : belowB C S = false) (D : CfgA) (T : ActA) (hD : D.In W W.heap.size) (hT : T.In W W.heap.size) (M : Match D T (flOf C S)), Calls Tryd.prog 12 #[C.val, D.val, S.val, T.val] W fun e w' => e = .returned (.bool true) ∧ Below W.heap.size W w') :=
    hide fun W b h hn D T hD hT M => same_of ⟨rd_rise (hC.below b).1 (sz b), rd_rise (hC.below b).2 (sz b)⟩ hD ⟨rd_rise (hS.below b).1 (sz b), hS.2.1, fun i h1 h2 => rd_rise ((hS.below b).2.2 i h1 h2) (sz b)⟩ hT (Nat.le_refl _) ⟨by omega, by omega, by omega⟩ (by omega) (match_flOf hn) M
  obtain ⟨tot, htot⟩ : ∃ t, t = totR C.rs + totT C.ts + totA S.al + 20 * (C.nR + C.nT + S.n) := ⟨_, rfl⟩
  obtain ⟨sv, hsv⟩ : ∃ v, v = S.val := ⟨_, rfl⟩
  obtain ⟨nb, hnb⟩ : ∃ nb, nb = belowB C S := ⟨_, rfl⟩
  obtain ⟨FF, hFF⟩ : ∃ F, F = flOf C S := ⟨_, rfl⟩
  rw [← htot] at QB QN QP QR QS QM HQL
  rw [← hnb] at QB QN QP QR QS QM
  rw [← hsv] at QB QN QP QR QM HQL ⊢
  rw [← hFF] at QS QM
  obtain ⟨AR, nR, cR, AT, nT, cT, a, b, c, d, e, rs, ts⟩ := C
  simp only [CfgA.val] at QB QN QP QR QM HQL bx t0 ⊢
  clear hC hS hb hi hG QA QL htb htot hsv hnb hFF
  have SZ : Hid (∀ W, Below g w W → g ≤ W.heap.size) := hide fun W b => sz b
  clear sz
  go_enter Tryd.func3, Tryd.ntmps3
  go_upto_region 1 with (fail)
  generalize w.alloc _ = w1 at bx t0 ⊢
  obtain ⟨k0, -⟩ := bx.2 0 _ rfl
  obtain ⟨k1, -⟩ := bx.2 1 _ rfl
  obtain ⟨k2, -⟩ := bx.2 2 _ rfl
  obtain ⟨k3, -⟩ := bx.2 3 _ rfl
  obtain ⟨k4, -⟩ := bx.2 4 _ rfl
  obtain ⟨k5, -⟩ := bx.2 5 _ rfl
  obtain ⟨k6, -⟩ := bx.2 6 _ rfl
  go_wp2_with fail
  refine (HQA.out w1 t0).mono ?_
  rintro e' w2 ⟨rfl, b1⟩
  have bx2 := bx.below b1
  have t2 := t0.trans (b1.mono (SZ.out _ t0))
  clear k0 k1 k2 k3 k4 k5 k6
  obtain ⟨k0, -⟩ := bx2.2 0 _ rfl
  obtain ⟨k1, -⟩ := bx2.2 1 _ rfl
  obtain ⟨k2, -⟩ := bx2.2 2 _ rfl
  obtain ⟨k3, -⟩ := bx2.2 3 _ rfl
  obtain ⟨k4, -⟩ := bx2.2 4 _ rfl
  obtain ⟨k5, -⟩ := bx2.2 5 _ rfl
  obtain ⟨k6, -⟩ := bx2.2 6 _ rfl
  go_wp2_with fail
  refine (HQL.out w2 t2).mono ?_
  rintro e' w3 ⟨lb, rfl, b2, hl⟩
  have bx3 := bx2.below b2
  have t3 := t2.trans (b2.mono (SZ.out _ t2))
  have HL := hide hl
  clear k0 k1 k2 k3 k4 k5 k6 hl
  rcases lb with _ | _
  · go_wp2_with fail
    refine (HQA.out w3 t3).mono ?_
    rintro e' w4 ⟨rfl, b3⟩
    go_wp2_with fail
    go_ret
    rw [hg]
    exact ⟨rfl, t3.trans (b3.mono (SZ.out _ t3))⟩
  have hl := HL.out rfl
  have HLT := hide hl
  clear hl HL
  obtain ⟨k0, -⟩ := bx3.2 0 _ rfl
  obtain ⟨k1, -⟩ := bx3.2 1 _ rfl
  obtain ⟨k2, -⟩ := bx3.2 2 _ rfl
  obtain ⟨k3, -⟩ := bx3.2 3 _ rfl
  obtain ⟨k4, -⟩ := bx3.2 4 _ rfl
  obtain ⟨k5, -⟩ := bx3.2 5 _ rfl
  obtain ⟨k6, -⟩ := bx3.2 6 _ rfl
  rcases nb with _ | _
  · go_wp2_with fail
    refine (QP.out w3 t3 HLT.out trivial).mono ?_
    rintro e' w4 ⟨rfl, b3⟩
    have bx4 := bx3.below b3
    have t4 := t3.trans (b3.mono (SZ.out _ t3))
    clear k0 k1 k2 k3 k4 k5 k6
    obtain ⟨k0, -⟩ := bx4.2 0 _ rfl
    obtain ⟨k1, -⟩ := bx4.2 1 _ rfl
    obtain ⟨k2, -⟩ := bx4.2 2 _ rfl
    obtain ⟨k3, -⟩ := bx4.2 3 _ rfl
    obtain ⟨k4, -⟩ := bx4.2 4 _ rfl
    obtain ⟨k5, -⟩ := bx4.2 5 _ rfl
    obtain ⟨k6, -⟩ := bx4.2 6 _ rfl
    go_wp2_with fail
    refine (QB.out w4 t4 HLT.out).mono ?_
    rintro e' w5 ⟨rfl, b4⟩
    have bx5 := bx4.below b4
    have t5 := t4.trans (b4.mono (SZ.out _ t4))
    clear k0 k1 k2 k3 k4 k5 k6
    obtain ⟨k0, -⟩ := bx5.2 0 _ rfl
    obtain ⟨k1, -⟩ := bx5.2 1 _ rfl
    obtain ⟨k2, -⟩ := bx5.2 2 _ rfl
    obtain ⟨k3, -⟩ := bx5.2 3 _ rfl
    obtain ⟨k4, -⟩ := bx5.2 4 _ rfl
    obtain ⟨k5, -⟩ := bx5.2 5 _ rfl
    obtain ⟨k6, -⟩ := bx5.2 6 _ rfl
    go_wp2_with fail
    refine (QS.out w5 t5 HLT.out trivial).mono ?_
    rintro e' w6 ⟨b5, D, T, rfl, hD, hT, M⟩
    have bx6 := bx5.below b5
    have t6 := t5.trans (b5.mono (SZ.out _ t5))
    clear k0 k1 k2 k3 k4 k5 k6
    obtain ⟨k0, -⟩ := bx6.2 0 _ rfl
    obtain ⟨k1, -⟩ := bx6.2 1 _ rfl
    obtain ⟨k2, -⟩ := bx6.2 2 _ rfl
    obtain ⟨k3, -⟩ := bx6.2 3 _ rfl
    obtain ⟨k4, -⟩ := bx6.2 4 _ rfl
    obtain ⟨k5, -⟩ := bx6.2 5 _ rfl
    obtain ⟨k6, -⟩ := bx6.2 6 _ rfl
    obtain ⟨g6, hg6⟩ : ∃ g6, w6.heap.size = g6 := ⟨_, rfl⟩
    have HDT : Hid (∀ W, Below g6 w6 W → D.In W W.heap.size ∧ T.In W W.heap.size) := hide fun W b => by
      have hz : w6.heap.size ≤ W.heap.size := b.size
      subst hg6
      exact ⟨⟨rd_rise (hD.below b).1 hz, rd_rise (hD.below b).2 hz⟩, ⟨rd_rise (hT.below b).1 hz, hT.2.1, fun i h1 h2 => rd_rise ((hT.below b).2.2 i h1 h2) hz⟩⟩
    have QMM : Hid (∀ W (b : Below g w W) (b' : Below g6 w6 W), _) := hide fun W b b' => QM.out W b HLT.out trivial D T (HDT.out W b').1 (HDT.out W b').2 M
    clear QM HDT hD hT M
    obtain ⟨DR, dR, eR, DT, dT, eT, da, db, dc, dd, de, drs, dts⟩ := D
    obtain ⟨tv, htv⟩ : ∃ v, v = T.val := ⟨_, rfl⟩
    simp only [CfgA.val] at QMM ⊢
    rw [← htv] at QMM ⊢
    clear htv
    have hgg6 : g ≤ g6 := hg6 ▸ SZ.out _ t6
    have by0 := Box.new w6 #[.slice DR dR eR, .slice DT dT eT, .int .i64 da, .int .i64 db, .int .i64 dc, .int .i64 dd, .int .i64 de] 25
    have b6 : Below g6 w6 (w6.alloc (.cells #[.slice DR dR eR, .slice DT dT eT, .int .i64 da, .int .i64 db, .int .i64 dc, .int .i64 dd, .int .i64 de] 25)) := (Below.refl _ _).alloc (Nat.le_of_eq hg6.symm) _
    have hgl : g < g6 := hg6 ▸ bx6.1
    rw [hg6] at by0
    go_upto_region 7 with (fail)
    generalize w6.alloc _ = w7 at by0 b6 ⊢
    have bx7 := bx6.below3 b6 hgl
    have t7 := t6.trans (b6.mono hgg6)
    clear k0 k1 k2 k3 k4 k5 k6
    obtain ⟨k0, -⟩ := bx7.2 0 _ rfl
    obtain ⟨k1, -⟩ := bx7.2 1 _ rfl
    obtain ⟨k2, -⟩ := bx7.2 2 _ rfl
    obtain ⟨k3, -⟩ := bx7.2 3 _ rfl
    obtain ⟨k4, -⟩ := bx7.2 4 _ rfl
    obtain ⟨k5, -⟩ := bx7.2 5 _ rfl
    obtain ⟨k6, -⟩ := bx7.2 6 _ rfl
    obtain ⟨m0, -⟩ := by0.2 0 _ rfl
    obtain ⟨m1, -⟩ := by0.2 1 _ rfl
    obtain ⟨m2, -⟩ := by0.2 2 _ rfl
    obtain ⟨m3, -⟩ := by0.2 3 _ rfl
    obtain ⟨m4, -⟩ := by0.2 4 _ rfl
    obtain ⟨m5, -⟩ := by0.2 5 _ rfl
    obtain ⟨m6, -⟩ := by0.2 6 _ rfl
    have hbq := mk_beq tb
    go_wp2_with fail
    refine (QR.out w7 t7 HLT.out trivial).mono ?_
    rintro e' w8 ⟨rfl, b7⟩
    have bx8 := bx7.below b7
    have by8 := by0.below b7
    have t8 := t7.trans (b7.mono (SZ.out _ t7))
    have b68 := b6.trans (b7.mono (Nat.le_of_lt by0.1))
    clear k0 k1 k2 k3 k4 k5 k6 m0 m1 m2 m3 m4 m5 m6
    obtain ⟨k0, -⟩ := bx8.2 0 _ rfl
    obtain ⟨k1, -⟩ := bx8.2 1 _ rfl
    obtain ⟨k2, -⟩ := bx8.2 2 _ rfl
    obtain ⟨k3, -⟩ := bx8.2 3 _ rfl
    obtain ⟨k4, -⟩ := bx8.2 4 _ rfl
    obtain ⟨k5, -⟩ := bx8.2 5 _ rfl
    obtain ⟨k6, -⟩ := bx8.2 6 _ rfl
    obtain ⟨m0, -⟩ := by8.2 0 _ rfl
    obtain ⟨m1, -⟩ := by8.2 1 _ rfl
    obtain ⟨m2, -⟩ := by8.2 2 _ rfl
    obtain ⟨m3, -⟩ := by8.2 3 _ rfl
    obtain ⟨m4, -⟩ := by8.2 4 _ rfl
    obtain ⟨m5, -⟩ := by8.2 5 _ rfl
    obtain ⟨m6, -⟩ := by8.2 6 _ rfl
    go_wp2_with fail
    refine (QMM.out w8 t8 b68).mono ?_
    rintro e' w9 ⟨rfl, b8⟩
    go_wp2_with fail
    go_ret
    rw [hg]
    exact ⟨rfl, t8.trans (b8.mono (SZ.out _ t8))⟩
  · go_wp2_with fail
    refine (QN.out w3 t3 HLT.out trivial).mono ?_
    rintro e' w4 ⟨rfl, b3⟩
    have bx4 := bx3.below b3
    have t4 := t3.trans (b3.mono (SZ.out _ t3))
    clear k0 k1 k2 k3 k4 k5 k6
    obtain ⟨k0, -⟩ := bx4.2 0 _ rfl
    obtain ⟨k1, -⟩ := bx4.2 1 _ rfl
    obtain ⟨k2, -⟩ := bx4.2 2 _ rfl
    obtain ⟨k3, -⟩ := bx4.2 3 _ rfl
    obtain ⟨k4, -⟩ := bx4.2 4 _ rfl
    obtain ⟨k5, -⟩ := bx4.2 5 _ rfl
    obtain ⟨k6, -⟩ := bx4.2 6 _ rfl
    go_wp2_with fail
    refine (QB.out w4 t4 HLT.out).mono ?_
    rintro e' w5 ⟨rfl, b4⟩
    have eb : (((⟨#[]⟩ : ByteArray).toList == (⟨#[]⟩ : ByteArray).toList)) = true := by simp
    go_wp2_with fail
    go_ret
    rw [hg]
    exact ⟨rfl, t4.trans (b4.mono (SZ.out _ t4))⟩
/-- The settled world that the card begins from. -/
noncomputable def laidWorld (os : Os) : World := laidWorld7 os
end Go.Proofs.YtbgbggodjhbgbaaDoor.ScriptPrintsP
