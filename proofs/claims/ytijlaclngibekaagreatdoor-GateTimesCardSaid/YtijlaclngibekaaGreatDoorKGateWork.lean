/- gate.Gate.work, Do (open), Idle, Open on a first connection. -/
import Derived.Test.YtijlaclngibekaaGreatDoorKGateOpen
import Derived.Deep.QuietTactic
import Derived.Deep.LoopGhost
namespace Go.Proofs.YtijlaclngibekaaGreatDoor
open Go.RowKit
set_option linter.unusedVariables false
set_option linter.unusedSimpArgs false

/-- A gateway in block p with one connection, of number n. -/
structure Lay (w : World) (p b : Nat) (n : Int) (c s r1 r2 : Nat) : Prop where
  gate : IsGate w p b
  map : MapIs w b #[⟨.int .i64 n, .pointer (some ⟨c, 0, none⟩), 0⟩] 1
  conn : IsConn w c s r1 r2
  np : r1 ≠ p
  nb : r1 ≠ b
  nc : r1 ≠ c
  n2 : r1 ≠ r2
theorem IsGate.grown {w w' : World} {p b r : Nat} (h : IsGate w p b) (hg : w.grownBy w' (some r)) (hr : r ≠ p) : IsGate w' p b := let ⟨A, B, h⟩ := h; ⟨A, B, h.grown_ hg (by simpa using hr)⟩
theorem Lay.drewN {w : World} {p b c s r1 r2 : Nat} {n : Int} (h : Lay w p b n c s r1 r2) (k : Nat) : Lay (w.drewN k) p b n c s r1 r2 :=
  ⟨h.gate.below (below_drewN (Below.refl _ _)), h.map.below (below_drewN (Below.refl _ _)), h.conn.below (below_drewN (Below.refl _ _)), h.np, h.nb, h.nc, h.n2⟩
theorem Lay.side {w w' : World} {p b c s r1 r2 : Nat} {n : Int} (h : Lay w p b n c s r1 r2) (hg : w.grownBy w' (some r1)) (hs : IsSide w' s r1 16384 false none []) : Lay w' p b n c s r1 r2 :=
  ⟨h.gate.grown hg h.np, h.map.grown hg (by simpa using fun e => h.nb e.symm), ⟨h.conn.1.grown_ hg (by simpa using h.nc), hs, h.conn.2.2.grown hg (by simpa using h.n2) (.inr (by simp))⟩, h.np, h.nb, h.nc, h.n2⟩
set_option maxRecDepth 100000 in
set_option maxHeartbeats 1600000 in
theorem gateroom_any (p b c s r1 r2 : Nat) (n : Int) (w : World) (h : Lay w p b n c s r1 r2) :
    Calls Tryz.prog 80 #[.pointer (some ⟨p, 0, none⟩), .pointer (some ⟨c, 0, none⟩)] w fun e w' => e = .returned (.int .i64 16384) ∧ ∃ k, w' = w.drewN k := by
  obtain ⟨A, B, bx⟩ := h.gate
  obtain ⟨bc, -, hr⟩ := h.conn
  obtain ⟨k5, -⟩ := bx.2 5 _ rfl
  obtain ⟨c1, -⟩ := bc.2 1 _ rfl
  have q := fun k => lenB r2 0 16896 none [] (w.drewN k) (hr.drewN k)
  have hw : IntKind.i64.wrap 16384 = 16384 := by decide
  clear h
  go_enter Tryz.func80, Tryz.ntmps80
  go_upto_region 1 with (fail)
  go_quiet ((go_at_call 26; exact Calls.quiet_of_same ((q _).mono fun _ _ h => ⟨h.1, h.2.symm⟩)))
  go_wp2_with fail
  go_ret
  exact ⟨rfl, _, rfl⟩
set_option maxRecDepth 100000 in
set_option maxHeartbeats 1600000 in
theorem gatebegin_any (p b c s r1 r2 : Nat) (n mx : Int) (w : World) (h : Lay w p b n c s r1 r2) (hm : w.cell? ⟨1, 0, none⟩ = some (.int .i64 mx)) :
    Calls Tryz.prog 54 #[.pointer (some ⟨p, 0, none⟩), .pointer (some ⟨c, 0, none⟩)] w fun e w' => e = .returned (.bool false) ∧ Lay w' p b n c s r1 r2 ∧ w.grownBy w' (some r1) := by
  have q := gateroom_any p b c s r1 r2 n w h
  have q2 := fun k => linkhead_any s r1 16384 false none [] mx (w.drewN k) (h.drewN k).conn.2.1 hm
  have h0 : hdE [] false = 5 := by decide
  have h1 : hdO [] = [] := by decide
  rw [h0, h1] at q2
  have bc : ∀ k, (w.drewN k).cell? ⟨c, 0, none⟩ = some (.pointer (some ⟨s, 0, none⟩)) := fun k => (h.conn.1.2 0 _ rfl).1
  go_enter Tryz.func54, Tryz.ntmps54
  go_wp2_with fail
  refine q.mono ?_
  rintro e w1 ⟨rfl, k, rfl⟩
  have c0 := bc k
  have q3 := q2 k
  have hL := h.drewN k
  have hgr : ∀ W', (w.drewN k).grownBy W' (some r1) → w.grownBy W' (some r1) := fun _ h => ⟨h.os, h.tape, h.output, h.size, h.block⟩
  generalize w.drewN k = w1 at c0 q3 hL hgr ⊢
  go_wp2_with fail
  refine q3.mono ?_
  rintro e w2 ⟨A, cc, rfl, hrd, hs, hg⟩
  have hL2 := hL.side hg hs
  go_wp2_with fail
  go_ret
  exact ⟨rfl, hL2, hgr _ hg⟩
set_option maxRecDepth 100000 in
set_option maxHeartbeats 1600000 in
theorem gatestep_any (p b c s r1 r2 : Nat) (n mx : Int) (w : World) (h : Lay w p b n c s r1 r2) (hm : w.cell? ⟨1, 0, none⟩ = some (.int .i64 mx)) :
    Calls Tryz.prog 34 #[.pointer (some ⟨p, 0, none⟩), .pointer (some ⟨c, 0, none⟩)] w fun e w' => e = .returned (.bool false) ∧ Lay w' p b n c s r1 r2 ∧ w.grownBy w' (some r1) := by
  have q := gatebegin_any p b c s r1 r2 n mx w h hm
  obtain ⟨c2, -⟩ := h.conn.1.2 2 _ rfl
  go_enter Tryz.func34, Tryz.ntmps34
  go_wp2_with fail
  refine q.mono ?_
  rintro e w1 ⟨rfl, hL, hg⟩
  go_wp2_with fail
  go_ret
  exact ⟨rfl, hL, hg⟩
set_option maxRecDepth 100000 in
set_option maxHeartbeats 3200000 in
theorem gatework_any (p b c s r1 r2 g : Nat) (n mx : Int) (w : World) (h : Lay w p b n c s r1 r2) (h0 : 0 ≤ n ∧ n < 64) (hr : g ≤ r1) (hgw : g ≤ w.heap.size) (hm : ∀ W, Below g w W → W.cell? ⟨1, 0, none⟩ = some (.int .i64 mx)) :
    Calls Tryz.prog 16 #[.pointer (some ⟨p, 0, none⟩)] w fun e w' => e = .returned (.tuple #[]) ∧ Lay w' p b n c s r1 r2 ∧ Below g w w' := by
  have wfi : ∀ z : Int, 0 ≤ z → z ≤ 64 → (Lit.int .i64 z).wf = true := fun z h1 h2 => by simp [Lit.wf, IntKind.min, IntKind.max, IntKind.signed, IntKind.bits]; omega
  have hwn := wfi n h0.1 (by omega)
  have HM := hide hm
  have WF := hide wfi
  clear hm wfi
  go_enter Tryz.func16, Tryz.ntmps16
  go_wp2_with fail
  go_loopw [4] (fun i W => ∃ k : Nat, k ≤ 64 ∧ i = .int .i64 k ∧ Lay W p b n c s r1 r2 ∧ Below g w W) (fun i _ => 64 - (intOf i).toNat)
  case atStart => exact ⟨0, by omega, rfl, h, Below.refl _ _⟩
  case round =>
    obtain ⟨k, hk, rfl, hL, hb⟩ := hrel
    by_cases hlt : k < 64
    · have hlt' : (k : Int) < 64 := by omega
      obtain ⟨A, B, bx⟩ := hL.gate
      obtain ⟨k7, -⟩ := bx.2 7 _ rfl
      have hl := hL.map.one hwn (k : Int) (WF.out k (by omega) (by omega))
      by_cases hkn : (k : Int) = n
      · rw [if_pos hkn] at hl
        obtain ⟨c3, -⟩ := hL.conn.1.2 3 _ rfl
        have q := gatestep_any p b c s r1 r2 n mx wr hL (HM.out wr hb)
        have HKN := hide hkn
        clear hkn
        go_wp2_with fail
        obtain ⟨wo, hwo⟩ : ∃ wo, wo = wr := ⟨_, rfl⟩
        subst hwo
        go_loopw [] (fun W => W = wo) (fun _ => 0)
        case atStart => exact rfl
        case round =>
          obtain rfl := hrel
          go_wp2_with fail
          refine q.mono ?_
          rintro e w2 ⟨rfl, hL2, hg2⟩
          have hb2 : Below g w w2 := hb.grown hg2 (Nat.le_trans hgw hb.size) (fun k e => by cases e; exact hr)
          go_wp2_with fail
          exact ⟨⟨k + 1, by omega, by go_num, hL2, hb2⟩, by simp [intOf]; omega⟩
      · rw [if_neg hkn] at hl
        clear hkn
        go_wp2_with fail
        go_roundw
        case rel => exact ⟨k + 1, by omega, by go_num, hL, hb⟩
        case measure => simp [intOf]; omega
    · have hlt' : ¬ (k : Int) < 64 := by omega
      go_wp2_with fail
      go_end0
      exact ⟨rfl, hL, hb⟩
def DoPost (w w' : World) (p b : Nat) (n : Int) (g : Nat) : Prop := ∃ c s r1 r2, Lay w' p b n c s r1 r2 ∧ Below g w w'
set_option maxRecDepth 100000 in
set_option maxHeartbeats 3200000 in
theorem gatedo_open (p b g : Nat) (n mx : Int) (w : World) (hg : IsGate w p b) (hmap : MapIs w b #[] 0) (hne : p ≠ b) (hgb : g ≤ b) (h0 : 0 ≤ n ∧ n < 64) (hgw : g ≤ w.heap.size) (hm : ∀ W, Below g w W → W.cell? ⟨1, 0, none⟩ = some (.int .i64 mx)) :
    Calls Tryz.prog 8 #[.pointer (some ⟨p, 0, none⟩), .agg #[.int .i64 1, .int .i64 n, .int .i64 0, .slice none 0 0]] w fun e w' => e = .returned (.tuple #[.int .i64 0, .slice none 0 0, .int .i64 0]) ∧ DoPost w w' p b n g := by
  obtain ⟨ga, hga⟩ : ∃ ga, w.heap.size = ga := ⟨_, rfl⟩
  have hbl := hmap.lt
  have hpl : p < w.heap.size := by obtain ⟨A, B, bx⟩ := hg; exact bx.1
  have ba := Box.new w #[.int .i64 1, .int .i64 n, .int .i64 0, .slice none 0 0] 39
  have b0 : Below w.heap.size w (w.alloc (.cells #[.int .i64 1, .int .i64 n, .int .i64 0, .slice none 0 0] 39)) := (Below.refl _ _).alloc (Nat.le_refl _) _
  rw [hga] at ba
  have hg1 := hg.below b0
  have hm1 := hmap.below b0
  have t1 : Below g w _ := b0.mono hgw
  have HM := hide hm
  clear hm hg hmap
  go_enter Tryz.func8, Tryz.ntmps8
  go_upto_region 1 with (fail)
  generalize w.alloc _ = w1 at ba b0 hg1 hm1 t1 ⊢
  obtain ⟨a0, -⟩ := ba.2 0 _ rfl
  obtain ⟨a1, -⟩ := ba.2 1 _ rfl
  obtain ⟨a2, -⟩ := ba.2 2 _ rfl
  obtain ⟨a3, -⟩ := ba.2 3 _ rfl
  have q := gateopen_any p b n w1 h0 hg1 hm1 hne
  go_wp2_with fail
  refine q.mono ?_
  rintro e w2 ⟨rfl, c, s, r1, r2, m2, hc2, l1, l2, l3, l4, n1, n2, gr⟩
  have hs1 := b0.size
  have hL : Lay w2 p b n c s r1 r2 := ⟨hg1.grown gr (fun e => hne e.symm), m2, hc2, by omega, by omega, n1, n2⟩
  have t2 : Below g w w2 := t1.grown gr (by omega) (fun k e => by cases e; exact hgb)
  have q2 := gatework_any p b c s r1 r2 g n mx w2 hL h0 (by omega) (Nat.le_trans hgw t2.size) (fun W b => HM.out W (t2.trans b))
  clear a0 a1 a2 a3 q
  go_wp2_with fail
  refine q2.mono ?_
  rintro e w3 ⟨rfl, hL3, b3⟩
  have hend : DoPost w w3 p b n g := ⟨c, s, r1, r2, hL3, t2.trans b3⟩
  go_wp2_with fail
  go_ret3
  exact ⟨rfl, hend⟩
set_option maxRecDepth 100000 in
set_option maxHeartbeats 1600000 in
theorem gateget_any (p b c s r1 r2 : Nat) (n : Int) (w : World) (h : Lay w p b n c s r1 r2) (h0 : 0 ≤ n ∧ n < 64) :
    Calls Tryz.prog 17 #[.pointer (some ⟨p, 0, none⟩), .int .i64 n] w fun e w' => e = .returned (.pointer (some ⟨c, 0, none⟩)) ∧ w = w' := by
  have hwn : (Lit.int .i64 n).wf = true := by simp [Lit.wf, IntKind.min, IntKind.max, IntKind.signed, IntKind.bits]; omega
  have hl := h.map.one hwn n hwn
  rw [if_pos rfl] at hl
  obtain ⟨A, B, bx⟩ := h.gate
  obtain ⟨k7, -⟩ := bx.2 7 _ rfl
  go_enter Tryz.func17, Tryz.ntmps17
  go_wp2_with fail
  go_ret
  exact ⟨rfl, rfl⟩
set_option maxRecDepth 100000 in
set_option maxHeartbeats 1600000 in
theorem gateget_nil (n : Int) (w : World) :
    Calls Tryz.prog 17 #[.pointer none, .int .i64 n] w fun e w' => e = .returned (.pointer none) ∧ w = w' := by
  go_enter Tryz.func17, Tryz.ntmps17
  go_wp2_with fail
  go_ret
  exact ⟨rfl, rfl⟩
set_option maxRecDepth 100000 in
set_option maxHeartbeats 1600000 in
theorem gateidle_any (p b c s r1 r2 : Nat) (n : Int) (w : World) (h : Lay w p b n c s r1 r2) (h0 : 0 ≤ n ∧ n < 64) :
    Calls Tryz.prog 11 #[.pointer (some ⟨p, 0, none⟩), .int .i64 n] w fun e w' => e = .returned (.bool true) ∧ ∃ k, w' = w.drewN k := by
  have q := gateget_any p b c s r1 r2 n w h h0
  have q2 := linkheld_any s r1 16384 false none [] w h.conn.2.1
  have q3 := fun k => lenB r2 0 16896 none [] (w.drewN k) (h.conn.2.2.drewN k)
  obtain ⟨c2, -⟩ := h.conn.1.2 2 _ rfl
  obtain ⟨c0, -⟩ := h.conn.1.2 0 _ rfl
  obtain ⟨c1, -⟩ := h.conn.1.2 1 _ rfl
  have d1 : ∀ k, (w.drewN k).cell? ⟨c, 1, none⟩ = some (.pointer (some ⟨r2, 0, none⟩)) := fun k => c1
  go_enter Tryz.func11, Tryz.ntmps11
  go_wp2_with fail
  refine q.mono ?_
  rintro e w1 ⟨rfl, rfl⟩
  go_wp2_with fail
  refine q2.mono ?_
  rintro e w2 ⟨rfl, k, rfl⟩
  have e1 := d1 k
  have e3 := q3 k
  obtain ⟨w3, hw3⟩ : ∃ W, W = w.drewN k := ⟨_, rfl⟩
  rw [← hw3] at e1 e3 ⊢
  have HW := hide hw3
  clear hw3
  go_wp2_with fail
  refine e3.mono ?_
  rintro e w4 ⟨rfl, rfl⟩
  go_wp2_with fail
  go_ret
  exact ⟨rfl, k, HW.out⟩
set_option maxRecDepth 100000 in
set_option maxHeartbeats 1600000 in
theorem gateopened_any (p b c s r1 r2 : Nat) (n : Int) (w : World) (h : Lay w p b n c s r1 r2) (h0 : 0 ≤ n ∧ n < 64) :
    Calls Tryz.prog 9 #[.pointer (some ⟨p, 0, none⟩), .int .i64 n] w fun e w' => e = .returned (.bool true) ∧ w = w' := by
  have q := gateget_any p b c s r1 r2 n w h h0
  obtain ⟨c3, -⟩ := h.conn.1.2 3 _ rfl
  go_enter Tryz.func9, Tryz.ntmps9
  go_wp2_with fail
  refine q.mono ?_
  rintro e w1 ⟨rfl, rfl⟩
  go_wp2_with fail
  go_ret
  exact ⟨rfl, rfl⟩
set_option maxRecDepth 100000 in
set_option maxHeartbeats 1600000 in
theorem gateans_any (g : Nat) (mx : Int) (w : World) (hg : w.heap.size = g) (hm : ∀ W, Below g w W → W.cell? ⟨1, 0, none⟩ = some (.int .i64 mx)) :
    Calls Tryz.prog 4 #[] w fun e w' => e = .returned (.bool true) ∧ Below g w w' := by
  have HM := hide hm
  clear hm
  go_enter Tryz.func4, Tryz.ntmps4
  go_wp2_with fail
  refine (gatenew_one w).mono ?_
  rintro e w1 ⟨p, rfl, ⟨b, hG, hM, hp, hb, hpb⟩, b1⟩
  rw [hg] at hp hb b1
  have q := gatedo_open p b g 3 mx w1 hG hM hpb hb (by omega) (hg ▸ b1.size) (fun W b' => HM.out W (b1.trans b'))
  go_wp2_with fail
  refine q.mono ?_
  rintro e w2 ⟨rfl, c, s, r1, r2, hL, b2⟩
  have q2 := gateidle_any p b c s r1 r2 3 w2 hL (by omega)
  have q3 := fun k => gateopened_any p b c s r1 r2 3 (w2.drewN k) (hL.drewN k) (by omega)
  have t2 := b1.trans b2
  have t3 : ∀ k, Below g w (w2.drewN k) := fun k => below_drewN t2
  clear q
  go_wp2_with fail
  refine q2.mono ?_
  rintro e w3 ⟨rfl, k, rfl⟩
  have e3 := q3 k
  have t4 := t3 k
  generalize w2.drewN k = w3 at e3 t4 ⊢
  go_wp2_with fail
  refine e3.mono ?_
  rintro e w4 ⟨rfl, rfl⟩
  go_wp2_with fail
  go_ret
  exact ⟨rfl, t4⟩
end Go.Proofs.YtijlaclngibekaaGreatDoor
