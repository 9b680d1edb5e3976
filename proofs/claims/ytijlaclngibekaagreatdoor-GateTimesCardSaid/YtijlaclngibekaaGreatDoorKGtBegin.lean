/- gate.Gate.begin and step at the law's own request; work of the states. -/
import Derived.Test.YtijlaclngibekaaGreatDoorKGtReq
import Derived.Test.YtijlaclngibekaaGreatDoorKGtStepB
import Derived.Test.YtijlaclngibekaaGreatDoorKGtOwnG
namespace Go.Proofs.YtijlaclngibekaaGreatDoor
open Go.RowKit
set_option linter.unusedVariables false
set_option linter.unusedSimpArgs false

set_option maxRecDepth 100000 in
set_option maxHeartbeats 1600000 in
theorem gtbegin_27 (g0 p mb c s r1 r2 Bf : Nat) (T idle turn mx : Int) (w : World) (hG : GateC w g0 p mb c Bf T) (h : ConnA w p c s r1 r2 Bf b27 [] false idle turn) (ht : 0 ≤ turn ∧ turn ≤ 1000) (hm : ∀ W, Below (p + 1) w W → W.cell? ⟨1, 0, none⟩ = some (.int .i64 mx)) :
    Calls Tryz.prog 54 #[.pointer (some ⟨p, 0, none⟩), .pointer (some ⟨c, 0, none⟩)] w fun e w' => e = .returned (.bool true) ∧ (∃ x s3 r3 r4 b, ConnB w' p c s r1 r2 x s3 r3 r4 b Bf false idle (turn + 1)) ∧ Below (p + 1) w w' := by
  have hlt := hG.lt
  have hG0 := hG
  obtain ⟨⟨A, cR, v1, v2, v3, v4, bx, rd⟩, mp, o1, o2, o3, o4⟩ := hG
  obtain ⟨hx, ⟨d1, hs, hd1⟩, ⟨d2, hr, hd2⟩, ho⟩ := h
  obtain ⟨k5, -⟩ := bx.2 5 _ rfl
  obtain ⟨c0, -⟩ := hx.2 0 _ rfl
  obtain ⟨c1, -⟩ := hx.2 1 _ rfl
  have q := gtroom_any p c r2 0 Bf d2 [] w k5 c1 hr o4.2
  rw [show (Bf : Int) - ((0 : Nat) : Int) = (Bf : Int) by omega] at q
  have q2 := fun k => linkhead_any s r1 Bf false d1 b27 mx (w.drewN k) (hs.drewN k) (hm w (Below.refl _ _))
  simp only [hd27.1, hd27.2, show b27.length = 27 from rfl, show b27.drop 27 = [] from rfl] at q2
  have i1 : ¬ (Bf : Int) < 16384 := by omega
  clear bx rd mp c1 k5
  go_enter Tryz.func54, Tryz.ntmps54
  go_wp2_with fail
  refine q.mono ?_
  rintro e w1 ⟨rfl, k, rfl⟩
  have d0 : (w.drewN k).cell? ⟨c, 0, none⟩ = some (.pointer (some ⟨s, 0, none⟩)) := c0
  have q3 := q2 k
  have hst : Stay w (w.drewN k) [] := Stay.drewN k []
  generalize w.drewN k = w1 at d0 q3 hst ⊢
  clear q q2 c0
  go_wp2_with fail
  refine q3.mono ?_
  rintro e w2 ⟨A2, cc, rfl, hrd, hs2, hg2⟩
  have st : Stay w w2 [some r1] := hst.trans (Stay.of_grown hg2)
  have b2 : Below (p + 1) w w2 := st.below (by simp; omega) hlt
  have h2 : ConnA w2 p c s r1 r2 Bf [] [] false idle turn := ⟨hx.stay st (by simp; omega), ⟨d1, hs2, hd1⟩, ⟨d2, ring_stay hr st (by simp; omega), hd2⟩, ho⟩
  have q4 := gtrequest_27 g0 p mb c s r1 r2 Bf T idle turn mx A2 cc w2 (hG0.below b2) h2 hrd ht (hm w2 b2)
  clear q3 hs hr hx hs2 hst hg2 d0
  go_wp2_with fail
  refine q4.mono ?_
  rintro e w3 ⟨rfl, hB, b3⟩
  have HB := hide hB
  clear hB q4
  go_wp2_with fail
  go_ret
  exact ⟨rfl, HB.out, b2.trans b3⟩
set_option maxRecDepth 100000 in
set_option maxHeartbeats 1600000 in
theorem gtstep_27 (g0 p mb c s r1 r2 Bf : Nat) (T idle turn mx : Int) (w : World) (hG : GateC w g0 p mb c Bf T) (h : ConnA w p c s r1 r2 Bf b27 [] false idle turn) (ht : 0 ≤ turn ∧ turn ≤ 1000) (hm : ∀ W, Below (p + 1) w W → W.cell? ⟨1, 0, none⟩ = some (.int .i64 mx)) :
    Calls Tryz.prog 34 #[.pointer (some ⟨p, 0, none⟩), .pointer (some ⟨c, 0, none⟩)] w fun e w' => e = .returned (.bool true) ∧ (∃ x s3 r3 r4 b, ConnB w' p c s r1 r2 x s3 r3 r4 b Bf false idle (turn + 1)) ∧ Below (p + 1) w w' := by
  have q := gtbegin_27 g0 p mb c s r1 r2 Bf T idle turn mx w hG h ht hm
  obtain ⟨c2, -⟩ := h.box.2 2 _ rfl
  clear h hG hm
  go_enter Tryz.func34, Tryz.ntmps34
  go_wp2_with fail
  refine q.mono ?_
  rintro e w1 ⟨rfl, hL, hg⟩
  have HL := hide hL
  clear hL
  go_wp2_with fail
  go_ret
  exact ⟨rfl, HL.out, hg⟩
/-- The connection's states, by how many steps are left. -/
def StF (w0 : World) (g0 p mb c s r1 r2 Bf : Nat) (T idle turn : Int) : Nat → World → Prop
  | 0, W => GateC W g0 p mb c Bf T ∧ Below (p + 1) w0 W ∧ ∃ x s3 r3 r4 b, ConnB W p c s r1 r2 x s3 r3 r4 b Bf true idle (turn + 1)
  | 1, W => GateC W g0 p mb c Bf T ∧ Below (p + 1) w0 W ∧ ∃ x s3 r3 r4 b, ConnB W p c s r1 r2 x s3 r3 r4 b Bf false idle (turn + 1)
  | 2, W => GateC W g0 p mb c Bf T ∧ Below (p + 1) w0 W ∧ ConnA W p c s r1 r2 Bf b27 [] false idle turn
  | _, _ => False
theorem gtwork_27 (g0 p mb c s r1 r2 Bf : Nat) (T idle turn mx : Int) (w : World) (hG : GateC w g0 p mb c Bf T) (h : ConnA w p c s r1 r2 Bf b27 [] false idle turn) (ht : 0 ≤ turn ∧ turn ≤ 1000) (hm : ∀ W, Below (p + 1) w W → W.cell? ⟨1, 0, none⟩ = some (.int .i64 mx)) :
    Calls Tryz.prog 16 #[.pointer (some ⟨p, 0, none⟩)] w fun e w' => e = .returned (.tuple #[]) ∧ (∃ x s3 r3 r4 b, ConnB w' p c s r1 r2 x s3 r3 r4 b Bf true idle (turn + 1)) ∧ Below (p + 1) w w' := by
  refine (gtwork_st (StF w g0 p mb c s r1 r2 Bf T idle turn) p mb c g0 Bf T 2 w ?_ ?_ ⟨hG, Below.refl _ _, h⟩).mono ?_
  · intro i W hi
    match i, hi with
    | 0, hi => exact hi.1
    | 1, hi => exact hi.1
    | 2, hi => exact hi.1
  · intro i W hi
    match i, hi with
    | 0, ⟨h1, h2, x, s3, r3, r4, b, h3⟩ =>
      refine ⟨false, (h3.box.2 3 _ rfl).1, by simp, fun _ => ?_⟩
      refine (gtstep_rest g0 p mb c s r1 r2 x s3 r3 r4 b Bf T idle (turn + 1) mx W h1 h3 (fun V bV => hm V (h2.trans bV))).mono ?_
      rintro e w' ⟨rfl, h4, b4⟩
      exact ⟨0, by simp, ⟨h1.below b4, h2.trans b4, x, s3, r3, r4, b, h4⟩, by simp, by simp, b4⟩
    | 1, ⟨h1, h2, x, s3, r3, r4, b, h3⟩ =>
      refine ⟨false, (h3.box.2 3 _ rfl).1, by simp, fun _ => ?_⟩
      refine (gtstep_first g0 p mb c s r1 r2 x s3 r3 r4 b Bf T idle (turn + 1) mx W h1 h3 (fun V bV => hm V (h2.trans bV))).mono ?_
      rintro e w' ⟨rfl, h4, b4⟩
      exact ⟨0, by simp, ⟨h1.below b4, h2.trans b4, x, s3, r3, r4, b, h4⟩, by simp, by simp, b4⟩
    | 2, ⟨h1, h2, h3⟩ =>
      refine ⟨false, (h3.box.2 3 _ rfl).1, by simp, fun _ => ?_⟩
      refine (gtstep_27 g0 p mb c s r1 r2 Bf T idle turn mx W h1 h3 ht (fun V bV => hm V (h2.trans bV))).mono ?_
      rintro e w' ⟨rfl, h4, b4⟩
      exact ⟨1, by simp, ⟨h1.below b4, h2.trans b4, h4⟩, by simp, by simp, b4⟩
  · rintro e w' ⟨rfl, h1, h2⟩
    exact ⟨rfl, h1.2.2, h2⟩
theorem gtwork_rest (g0 p mb c s r1 r2 x s3 r3 r4 b Bf : Nat) (T idle turn mx : Int) (w : World) (hG : GateC w g0 p mb c Bf T) (h : ConnB w p c s r1 r2 x s3 r3 r4 b Bf true idle turn) (hm : ∀ W, Below (p + 1) w W → W.cell? ⟨1, 0, none⟩ = some (.int .i64 mx)) :
    Calls Tryz.prog 16 #[.pointer (some ⟨p, 0, none⟩)] w fun e w' => e = .returned (.tuple #[]) ∧ ConnB w' p c s r1 r2 x s3 r3 r4 b Bf true idle turn ∧ Below (p + 1) w w' := by
  refine (gtwork_st (fun i W => i = 0 ∧ GateC W g0 p mb c Bf T ∧ Below (p + 1) w W ∧ ConnB W p c s r1 r2 x s3 r3 r4 b Bf true idle turn) p mb c g0 Bf T 0 w (fun i W h => h.2.1) ?_ ⟨rfl, hG, Below.refl _ _, h⟩).mono ?_
  · rintro i W ⟨rfl, h1, h2, h3⟩
    refine ⟨false, (h3.box.2 3 _ rfl).1, by simp, fun _ => ?_⟩
    refine (gtstep_rest g0 p mb c s r1 r2 x s3 r3 r4 b Bf T idle turn mx W h1 h3 (fun V bV => hm V (h2.trans bV))).mono ?_
    rintro e w' ⟨rfl, h4, b4⟩
    exact ⟨0, by simp, ⟨rfl, h1.below b4, h2.trans b4, h4⟩, by simp, by simp, b4⟩
  · rintro e w' ⟨rfl, h1, h2⟩
    exact ⟨rfl, h1.2.2.2, h2⟩
theorem gtwork_wait (g0 p mb c s r1 r2 Bf : Nat) (T idle turn mx : Int) (bs : List UInt8) (w : World) (hG : GateC w g0 p mb c Bf T) (h : ConnA w p c s r1 r2 Bf bs [] false idle turn) (hE : hdE bs false = 5) (hm : ∀ W, Below (p + 1) w W → W.cell? ⟨1, 0, none⟩ = some (.int .i64 mx)) :
    Calls Tryz.prog 16 #[.pointer (some ⟨p, 0, none⟩)] w fun e w' => e = .returned (.tuple #[]) ∧ ConnA w' p c s r1 r2 Bf bs [] false idle turn ∧ Below (p + 1) w w' := by
  refine (gtwork_st (fun i W => i = 0 ∧ GateC W g0 p mb c Bf T ∧ Below (p + 1) w W ∧ ConnA W p c s r1 r2 Bf bs [] false idle turn) p mb c g0 Bf T 0 w (fun i W h => h.2.1) ?_ ⟨rfl, hG, Below.refl _ _, h⟩).mono ?_
  · rintro i W ⟨rfl, h1, h2, h3⟩
    refine ⟨false, (h3.box.2 3 _ rfl).1, by simp, fun _ => ?_⟩
    refine (gtstep_wait g0 p mb c s r1 r2 Bf T idle turn mx bs W h1 h3 hE (hm W h2)).mono ?_
    rintro e w' ⟨rfl, h4, b4⟩
    exact ⟨0, by simp, ⟨rfl, h1.below b4, h2.trans b4, h4⟩, by simp, by simp, b4⟩
  · rintro e w' ⟨rfl, h1, h2⟩
    exact ⟨rfl, h1.2.2.2, h2⟩
theorem gtwork_shut (g0 p mb c s r2 Bf : Nat) (T idle turn : Int) (os : List UInt8) (w : World) (hG : GateC w g0 p mb c Bf T) (h : ConnC w p c s r2 Bf os idle turn) :
    Calls Tryz.prog 16 #[.pointer (some ⟨p, 0, none⟩)] w fun e w' => e = .returned (.tuple #[]) ∧ ConnC w' p c s r2 Bf os idle turn ∧ Below (p + 1) w w' := by
  refine (gtwork_st (fun i W => i = 0 ∧ GateC W g0 p mb c Bf T ∧ ConnC W p c s r2 Bf os idle turn) p mb c g0 Bf T 0 w (fun i W h => h.2.1) ?_ ⟨rfl, hG, h⟩).mono ?_
  · rintro i W ⟨rfl, h1, h3⟩
    exact ⟨true, (h3.box.2 3 _ rfl).1, by simp, by simp⟩
  · rintro e w' ⟨rfl, h1, h2⟩
    exact ⟨rfl, h1.2.2, h2⟩
end Go.Proofs.YtijlaclngibekaaGreatDoor
