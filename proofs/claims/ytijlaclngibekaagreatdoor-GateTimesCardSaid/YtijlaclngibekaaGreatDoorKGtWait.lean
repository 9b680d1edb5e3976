/- gate.Gate.begin and step of a connection whose request has not come yet; head, answer, finish, send, step of an exchange that waits. -/
import Derived.Test.YtijlaclngibekaaGreatDoorKGtStG
import Derived.Test.YtijlaclngibekaaGreatDoorKGtPure
namespace Go.Proofs.YtijlaclngibekaaGreatDoor
open Go.RowKit
set_option linter.unusedVariables false
set_option linter.unusedSimpArgs false

set_option maxRecDepth 100000 in
set_option maxHeartbeats 1600000 in
theorem gtbegin_wait (g0 p mb c s r1 r2 Bf : Nat) (T idle turn mx : Int) (bs : List UInt8) (w : World) (hG : GateC w g0 p mb c Bf T) (h : ConnA w p c s r1 r2 Bf bs [] false idle turn) (hE : hdE bs false = 5) (hm : w.cell? ⟨1, 0, none⟩ = some (.int .i64 mx)) :
    Calls Tryz.prog 54 #[.pointer (some ⟨p, 0, none⟩), .pointer (some ⟨c, 0, none⟩)] w fun e w' => e = .returned (.bool false) ∧ ConnA w' p c s r1 r2 Bf bs [] false idle turn ∧ Below (p + 1) w w' := by
  have hlt := hG.lt
  obtain ⟨⟨A, cR, v1, v2, v3, v4, bx, rd⟩, mp, o1, o2, o3, o4⟩ := hG
  obtain ⟨hx, ⟨d1, hs, hd1⟩, ⟨d2, hr, hd2⟩, ho⟩ := h
  obtain ⟨k5, -⟩ := bx.2 5 _ rfl
  obtain ⟨c0, -⟩ := hx.2 0 _ rfl
  obtain ⟨c1, -⟩ := hx.2 1 _ rfl
  have q := gtroom_any p c r2 0 Bf d2 [] w k5 c1 hr o4.2
  rw [show (Bf : Int) - ((0 : Nat) : Int) = (Bf : Int) by omega] at q
  have hO := hdO_none hE
  have q2 := fun k => linkhead_any s r1 Bf false d1 bs mx (w.drewN k) (hs.drewN k) hm
  simp only [hE, hO, List.length_nil, List.drop_zero] at q2
  have i1 : ¬ (Bf : Int) < 16384 := by omega
  clear bx rd mp c1 k5
  go_enter Tryz.func54, Tryz.ntmps54
  go_wp2_with fail
  refine q.mono ?_
  rintro e w1 ⟨rfl, k, rfl⟩
  have d0 : (w.drewN k).cell? ⟨c, 0, none⟩ = some (.pointer (some ⟨s, 0, none⟩)) := c0
  have q3 := q2 k
  have hst : Stay w (w.drewN k) [] := Stay.drewN k []
  generalize w.drewN k = w1 at d0 q3 hst ⊢
  go_wp2_with fail
  refine q3.mono ?_
  rintro e w2 ⟨A2, cc, rfl, hrd, hs2, hg2⟩
  have st : Stay w w2 [some r1] := hst.trans (Stay.of_grown hg2)
  go_wp2_with fail
  go_ret
  exact ⟨rfl, ⟨hx.stay st (by simp; omega), ⟨d1, hs2, hd1⟩, ⟨d2, ring_stay hr st (by simp; omega), hd2⟩, ho⟩, st.below (by simp; omega) hlt⟩
set_option maxRecDepth 100000 in
set_option maxHeartbeats 1600000 in
theorem gtstep_wait (g0 p mb c s r1 r2 Bf : Nat) (T idle turn mx : Int) (bs : List UInt8) (w : World) (hG : GateC w g0 p mb c Bf T) (h : ConnA w p c s r1 r2 Bf bs [] false idle turn) (hE : hdE bs false = 5) (hm : w.cell? ⟨1, 0, none⟩ = some (.int .i64 mx)) :
    Calls Tryz.prog 34 #[.pointer (some ⟨p, 0, none⟩), .pointer (some ⟨c, 0, none⟩)] w fun e w' => e = .returned (.bool false) ∧ ConnA w' p c s r1 r2 Bf bs [] false idle turn ∧ Below (p + 1) w w' := by
  have q := gtbegin_wait g0 p mb c s r1 r2 Bf T idle turn mx bs w hG h hE hm
  obtain ⟨c2, -⟩ := h.box.2 2 _ rfl
  clear h hG
  go_enter Tryz.func34, Tryz.ntmps34
  go_wp2_with fail
  refine q.mono ?_
  rintro e w1 ⟨rfl, hL, hg⟩
  go_wp2_with fail
  go_ret
  exact ⟨rfl, hL, hg⟩
set_option maxRecDepth 100000 in
set_option maxHeartbeats 1600000 in
theorem gtfinish_no (c x : Nat) (w : World) (c2 : w.cell? ⟨c, 2, none⟩ = some (.pointer (some ⟨x, 0, none⟩))) (x15 : w.cell? ⟨x, 15, none⟩ = some (.bool false)) :
    Calls Tryz.prog 57 #[.pointer (some ⟨c, 0, none⟩)] w fun e w' => e = .returned (.bool false) ∧ w = w' := by
  go_enter Tryz.func57, Tryz.ntmps57
  go_wp2_with fail
  go_ret
  exact ⟨rfl, rfl⟩
set_option maxRecDepth 100000 in
set_option maxHeartbeats 1600000 in
theorem gthead_no (g0 p mb c s r1 r2 x s3 r3 r4 b Bf : Nat) (T idle turn mx : Int) (sent : Bool) (w : World) (hG : GateC w g0 p mb c Bf T) (h : ConnB w p c s r1 r2 x s3 r3 r4 b Bf sent idle turn) (hm : w.cell? ⟨1, 0, none⟩ = some (.int .i64 mx)) :
    Calls Tryz.prog 86 #[.pointer (some ⟨p, 0, none⟩), .pointer (some ⟨c, 0, none⟩)] w fun e w' => e = .returned (.bool false) ∧ (∃ d, IsSide w' s3 r3 Bf false d []) ∧ Stay w w' [some r3] := by
  obtain ⟨⟨A, cR, v1, v2, v3, v4, bx, rd⟩, mp, o1, o2, o3, o4⟩ := hG
  obtain ⟨hx, -, ⟨d2, hr, hd2⟩, ⟨vf, vk, vl, v12, v13, hex⟩, ⟨d3, hs⟩, -, ho, ho2⟩ := h
  obtain ⟨k5, -⟩ := bx.2 5 _ rfl
  obtain ⟨c1, -⟩ := hx.2 1 _ rfl
  obtain ⟨c2, -⟩ := hx.2 2 _ rfl
  obtain ⟨x6, -⟩ := hex.2 6 _ rfl
  have q := gtroom_any p c r2 0 Bf d2 [] w k5 c1 hr o4.2
  rw [show (Bf : Int) - ((0 : Nat) : Int) = (Bf : Int) by omega] at q
  have hO := hdO_none hd00
  have q2 := fun k => linkhead_any s3 r3 Bf false d3 [] mx (w.drewN k) (hs.drewN k) hm
  simp only [hd00, hO, List.length_nil, List.drop_zero] at q2
  have i1 : ¬ (Bf : Int) < 16384 := by omega
  clear bx rd mp c1 k5 hx hr hex hs
  go_enter Tryz.func86, Tryz.ntmps86
  go_wp2_with fail
  refine q.mono ?_
  rintro e w1 ⟨rfl, k, rfl⟩
  have e2 : (w.drewN k).cell? ⟨c, 2, none⟩ = some (.pointer (some ⟨x, 0, none⟩)) := c2
  have e6 : (w.drewN k).cell? ⟨x, 6, none⟩ = some (.pointer (some ⟨s3, 0, none⟩)) := x6
  have q3 := q2 k
  have hst : Stay w (w.drewN k) [] := Stay.drewN k []
  generalize w.drewN k = w1 at e2 e6 q3 hst ⊢
  go_wp2_with fail
  refine q3.mono ?_
  rintro e w2 ⟨A2, cc, rfl, hrd, hs2, hg2⟩
  go_wp2_with fail
  go_ret
  exact ⟨rfl, ⟨d3, hs2⟩, hst.trans (Stay.of_grown hg2)⟩
end Go.Proofs.YtijlaclngibekaaGreatDoor
