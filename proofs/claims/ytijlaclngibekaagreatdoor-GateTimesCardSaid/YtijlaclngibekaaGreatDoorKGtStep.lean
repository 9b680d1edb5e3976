/- gate.Gate.send, answer and step of an exchange that waits for its response. -/
import Derived.Test.YtijlaclngibekaaGreatDoorKGtWait
import Derived.Deep.RegionHeld3
namespace Go.Proofs.YtijlaclngibekaaGreatDoor
open Go.RowKit
set_option linter.unusedVariables false
set_option linter.unusedSimpArgs false

set_option maxRecDepth 100000 in
set_option maxHeartbeats 1600000 in
theorem gtanswer_no (g0 p mb c s r1 r2 x s3 r3 r4 b Bf : Nat) (T idle turn mx : Int) (sent : Bool) (w : World) (hG : GateC w g0 p mb c Bf T) (h : ConnB w p c s r1 r2 x s3 r3 r4 b Bf sent idle turn) (hm : w.cell? ⟨1, 0, none⟩ = some (.int .i64 mx)) :
    Calls Tryz.prog 56 #[.pointer (some ⟨p, 0, none⟩), .pointer (some ⟨c, 0, none⟩)] w fun e w' => e = .returned (.bool false) ∧ (∃ d, IsSide w' s3 r3 Bf false d []) ∧ Stay w w' [some r3] := by
  have q := gthead_no g0 p mb c s r1 r2 x s3 r3 r4 b Bf T idle turn mx sent w hG h hm
  obtain ⟨c2, -⟩ := h.box.2 2 _ rfl
  obtain ⟨vf, vk, vl, v12, v13, hex⟩ := h.ex
  obtain ⟨x11, -⟩ := hex.2 11 _ rfl
  obtain ⟨x15, -⟩ := hex.2 15 _ rfl
  clear h hG hex
  go_enter Tryz.func56, Tryz.ntmps56
  go_wp2_with fail
  refine q.mono ?_
  rintro e w1 ⟨rfl, hL, hg⟩
  go_wp2_with fail
  go_ret
  exact ⟨rfl, hL, hg⟩
set_option maxRecDepth 100000 in
set_option maxHeartbeats 1600000 in
theorem gtsend_done (p c s r1 r2 x s3 r3 r4 b Bf : Nat) (g : Value) (idle turn : Int) (w : World) (hB : 16384 ≤ Bf ∧ Bf ≤ 32768) (h : ConnB w p c s r1 r2 x s3 r3 r4 b Bf true idle turn) :
    Calls Tryz.prog 55 #[g, .pointer (some ⟨c, 0, none⟩)] w fun e w' => e = .returned (.bool false) ∧ ∃ k, w' = w.drewN k := by
  obtain ⟨c2, -⟩ := h.box.2 2 _ rfl
  obtain ⟨vf, vk, vl, v12, v13, hex⟩ := h.ex
  obtain ⟨n, d4, xs, hr, hn, hd4⟩ := h.out
  obtain ⟨x7, -⟩ := hex.2 7 _ rfl
  obtain ⟨x10, -⟩ := hex.2 10 _ rfl
  have q := roomB r4 n Bf d4 xs w hr (by omega)
  have e10 : ∀ k, (w.drewN k).cell? ⟨x, 10, none⟩ = some (.bool true) := fun k => x10
  have i1 : IntKind.i64.wrap ((Bf : Int) - (n : Int) - 32) = (Bf : Int) - (n : Int) - 32 := by rw [IntKind.wrap_i64]; omega
  have i2 : ¬ ((Bf : Int) - (n : Int) - 32 < 1) := by omega
  clear h hex hr
  go_enter Tryz.func55, Tryz.ntmps55
  go_wp2_with fail
  refine q.mono ?_
  rintro e w1 ⟨rfl, k, hk⟩
  have e10 := e10 k
  rw [← hk] at e10
  have HK := hide hk
  clear hk x10 x7 c2
  go_wp2_with fail
  go_ret
  exact ⟨rfl, k, HK.out⟩
theorem gtframed0 (v : Value) (w : World) : Calls Tryz.prog 84 #[.int .i64 0, v] w fun e w' => e = .returned v ∧ w = w' := by
  go_enter Tryz.func84, Tryz.ntmps84
  go_wp2_with fail
  go_ret
  exact ⟨rfl, rfl⟩
theorem gtlast0 (w : World) : Calls Tryz.prog 85 #[.int .i64 0] w fun e w' => e = .returned (.slice none 0 0) ∧ w = w' := by
  go_enter Tryz.func85, Tryz.ntmps85
  go_wp2_with fail
  go_ret
  exact ⟨rfl, rfl⟩
set_option maxRecDepth 100000 in
set_option maxHeartbeats 3200000 in
theorem gtsend_first (p c s r1 r2 x s3 r3 r4 b Bf : Nat) (g : Value) (idle turn : Int) (w : World) (hB : 16384 ≤ Bf ∧ Bf ≤ 32768) (hlt : p + 1 ≤ w.heap.size) (h : ConnB w p c s r1 r2 x s3 r3 r4 b Bf false idle turn) :
    Calls Tryz.prog 55 #[g, .pointer (some ⟨c, 0, none⟩)] w fun e w' => e = .returned (.bool true) ∧ ConnB w' p c s r1 r2 x s3 r3 r4 b Bf true idle turn ∧ Below (p + 1) w w' := by
  obtain ⟨hx, hside, ⟨d2, hr2, hd2⟩, ⟨vf, vk, vl, v12, v13, hex⟩, ⟨d3, hs3⟩, ⟨n, d4, xs, hr, hn, hd4⟩, ho, ho2⟩ := h
  obtain ⟨d1, hs0⟩ : ∃ d, IsSide0 w s r1 Bf d b none := by simpa [SideS] using hside
  obtain ⟨c2, -⟩ := hx.2 2 _ rfl
  obtain ⟨x7, -⟩ := hex.2 7 _ rfl
  obtain ⟨x10, -⟩ := hex.2 10 _ rfl
  have q := roomB r4 n Bf d4 xs w hr (by omega)
  have i1 : IntKind.i64.wrap ((Bf : Int) - (n : Int) - 32) = (Bf : Int) - (n : Int) - 32 := by rw [IntKind.wrap_i64]; omega
  have i2 : ¬ ((Bf : Int) - (n : Int) - 32 < 1) := by omega
  go_enter Tryz.func55, Tryz.ntmps55
  go_wp2_with fail
  refine q.mono ?_
  rintro e w1 ⟨rfl, k, hk⟩
  have st1 : Stay w w1 [] := hk ▸ Stay.drewN k []
  clear hk c2 x7 x10 q
  have hx1 := hx.stay st1 (by simp)
  have hex1 := hex.stay st1 (by simp)
  have hs1 := side0_stay hs0 st1 (by simp) (by simp) (by simp)
  obtain ⟨c0, -⟩ := hx1.2 0 _ rfl
  obtain ⟨x10, -⟩ := hex1.2 10 _ rfl
  go_wp2_with fail
  obtain ⟨hs3', d3'⟩ : IsSide w s3 r3 Bf false d3 [] ∧ True := ⟨hs3, trivial⟩
  clear d3'
  refine (linktake0_any s r1 Bf d1 b none _ w1 hs1 (by omega)).mono ?_
  rintro e w2 ⟨A2, cc, rfl, hs2, st2⟩
  have st12 : Stay w w2 [some r1, none, some b, some s] := st1.trans st2
  have hx2 := hx.stay st12 (by simp; omega)
  have hex2 := hex.stay st12 (by simp; omega)
  have hr4 := ring_kept hr st12 (by simp; omega) (fun g hg => by have := hd4 g hg; simp; omega)
  clear c0 x10 hx1 hex1 hs1 hs0
  obtain ⟨x7, -⟩ := hex2.2 7 _ rfl
  obtain ⟨x8, -⟩ := hex2.2 8 _ rfl
  go_upto_region 6 with (fail)
  refine CalmP.hideN (fun K0 hQ => ?_)
  refine wp_region_held_drew (S := (fun W : World => (W.cell? ⟨x, 7, none⟩ = some (.pointer (some ⟨r4, 0, none⟩)) ∧ W.cell? ⟨x, 8, none⟩ = some (.int .i64 0)))) (by kernel_rfl) ⟨x7, x8⟩ (fun hHeld => ?_)
  refine wpAnyH_take (i := 0) (v := ?_) rfl (by kernel_rfl) (by kernel_rfl) (by kernel_rfl) CalmP.onlyN_panic (Or.inl ⟨by kernel_rfl, ?_⟩) (by assumption) ?_
  rotate_left
  · (intro w_ hSw; go_simp; try with_reducible rfl)
  try simp only [List.getElem_toArray, List.getElem_cons_succ, List.getElem_cons_zero, Act.put, List.setIfInBounds_toArray, List.set_cons_zero, List.set_cons_succ]
  refine wpAnyH_take (i := 1) (v := ?_) rfl (by kernel_rfl) (by kernel_rfl) (by kernel_rfl) CalmP.onlyN_panic (Or.inl ⟨by kernel_rfl, ?_⟩) (by assumption) ?_
  rotate_left
  · (intro w_ hSw; go_simp; try with_reducible rfl)
  try simp only [List.getElem_toArray, List.getElem_cons_succ, List.getElem_cons_zero, Act.put, List.setIfInBounds_toArray, List.set_cons_zero, List.set_cons_succ]
  refine wpAnyH_take (i := 2) (v := ?_) rfl (by kernel_rfl) (by kernel_rfl) (by kernel_rfl) CalmP.onlyN_panic (Or.inl ⟨by kernel_rfl, ?_⟩) (by assumption) ?_
  rotate_left
  · (intro w_ hSw; go_simp; try with_reducible rfl)
  try simp only [List.getElem_toArray, List.getElem_cons_succ, List.getElem_cons_zero, Act.put, List.setIfInBounds_toArray, List.set_cons_zero, List.set_cons_succ]
  refine wpAnyH_take (i := 3) (v := ?_) rfl (by kernel_rfl) (by kernel_rfl) (by kernel_rfl) CalmP.onlyN_panic (Or.inl ⟨by kernel_rfl, ?_⟩) (by assumption) ?_
  rotate_left
  · (intro w_ hSw; go_simp; try with_reducible rfl)
  try simp only [List.getElem_toArray, List.getElem_cons_succ, List.getElem_cons_zero, Act.put, List.setIfInBounds_toArray, List.set_cons_zero, List.set_cons_succ]
  refine wpAnyH_take (i := 4) (v := ?_) rfl (by kernel_rfl) (by kernel_rfl) (by kernel_rfl) CalmP.onlyN_panic (Or.inl ⟨by kernel_rfl, ?_⟩) (by assumption) ?_
  rotate_left
  · (intro w_ hSw; go_simp; try with_reducible rfl)
  try simp only [List.getElem_toArray, List.getElem_cons_succ, List.getElem_cons_zero, Act.put, List.setIfInBounds_toArray, List.set_cons_zero, List.set_cons_succ]
  refine wpAnyH_take (i := 5) (v := ?_) rfl (by kernel_rfl) (by kernel_rfl) (by kernel_rfl) CalmP.onlyN_panic (Or.inl ⟨by kernel_rfl, ?_⟩) (by assumption) ?_
  rotate_left
  · (intro w_ hSw; go_simp; try with_reducible rfl)
  try simp only [List.getElem_toArray, List.getElem_cons_succ, List.getElem_cons_zero, Act.put, List.setIfInBounds_toArray, List.set_cons_zero, List.set_cons_succ]
  refine wpAnyH_take (i := 6) (v := ?_) rfl (by kernel_rfl) (by kernel_rfl) (by kernel_rfl) CalmP.onlyN_panic (Or.inl ⟨by kernel_rfl, ?_⟩) (by assumption) ?_
  rotate_left
  · (intro w_ hSw; go_simp; try with_reducible rfl)
  try simp only [List.getElem_toArray, List.getElem_cons_succ, List.getElem_cons_zero, Act.put, List.setIfInBounds_toArray, List.set_cons_zero, List.set_cons_succ]
  refine wpAnyH_take (i := 7) (v := ?_) rfl (by kernel_rfl) (by kernel_rfl) (by kernel_rfl) CalmP.onlyN_panic (Or.inl ⟨by kernel_rfl, ?_⟩) (by assumption) ?_
  rotate_left
  · (intro w_ hSw; go_simp; try with_reducible rfl)
  try simp only [List.getElem_toArray, List.getElem_cons_succ, List.getElem_cons_zero, Act.put, List.setIfInBounds_toArray, List.set_cons_zero, List.set_cons_succ]
  refine wpAnyH_take (i := 8) (v := ?_) rfl (by kernel_rfl) (by kernel_rfl) (by kernel_rfl) CalmP.onlyN_panic (Or.inl ⟨by kernel_rfl, ?_⟩) (by assumption) ?_
  rotate_left
  · (intro w_ hSw; go_simp; try with_reducible rfl)
  try simp only [List.getElem_toArray, List.getElem_cons_succ, List.getElem_cons_zero, Act.put, List.setIfInBounds_toArray, List.set_cons_zero, List.set_cons_succ]
  refine wpAnyH_take (i := 9) (v := ?_) rfl (by kernel_rfl) (by kernel_rfl) (by kernel_rfl) CalmP.onlyN_panic (Or.inl ⟨by kernel_rfl, ?_⟩) (by assumption) ?_
  rotate_left
  · (intro w_ hSw; go_simp; try with_reducible rfl)
  try simp only [List.getElem_toArray, List.getElem_cons_succ, List.getElem_cons_zero, Act.put, List.setIfInBounds_toArray, List.set_cons_zero, List.set_cons_succ]
  refine wpAnyH_ready (rs := [10]) (by kernel_rfl) (by simp) ?_
  refine AllReadyH.cons rfl (fun K_ hK => ?_) (AllReadyH.nil)
  go_simp
  refine (gtframed0 (.slice A2 0 cc) w2.drew).mono ?_
  rintro e w3 ⟨rfl, rfl⟩
  refine hK.out _ _ ⟨x7, x8⟩ (fun hHeld => ?_)
  clear hK K_
  try simp only [List.getElem_toArray, List.getElem_cons_succ, List.getElem_cons_zero, Act.put, List.setIfInBounds_toArray, List.set_cons_zero, List.set_cons_succ]
  refine wpAnyH_ready (rs := [11]) (by kernel_rfl) (by simp) ?_
  refine AllReadyH.cons rfl (fun K_ hK => ?_) (AllReadyH.nil)
  go_simp
  refine (pushB_none r4 n Bf d4 xs A2 0 cc w2.drew (hr4.drewN 1) (by omega) (by omega) (.inl rfl)).mono ?_
  rintro e w3 ⟨rfl, k3, rfl⟩
  refine hK.out _ _ ⟨x7, x8⟩ (fun hHeld => ?_)
  clear hK K_
  try simp only [List.getElem_toArray, List.getElem_cons_succ, List.getElem_cons_zero, Act.put, List.setIfInBounds_toArray, List.set_cons_zero, List.set_cons_succ]
  refine wpAnyH_done (by kernel_rfl) ?_ _
  refine CalmP.onlyN_here (hQ.out _ _ ?_)
  clear hQ K0
  have st3 : Stay w2 (w2.drew.drewN k3) [] := Stay.of_below [] (below_drewN (below_drewN (k := 1) (Below.refl _ _)))
  have e7 : (w2.drew.drewN k3).cell? ⟨x, 7, none⟩ = some (.pointer (some ⟨r4, 0, none⟩)) := x7
  have e8 : (w2.drew.drewN k3).cell? ⟨x, 8, none⟩ = some (.int .i64 0) := x8
  have hr5 := ring_kept hr4 st3 (by simp) (by simp)
  have hex3 := hex2.stay st3 (by simp)
  generalize w2.drew.drewN k3 = w3 at st3 e7 e8 hr5 hex3 ⊢
  go_upto_region 9 with (fail)
  refine CalmP.hideN (fun K0 hQ => ?_)
  refine wp_region_held_drew (S := (fun W : World => (W.cell? ⟨x, 7, none⟩ = some (.pointer (some ⟨r4, 0, none⟩)) ∧ W.cell? ⟨x, 8, none⟩ = some (.int .i64 0)))) (by kernel_rfl) ⟨e7, e8⟩ (fun hHeld => ?_)
  refine wpAnyH_take (i := 0) (v := ?_) rfl (by kernel_rfl) (by kernel_rfl) (by kernel_rfl) CalmP.onlyN_panic (Or.inl ⟨by kernel_rfl, ?_⟩) (by assumption) ?_
  rotate_left
  · (intro w_ hSw; go_simp; try with_reducible rfl)
  try simp only [List.getElem_toArray, List.getElem_cons_succ, List.getElem_cons_zero, Act.put, List.setIfInBounds_toArray, List.set_cons_zero, List.set_cons_succ]
  refine wpAnyH_take (i := 1) (v := ?_) rfl (by kernel_rfl) (by kernel_rfl) (by kernel_rfl) CalmP.onlyN_panic (Or.inl ⟨by kernel_rfl, ?_⟩) (by assumption) ?_
  rotate_left
  · (intro w_ hSw; go_simp; try with_reducible rfl)
  try simp only [List.getElem_toArray, List.getElem_cons_succ, List.getElem_cons_zero, Act.put, List.setIfInBounds_toArray, List.set_cons_zero, List.set_cons_succ]
  refine wpAnyH_take (i := 2) (v := ?_) rfl (by kernel_rfl) (by kernel_rfl) (by kernel_rfl) CalmP.onlyN_panic (Or.inl ⟨by kernel_rfl, ?_⟩) (by assumption) ?_
  rotate_left
  · (intro w_ hSw; go_simp; try with_reducible rfl)
  try simp only [List.getElem_toArray, List.getElem_cons_succ, List.getElem_cons_zero, Act.put, List.setIfInBounds_toArray, List.set_cons_zero, List.set_cons_succ]
  refine wpAnyH_take (i := 3) (v := ?_) rfl (by kernel_rfl) (by kernel_rfl) (by kernel_rfl) CalmP.onlyN_panic (Or.inl ⟨by kernel_rfl, ?_⟩) (by assumption) ?_
  rotate_left
  · (intro w_ hSw; go_simp; try with_reducible rfl)
  try simp only [List.getElem_toArray, List.getElem_cons_succ, List.getElem_cons_zero, Act.put, List.setIfInBounds_toArray, List.set_cons_zero, List.set_cons_succ]
  refine wpAnyH_take (i := 4) (v := ?_) rfl (by kernel_rfl) (by kernel_rfl) (by kernel_rfl) CalmP.onlyN_panic (Or.inl ⟨by kernel_rfl, ?_⟩) (by assumption) ?_
  rotate_left
  · (intro w_ hSw; go_simp; try with_reducible rfl)
  try simp only [List.getElem_toArray, List.getElem_cons_succ, List.getElem_cons_zero, Act.put, List.setIfInBounds_toArray, List.set_cons_zero, List.set_cons_succ]
  refine wpAnyH_take (i := 5) (v := ?_) rfl (by kernel_rfl) (by kernel_rfl) (by kernel_rfl) CalmP.onlyN_panic (Or.inl ⟨by kernel_rfl, ?_⟩) (by assumption) ?_
  rotate_left
  · (intro w_ hSw; go_simp; try with_reducible rfl)
  try simp only [List.getElem_toArray, List.getElem_cons_succ, List.getElem_cons_zero, Act.put, List.setIfInBounds_toArray, List.set_cons_zero, List.set_cons_succ]
  refine wpAnyH_take (i := 6) (v := ?_) rfl (by kernel_rfl) (by kernel_rfl) (by kernel_rfl) CalmP.onlyN_panic (Or.inl ⟨by kernel_rfl, ?_⟩) (by assumption) ?_
  rotate_left
  · (intro w_ hSw; go_simp; try with_reducible rfl)
  try simp only [List.getElem_toArray, List.getElem_cons_succ, List.getElem_cons_zero, Act.put, List.setIfInBounds_toArray, List.set_cons_zero, List.set_cons_succ]
  refine wpAnyH_take (i := 7) (v := ?_) rfl (by kernel_rfl) (by kernel_rfl) (by kernel_rfl) CalmP.onlyN_panic (Or.inl ⟨by kernel_rfl, ?_⟩) (by assumption) ?_
  rotate_left
  · (intro w_ hSw; go_simp; try with_reducible rfl)
  try simp only [List.getElem_toArray, List.getElem_cons_succ, List.getElem_cons_zero, Act.put, List.setIfInBounds_toArray, List.set_cons_zero, List.set_cons_succ]
  refine wpAnyH_take (i := 8) (v := ?_) rfl (by kernel_rfl) (by kernel_rfl) (by kernel_rfl) CalmP.onlyN_panic (Or.inl ⟨by kernel_rfl, ?_⟩) (by assumption) ?_
  rotate_left
  · (intro w_ hSw; go_simp; try with_reducible rfl)
  try simp only [List.getElem_toArray, List.getElem_cons_succ, List.getElem_cons_zero, Act.put, List.setIfInBounds_toArray, List.set_cons_zero, List.set_cons_succ]
  refine wpAnyH_ready (rs := [9]) (by kernel_rfl) (by simp) ?_
  refine AllReadyH.cons rfl (fun K_ hK => ?_) (AllReadyH.nil)
  go_simp
  refine (gtlast0 w3.drew).mono ?_
  rintro e w4 ⟨rfl, rfl⟩
  refine hK.out _ _ ⟨e7, e8⟩ (fun hHeld => ?_)
  clear hK K_
  try simp only [List.getElem_toArray, List.getElem_cons_succ, List.getElem_cons_zero, Act.put, List.setIfInBounds_toArray, List.set_cons_zero, List.set_cons_succ]
  refine wpAnyH_ready (rs := [10]) (by kernel_rfl) (by simp) ?_
  refine AllReadyH.cons rfl (fun K_ hK => ?_) (AllReadyH.nil)
  go_simp
  refine (pushB_none r4 n Bf d4 xs none 0 0 w3.drew (hr5.drewN 1) (by omega) (by omega) (.inl rfl)).mono ?_
  rintro e w4 ⟨rfl, k4, rfl⟩
  refine hK.out _ _ ⟨e7, e8⟩ (fun hHeld => ?_)
  clear hK K_
  try simp only [List.getElem_toArray, List.getElem_cons_succ, List.getElem_cons_zero, Act.put, List.setIfInBounds_toArray, List.set_cons_zero, List.set_cons_succ]
  refine wpAnyH_done (by kernel_rfl) ?_ _
  refine CalmP.onlyN_here (hQ.out _ _ ?_)
  clear hQ K0
  have st4 : Stay w3 (w3.drew.drewN k4) [] := Stay.of_below [] (below_drewN (below_drewN (k := 1) (Below.refl _ _)))
  have hex4 := hex3.stay st4 (by simp)
  generalize w3.drew.drewN k4 = w4 at st4 hex4 ⊢
  have hxl := hex4.1
  obtain ⟨y10, f10⟩ := hex4.2 10 _ rfl
  have hex5 := hex4.set (k := 10) (x := .bool true) (by simp)
  simp only [List.set_cons_succ, List.set_cons_zero] at hex5
  have st24 : Stay w2 w4 [] := st3.trans st4
  have st14 : Stay w w4 [some r1, none, some b, some s] := st12.trans st24
  have st5 : Stay w (w4.setCell ⟨x, 10, none⟩ (.bool true)) [some r1, none, some b, some s, some x] := (st14.mono (T := [some r1, none, some b, some s, some x]) (by simp)).set (by simp)
  have st25 : Stay w2 (w4.setCell ⟨x, 10, none⟩ (.bool true)) [some x] := (st24.mono (T := [some x]) (by simp)).set (by simp)
  go_wp2_with fail
  go_ret
  refine ⟨rfl, ⟨hx.stay st5 (by simp; omega), ?_, ⟨d2, ring_stay hr2 st5 (by simp; omega), hd2⟩, ⟨vf, vk, vl, v12, v13, hex5⟩, ⟨d3, side_stay hs3 st5 (by simp; omega) (by simp; omega)⟩, ⟨n, d4, xs, ring_kept hr st5 (by simp; omega) (fun g hg => by have := hd4 g hg; simp; omega), hn, hd4⟩, ho, ho2⟩, st5.below (by simp; omega) hlt⟩
  exact ⟨d1, side_stay hs2 st25 (by simp; omega) (by simp; omega)⟩
end Go.Proofs.YtijlaclngibekaaGreatDoor
