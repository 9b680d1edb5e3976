/- gate.Gate.act and Do: a client sends, takes; time goes by. -/
import Derived.Test.YtijlaclngibekaaGreatDoorKGtOwnG
import Derived.Test.YtijlaclngibekaaGreatDoorKGtStG
namespace Go.Proofs.YtijlaclngibekaaGreatDoor
open Go.RowKit
set_option linter.unusedVariables false
set_option linter.unusedSimpArgs false

set_option maxRecDepth 100000 in
set_option maxHeartbeats 1600000 in
theorem gtact_client (g0 p mb c s r1 r2 Bf : Nat) (T idle turn : Int) (A : Option Addr) (n cap B : Nat) (ys : List UInt8) (w : World) (hG : GateC w g0 p mb c Bf T) (h : ConnA w p c s r1 r2 Bf [] [] false idle turn) (hy : Rd w B 1 A n (bcells ys)) (hB : B ≤ w.heap.size) (hn : 1 ≤ n ∧ n ≤ 1000) (hnc : n ≤ cap) :
    Calls Tryz.prog 15 #[.pointer (some ⟨p, 0, none⟩), .agg #[.int .i64 2, .int .i64 0, .int .i64 0, .slice A n cap]] w fun e w' => e = .returned (.tuple #[.int .i64 (n : Int), .slice none 0 0, .int .i64 0]) ∧ ConnA w' p c s r1 r2 Bf ys [] false 0 turn ∧ Below (p + 1) w w' := by
  have hlt := hG.lt
  have hBf := hG.o4
  have hpc := hG.o3
  have hyl : ys.length = n := by have := hy.1; rw [bcells_length] at this; omega
  obtain ⟨ga, hga⟩ : ∃ ga, w.heap.size = ga := ⟨_, rfl⟩
  have ba := Box.new w #[.int .i64 2, .int .i64 0, .int .i64 0, .slice A n cap] 39
  have b0 : Below w.heap.size w (w.alloc (.cells #[.int .i64 2, .int .i64 0, .int .i64 0, .slice A n cap] 39)) := (Below.refl _ _).alloc (Nat.le_refl _) _
  rw [hga] at ba
  have hG1 := hG.below (b0.mono hlt)
  have st1 : Stay w _ [] := Stay.of_below [] b0
  have y1 := (hy.below (b0.mono hB)).mono (Nat.le_trans hB b0.size)
  obtain ⟨hx, ⟨d1, hs, hd1⟩, ⟨d2, hr, hd2⟩, ho⟩ := h
  have hx1 := hx.stay st1 (by simp)
  have hs1 := side_stay hs st1 (by simp) (by simp)
  have hcl := hx.1
  go_enter Tryz.func15, Tryz.ntmps15
  go_upto_region 1 with (fail)
  generalize w.alloc _ = w1 at ba b0 hG1 st1 y1 hx1 hs1 ⊢
  obtain ⟨a0, a1, a2, a3⟩ := ba.four
  have q1 := gtget_any g0 p mb c Bf T w1 hG1
  obtain ⟨c0, -⟩ := hx1.2 0 _ rfl
  obtain ⟨c3, -⟩ := hx1.2 3 _ rfl
  go_wp2_with fail
  refine q1.mono ?_
  rintro e w2 ⟨rfl, rfl⟩
  go_upto_region 10 with (fail)
  refine CalmP.hideN (fun K0 hQ => ?_)
  refine wp_region_held_drew (S := (fun W : World => (W.cell? ⟨c, 0, none⟩ = some (.pointer (some ⟨s, 0, none⟩)) ∧ W.cell? ⟨ga, 3, none⟩ = some (.slice A n cap)))) (by kernel_rfl) ⟨c0, a3⟩ (fun hHeld => ?_)
  refine wpAnyH_take (i := 0) (v := ?_) rfl (by kernel_rfl) (by kernel_rfl) (by kernel_rfl) CalmP.onlyN_panic (Or.inl ⟨by kernel_rfl, ?_⟩) (by assumption) ?_
  rotate_left
  · (intro w_ hSw; go_simp; try with_reducible rfl)
  try simp only [List.getElem_toArray, List.getElem_cons_succ, List.getElem_cons_zero, Act.put, List.setIfInBounds_toArray, List.set_cons_zero, List.set_cons_succ]
  refine wpAnyH_take (i := 1) (v := ?_) rfl (by kernel_rfl) (by kernel_rfl) (by kernel_rfl) CalmP.onlyN_panic (Or.inl ⟨by kernel_rfl, ?_⟩) (by assumption) ?_
  rotate_left
  · (intro w_ hSw; go_simp; try with_reducible rfl)
  try simp only [List.getElem_toArray, List.getElem_cons_succ, List.getElem_cons_zero, Act.put, List.setIfInBounds_toArray, List.set_cons_zero, List.set_cons_succ]
  refine wpAnyH_take (i := 2) (v := ?_) rfl (by kernel_rfl) (by kernel_rfl) (by kernel_rfl) CalmP.onlyN_panic (Or.inl ⟨by kernel_rfl, ?_⟩) (by assumption) ?_
  rotate_left
  · (intro w_ hSw; go_simp; try with_reducible rfl)
  try simp only [List.getElem_toArray, List.getElem_cons_succ, List.getElem_cons_zero, Act.put, List.setIfInBounds_toArray, List.set_cons_zero, List.set_cons_succ]
  refine wpAnyH_take (i := 3) (v := ?_) rfl (by kernel_rfl) (by kernel_rfl) (by kernel_rfl) CalmP.onlyN_panic (Or.inl ⟨by kernel_rfl, ?_⟩) (by assumption) ?_
  rotate_left
  · (intro w_ hSw; go_simp; try with_reducible rfl)
  try simp only [List.getElem_toArray, List.getElem_cons_succ, List.getElem_cons_zero, Act.put, List.setIfInBounds_toArray, List.set_cons_zero, List.set_cons_succ]
  refine wpAnyH_take (i := 4) (v := ?_) rfl (by kernel_rfl) (by kernel_rfl) (by kernel_rfl) CalmP.onlyN_panic (Or.inl ⟨by kernel_rfl, ?_⟩) (by assumption) ?_
  rotate_left
  · (intro w_ hSw; go_simp; try with_reducible rfl)
  try simp only [List.getElem_toArray, List.getElem_cons_succ, List.getElem_cons_zero, Act.put, List.setIfInBounds_toArray, List.set_cons_zero, List.set_cons_succ]
  refine wpAnyH_take (i := 5) (v := ?_) rfl (by kernel_rfl) (by kernel_rfl) (by kernel_rfl) CalmP.onlyN_panic (Or.inl ⟨by kernel_rfl, ?_⟩) (by assumption) ?_
  rotate_left
  · (intro w_ hSw; go_simp; try with_reducible rfl)
  try simp only [List.getElem_toArray, List.getElem_cons_succ, List.getElem_cons_zero, Act.put, List.setIfInBounds_toArray, List.set_cons_zero, List.set_cons_succ]
  refine wpAnyH_ready (rs := [6]) (by kernel_rfl) (by simp) ?_
  refine AllReadyH.cons rfl (fun K_ hK => ?_) (AllReadyH.nil)
  go_simp
  have q2 := linkfeed_any s r1 Bf d1 [] A n cap w1.heap.size ys w1.drew (hs1.drewN 1) (y1.drewN 1) (Nat.le_refl _) (by omega) hnc
  rw [show min n (Bf - ([] : List UInt8).length) = n by simp; omega, List.nil_append, List.take_of_length_le (by omega)] at q2
  refine q2.mono ?_
  rintro e w3 ⟨rfl, d', hs3, hd3, g3⟩
  have st3 : Stay w w3 [some r1] := st1.trans ((Stay.drewN (w := w1) 1 []).trans (Stay.of_grown g3))
  have hx3 := hx.stay st3 (by simp; omega)
  have ba3 : Box w3 ga _ := (ba.below (below_drewN (k := 1) (Below.refl _ _))).grown_ g3 (by simp; have := hs.2.1.lt; omega)
  refine hK.out _ _ ⟨(hx3.2 0 _ rfl).1, ba3.four.2.2.2⟩ (fun hHeld => ?_)
  clear hK K_
  try simp only [List.getElem_toArray, List.getElem_cons_succ, List.getElem_cons_zero, Act.put, List.setIfInBounds_toArray, List.set_cons_zero, List.set_cons_succ]
  refine wpAnyH_take (i := 7) (v := ?_) rfl (by kernel_rfl) (by kernel_rfl) (by kernel_rfl) CalmP.onlyN_panic (Or.inl ⟨by kernel_rfl, ?_⟩) (by assumption) ?_
  rotate_left
  · (intro w_ hSw; go_simp; try with_reducible rfl)
  try simp only [List.getElem_toArray, List.getElem_cons_succ, List.getElem_cons_zero, Act.put, List.setIfInBounds_toArray, List.set_cons_zero, List.set_cons_succ]
  refine wpAnyH_done (by kernel_rfl) ?_ _
  refine CalmP.onlyN_here (hQ.out _ _ ?_)
  clear hQ K0
  obtain ⟨c4, f4⟩ := hx3.2 4 _ rfl
  have hcl3 := hx3.1
  have hz1 : w.heap.size ≤ w1.heap.size := b0.size
  have hxF := hx3.set (k := 4) (x := .int .i64 0) (by simp)
  simp only [List.set_cons_succ, List.set_cons_zero] at hxF
  have st3F : Stay w3 (w3.setCell ⟨c, 4, none⟩ (.int .i64 0)) [some c] := (Stay.refl w3 [some c]).set (by simp)
  have stF : Stay w (w3.setCell ⟨c, 4, none⟩ (.int .i64 0)) [some r1, some c] := st3.trans st3F
  have hd' : ∀ g, d' = some g → c < g := fun g hg => by
    rcases hd3 with hh | hh
    · exact hd1 g (hh ▸ hg)
    · have : w1.heap.size ≤ g := hh g hg
      omega
  have FIN : ConnA (w3.setCell ⟨c, 4, none⟩ (.int .i64 0)) p c s r1 r2 Bf ys [] false 0 turn ∧ Below (p + 1) w (w3.setCell ⟨c, 4, none⟩ (.int .i64 0)) :=
    ⟨⟨hxF, ⟨d', side_kept hs3 st3F (by simp; omega) (by simp; omega) (fun g hg => by have := hd' g hg; simp; omega), hd'⟩, ⟨d2, ring_stay hr stF (by simp; omega), hd2⟩, ho⟩, stF.below (by simp; omega) hlt⟩
  have i1 : (0 : Int) < (n : Int) := by omega
  clear c0 c3 a0 a1 a2 a3 q1 q2
  go_wp2_with fail
  go_ret3
  exact ⟨rfl, FIN⟩
set_option maxRecDepth 100000 in
set_option maxHeartbeats 1600000 in
theorem gtact_drain (g0 p mb c s r2 Bf : Nat) (T idle turn : Int) (os : List UInt8) (w : World) (hG : GateC w g0 p mb c Bf T) (h : ConnC w p c s r2 Bf os idle turn) (hos : os.length ≤ 1000) :
    Calls Tryz.prog 15 #[.pointer (some ⟨p, 0, none⟩), .agg #[.int .i64 6, .int .i64 0, .int .i64 1000, .slice none 0 0]] w fun e w' => ∃ A cap, e = .returned (.tuple #[.int .i64 0, .slice A os.length cap, .int .i64 0]) ∧ w'.ownsRow w.heap.size 5 1 (.slice A os.length cap) os.length (bcells os) ∧ os.length ≤ cap ∧ (∃ idle', ConnC w' p c s r2 Bf [] idle' turn) ∧ Below (p + 1) w w' := by
  have hlt := hG.lt
  have hBf := hG.o4
  have hpc := hG.o3
  obtain ⟨ga, hga⟩ : ∃ ga, w.heap.size = ga := ⟨_, rfl⟩
  have ba := Box.new w #[.int .i64 6, .int .i64 0, .int .i64 1000, .slice none 0 0] 39
  have b0 : Below w.heap.size w (w.alloc (.cells #[.int .i64 6, .int .i64 0, .int .i64 1000, .slice none 0 0] 39)) := (Below.refl _ _).alloc (Nat.le_refl _) _
  rw [hga] at ba
  have hG1 := hG.below (b0.mono hlt)
  have st1 : Stay w _ [] := Stay.of_below [] b0
  obtain ⟨hx, ⟨d2, hr, hd2⟩, ho⟩ := h
  have hx1 := hx.stay st1 (by simp)
  have hr1 := ring_kept hr st1 (by simp) (by simp)
  have hcl := hx.1
  have hrl := hr.lt
  go_enter Tryz.func15, Tryz.ntmps15
  go_upto_region 1 with (fail)
  generalize w.alloc _ = w1 at ba b0 hG1 st1 hx1 hr1 ⊢
  obtain ⟨a0, a1, a2, a3⟩ := ba.four
  have q1 := gtget_any g0 p mb c Bf T w1 hG1
  obtain ⟨c1, -⟩ := hx1.2 1 _ rfl
  go_wp2_with fail
  refine q1.mono ?_
  rintro e w2 ⟨rfl, rfl⟩
  go_upto_region 18 with (fail)
  refine CalmP.hideN (fun K0 hQ => ?_)
  refine wp_region_held_drew (S := (fun W : World => (W.cell? ⟨c, 1, none⟩ = some (.pointer (some ⟨r2, 0, none⟩)) ∧ W.cell? ⟨ga, 2, none⟩ = some (.int .i64 1000)))) (by kernel_rfl) ⟨c1, a2⟩ (fun hHeld => ?_)
  refine wpAnyH_take (i := 0) (v := ?_) rfl (by kernel_rfl) (by kernel_rfl) (by kernel_rfl) CalmP.onlyN_panic (Or.inl ⟨by kernel_rfl, ?_⟩) (by assumption) ?_
  rotate_left
  · (intro w_ hSw; go_simp; try with_reducible rfl)
  try simp only [List.getElem_toArray, List.getElem_cons_succ, List.getElem_cons_zero, Act.put, List.setIfInBounds_toArray, List.set_cons_zero, List.set_cons_succ]
  refine wpAnyH_take (i := 1) (v := ?_) rfl (by kernel_rfl) (by kernel_rfl) (by kernel_rfl) CalmP.onlyN_panic (Or.inl ⟨by kernel_rfl, ?_⟩) (by assumption) ?_
  rotate_left
  · (intro w_ hSw; go_simp; try with_reducible rfl)
  try simp only [List.getElem_toArray, List.getElem_cons_succ, List.getElem_cons_zero, Act.put, List.setIfInBounds_toArray, List.set_cons_zero, List.set_cons_succ]
  refine wpAnyH_take (i := 2) (v := ?_) rfl (by kernel_rfl) (by kernel_rfl) (by kernel_rfl) CalmP.onlyN_panic (Or.inl ⟨by kernel_rfl, ?_⟩) (by assumption) ?_
  rotate_left
  · (intro w_ hSw; go_simp; try with_reducible rfl)
  try simp only [List.getElem_toArray, List.getElem_cons_succ, List.getElem_cons_zero, Act.put, List.setIfInBounds_toArray, List.set_cons_zero, List.set_cons_succ]
  refine wpAnyH_take (i := 3) (v := ?_) rfl (by kernel_rfl) (by kernel_rfl) (by kernel_rfl) CalmP.onlyN_panic (Or.inl ⟨by kernel_rfl, ?_⟩) (by assumption) ?_
  rotate_left
  · (intro w_ hSw; go_simp; try with_reducible rfl)
  try simp only [List.getElem_toArray, List.getElem_cons_succ, List.getElem_cons_zero, Act.put, List.setIfInBounds_toArray, List.set_cons_zero, List.set_cons_succ]
  refine wpAnyH_take (i := 4) (v := ?_) rfl (by kernel_rfl) (by kernel_rfl) (by kernel_rfl) CalmP.onlyN_panic (Or.inl ⟨by kernel_rfl, ?_⟩) (by assumption) ?_
  rotate_left
  · (intro w_ hSw; go_simp; try with_reducible rfl)
  try simp only [List.getElem_toArray, List.getElem_cons_succ, List.getElem_cons_zero, Act.put, List.setIfInBounds_toArray, List.set_cons_zero, List.set_cons_succ]
  refine wpAnyH_take (i := 5) (v := ?_) rfl (by kernel_rfl) (by kernel_rfl) (by kernel_rfl) CalmP.onlyN_panic (Or.inl ⟨by kernel_rfl, ?_⟩) (by assumption) ?_
  rotate_left
  · (intro w_ hSw; go_simp; try with_reducible rfl)
  try simp only [List.getElem_toArray, List.getElem_cons_succ, List.getElem_cons_zero, Act.put, List.setIfInBounds_toArray, List.set_cons_zero, List.set_cons_succ]
  refine wpAnyH_ready (rs := [6]) (by kernel_rfl) (by simp) ?_
  refine AllReadyH.cons rfl (fun K_ hK => ?_) (AllReadyH.nil)
  go_simp
  have q2 := popB r2 os.length (Bf + 512) d2 1000 (bcells os) w1.drew (hr1.drewN 1) (by omega) (bcells_one _) os.length (by omega)
  rw [Nat.mul_one, Nat.sub_self, show (bcells os).take os.length = bcells os from List.take_of_length_le (by rw [bcells_length]; exact Nat.le_refl _), show (bcells os).drop os.length = [] from List.drop_of_length_le (by rw [bcells_length]; exact Nat.le_refl _)] at q2
  refine q2.mono ?_
  rintro e w3 ⟨A3, c3, rfl, o3, hr3, g3⟩
  have st3 : Stay w w3 [some r2] := st1.trans ((Stay.drewN (w := w1) 1 []).trans (Stay.of_grown g3))
  have hx3 := hx.stay st3 (by simp; omega)
  have ba3 : Box w3 ga _ := (ba.below (below_drewN (k := 1) (Below.refl _ _))).grown_ g3 (by simp; omega)
  refine hK.out _ _ ⟨(hx3.2 1 _ rfl).1, ba3.four.2.2.1⟩ (fun hHeld => ?_)
  clear hK K_
  try simp only [List.getElem_toArray, List.getElem_cons_succ, List.getElem_cons_zero, Act.put, List.setIfInBounds_toArray, List.set_cons_zero, List.set_cons_succ]
  refine wpAnyH_take (i := 7) (v := ?_) rfl (by kernel_rfl) (by kernel_rfl) (by kernel_rfl) CalmP.onlyN_panic (Or.inl ⟨by kernel_rfl, ?_⟩) (by assumption) ?_
  rotate_left
  · (intro w_ hSw; go_simp; try with_reducible rfl)
  try simp only [List.getElem_toArray, List.getElem_cons_succ, List.getElem_cons_zero, Act.put, List.setIfInBounds_toArray, List.set_cons_zero, List.set_cons_succ]
  refine wpAnyH_done (by kernel_rfl) ?_ _
  refine CalmP.onlyN_here (hQ.out _ _ ?_)
  clear hQ K0
  clear hga
  obtain ⟨c4, f4⟩ := hx3.2 4 _ rfl
  have hcl3 := hx3.1
  have hz1 : w.heap.size ≤ w1.heap.size := b0.size
  have o3' : w3.ownsRow w.heap.size 5 1 (.slice A3 os.length c3) os.length (bcells os) := own_lower o3 hz1
  obtain ⟨_, _, hv, hnc3, -⟩ := own_shape0 o3'
  cases hv
  by_cases h0 : os.length = 0
  · have FIN : ∃ A cap, Ending.returned (.tuple #[.int .i64 0, .slice A3 os.length c3, .int .i64 0]) = .returned (.tuple #[.int .i64 0, .slice A os.length cap, .int .i64 0]) ∧ w3.ownsRow w.heap.size 5 1 (.slice A os.length cap) os.length (bcells os) ∧ os.length ≤ cap ∧ (∃ idle', ConnC w3 p c s r2 Bf [] idle' turn) ∧ Below (p + 1) w w3 :=
      ⟨A3, c3, rfl, o3', hnc3, ⟨idle, hx3, ⟨d2, hr3, hd2⟩, ho⟩, st3.below (by simp; omega) hlt⟩
    have HF := hide FIN
    have i1 : ¬ (0 : Int) < (os.length : Int) := by omega
    obtain ⟨m, hm⟩ : ∃ m, m = os.length := ⟨_, rfl⟩
    rw [← hm] at HF i1 ⊢
    have HM := hide hm
    clear FIN o3 o3' q2 c1 a0 a1 a2 a3 q1 h0 hos hm hnc3 hr3
    go_wp2_with fail
    go_ret3
    have hm' := HM.out
    subst hm'
    exact HF.out
  · have hxF := hx3.set (k := 4) (x := .int .i64 0) (by simp)
    simp only [List.set_cons_succ, List.set_cons_zero] at hxF
    have st3F : Stay w3 (w3.setCell ⟨c, 4, none⟩ (.int .i64 0)) [some c] := (Stay.refl w3 [some c]).set (by simp)
    have stF : Stay w (w3.setCell ⟨c, 4, none⟩ (.int .i64 0)) [some r2, some c] := st3.trans st3F
    have gF : w3.grownBy (w3.setCell ⟨c, 4, none⟩ (.int .i64 0)) (some c) := grown_set (World.grownBy.refl w3 (some c)) 4 (.int .i64 0)
    have FIN : ∃ A cap, Ending.returned (.tuple #[.int .i64 0, .slice A3 os.length c3, .int .i64 0]) = .returned (.tuple #[.int .i64 0, .slice A os.length cap, .int .i64 0]) ∧ (w3.setCell ⟨c, 4, none⟩ (.int .i64 0)).ownsRow w.heap.size 5 1 (.slice A os.length cap) os.length (bcells os) ∧ os.length ≤ cap ∧ (∃ idle', ConnC (w3.setCell ⟨c, 4, none⟩ (.int .i64 0)) p c s r2 Bf [] idle' turn) ∧ Below (p + 1) w (w3.setCell ⟨c, 4, none⟩ (.int .i64 0)) :=
      ⟨A3, c3, rfl, o3'.kept gF (by rcases o3'.2 with ⟨hh, -⟩ | ⟨a, _, _, hh, ha, -⟩; simp at hh; omega; right; simp at hh; rw [hh.1]; simp [Value.ownBlock]; omega), hnc3, ⟨0, hxF, ⟨d2, ring_stay hr3 st3F (by simp; omega), hd2⟩, ho⟩, stF.below (by simp; omega) hlt⟩
    have HF := hide FIN
    have i1 : (0 : Int) < (os.length : Int) := by omega
    obtain ⟨m, hm⟩ : ∃ m, m = os.length := ⟨_, rfl⟩
    rw [← hm] at HF i1 ⊢
    have HM := hide hm
    clear FIN o3 o3' q2 c1 a0 a1 a2 a3 q1 h0 hos hm hnc3 hr3
    go_wp2_with fail
    go_ret3
    have hm' := HM.out
    subst hm'
    exact HF.out
set_option maxRecDepth 100000 in
set_option maxHeartbeats 1600000 in
/-- An act of a connection, then work. -/
theorem gtdo_act (p : Nat) (ak aN : Int) (A : Option Addr) (n cap : Nat) (w : World) (P R : Value → Value → Value → World → Prop) (hk1 : ¬ ak = 1) (hk8 : ¬ ak = 8) (hN : 0 ≤ aN)
    (qa : ∀ W, Below w.heap.size w W → Calls Tryz.prog 15 #[.pointer (some ⟨p, 0, none⟩), .agg #[.int .i64 ak, .int .i64 0, .int .i64 aN, .slice A n cap]] W fun e w' => ∃ v0 v1 v2, e = .returned (.tuple #[v0, v1, v2]) ∧ P v0 v1 v2 w')
    (qw : ∀ v0 v1 v2 W, P v0 v1 v2 W → Calls Tryz.prog 16 #[.pointer (some ⟨p, 0, none⟩)] W fun e w' => e = .returned (.tuple #[]) ∧ R v0 v1 v2 w') :
    Calls Tryz.prog 8 #[.pointer (some ⟨p, 0, none⟩), .agg #[.int .i64 ak, .int .i64 0, .int .i64 aN, .slice A n cap]] w fun e w' => ∃ v0 v1 v2, e = .returned (.tuple #[v0, v1, v2]) ∧ R v0 v1 v2 w' := by
  have ba := Box.new w #[.int .i64 ak, .int .i64 0, .int .i64 aN, .slice A n cap] 39
  have b0 : Below w.heap.size w (w.alloc (.cells #[.int .i64 ak, .int .i64 0, .int .i64 aN, .slice A n cap] 39)) := (Below.refl _ _).alloc (Nat.le_refl _) _
  have q1 := qa _ b0
  obtain ⟨ga, hga⟩ : ∃ ga, w.heap.size = ga := ⟨_, rfl⟩
  rw [hga] at ba
  have i1 : (ak == 1) = false := by rw [beq_eq_false_iff_ne]; exact hk1
  have i8 : (ak == 8) = false := by rw [beq_eq_false_iff_ne]; exact hk8
  have i0 : ¬ aN < 0 := by omega
  clear qa b0
  go_enter Tryz.func8, Tryz.ntmps8
  go_upto_region 1 with (fail)
  generalize w.alloc _ = w1 at ba q1 ⊢
  obtain ⟨a0, a1, a2, a3⟩ := ba.four
  clear hga
  go_wp2_with fail
  refine q1.mono ?_
  rintro e w2 ⟨v0, v1, v2, rfl, hP⟩
  have q2 := qw v0 v1 v2 w2 hP
  clear q1 qw a0 a1 a2 a3
  go_wp2_with fail
  refine q2.mono ?_
  rintro e w3 ⟨rfl, hR⟩
  have HR := hide hR
  clear hR hP q2
  go_wp2_with fail
  go_ret3
  exact ⟨v0, v1, v2, rfl, HR.out⟩
set_option maxRecDepth 100000 in
set_option maxHeartbeats 3200000 in
/-- Time goes by, then work. -/
theorem gtdo_tick (g0 p mb c Bf : Nat) (T aN : Int) (w : World) (M R : World → Prop) (hG : GateC w g0 p mb c Bf T) (hN : 0 ≤ aN)
    (qt : ∀ W, Below w.heap.size w W → Calls Tryz.prog 14 #[.pointer (some ⟨c, 0, none⟩), .int .i64 (min aN 1073741824), .int .i64 T] W fun e w' => e = .returned (.tuple #[]) ∧ M w' ∧ GateC w' g0 p mb c Bf T ∧ ∀ g cs, w.heap.size ≤ g → Box W g cs → Box w' g cs)
    (qw : ∀ W, M W → Calls Tryz.prog 16 #[.pointer (some ⟨p, 0, none⟩)] W fun e w' => e = .returned (.tuple #[]) ∧ R w') :
    Calls Tryz.prog 8 #[.pointer (some ⟨p, 0, none⟩), .agg #[.int .i64 8, .int .i64 0, .int .i64 aN, .slice none 0 0]] w fun e w' => e = .returned (.tuple #[.int .i64 0, .slice none 0 0, .int .i64 0]) ∧ R w' := by
  obtain ⟨ga, hga⟩ : ∃ ga, w.heap.size = ga := ⟨_, rfl⟩
  have wfi : ∀ z : Int, 0 ≤ z → z ≤ 64 → (Lit.int .i64 z).wf = true := fun z h1 h2 => by simp [Lit.wf, IntKind.min, IntKind.max, IntKind.signed, IntKind.bits]; omega
  have hw0 := wfi 0 (by omega) (by omega)
  have hlt := hG.lt
  have ba := Box.new w #[.int .i64 8, .int .i64 0, .int .i64 aN, .slice none 0 0] 39
  have b0 : Below w.heap.size w (w.alloc (.cells #[.int .i64 8, .int .i64 0, .int .i64 aN, .slice none 0 0] 39)) := (Below.refl _ _).alloc (Nat.le_refl _) _
  rw [hga] at ba
  have hG1 := hG.below (b0.mono hlt)
  have i0 : ¬ aN < 0 := by omega
  clear hG
  have WF := hide wfi
  clear wfi
  go_enter Tryz.func8, Tryz.ntmps8
  go_upto_region 1 with (fail)
  generalize w.alloc _ = w1 at ba b0 hG1 ⊢
  have HGA := hide hga
  clear hga
  obtain ⟨a0, a1, a2, a3⟩ := ba.four
  go_upto_region 8 with (fail)
  have hgw : ga ≤ w.heap.size := Nat.le_of_eq HGA.out.symm
  have hgw' : w.heap.size ≤ ga := Nat.le_of_eq HGA.out
  go_wp2_with fail
  go_loopw [33] (fun i W => ∃ k : Nat, k ≤ 64 ∧ i = .int .i64 k ∧ (k = 0 ∧ W = w1 ∨ 0 < k ∧ M W ∧ GateC W g0 p mb c Bf T)) (fun i _ => 64 - (intOf i).toNat)
  case atStart => exact ⟨0, by omega, rfl, .inl ⟨rfl, rfl⟩⟩
  case round =>
    obtain ⟨k, hk, rfl, hor⟩ := hrel
    by_cases hlt' : k < 64
    · have hlt2 : (k : Int) < 64 := by omega
      rcases hor with ⟨rfl, hw⟩ | ⟨hk0, hM, hGr⟩
      · obtain rfl := hw
        obtain ⟨A, cR, v1, v2, v3, v4, bp, -⟩ := hG1.ex
        obtain ⟨p6, -⟩ := bp.2 6 _ rfl
        obtain ⟨p7, -⟩ := bp.2 7 _ rfl
        have hl := hG1.map.one hw0 0 hw0
        rw [if_pos rfl] at hl
        go_upto_region 13 with (fail)
        refine CalmP.hideN (fun K0 hQ => ?_)
        refine wp_region_held_drew (S := (fun W : World => (W.cell? ⟨ga, 2, none⟩ = some (.int .i64 aN) ∧ W.cell? ⟨p, 6, none⟩ = some (.int .i64 T)))) (by kernel_rfl) ⟨a2, p6⟩ (fun hHeld => ?_)
        refine wpAnyH_take (i := 0) (v := ?_) rfl (by kernel_rfl) (by kernel_rfl) (by kernel_rfl) CalmP.onlyN_panic (Or.inl ⟨by kernel_rfl, ?_⟩) (by assumption) ?_
        rotate_left
        · (intro w_ hSw; go_simp; try with_reducible rfl)
        try simp only [List.getElem_toArray, List.getElem_cons_succ, List.getElem_cons_zero, Act.put, List.setIfInBounds_toArray, List.set_cons_zero, List.set_cons_succ]
        refine wpAnyH_take (i := 1) (v := ?_) rfl (by kernel_rfl) (by kernel_rfl) (by kernel_rfl) CalmP.onlyN_panic (Or.inl ⟨by kernel_rfl, ?_⟩) (by assumption) ?_
        rotate_left
        · (intro w_ hSw; go_simp; try with_reducible rfl)
        try simp only [List.getElem_toArray, List.getElem_cons_succ, List.getElem_cons_zero, Act.put, List.setIfInBounds_toArray, List.set_cons_zero, List.set_cons_succ]
        refine wpAnyH_take (i := 2) (v := ?_) rfl (by kernel_rfl) (by kernel_rfl) (by kernel_rfl) CalmP.onlyN_panic (Or.inl ⟨by kernel_rfl, ?_⟩) (by assumption) ?_
        rotate_left
        · (intro w_ hSw; go_simp; try with_reducible rfl)
        try simp only [List.getElem_toArray, List.getElem_cons_succ, List.getElem_cons_zero, Act.put, List.setIfInBounds_toArray, List.set_cons_zero, List.set_cons_succ]
        refine wpAnyH_take (i := 3) (v := ?_) rfl (by kernel_rfl) (by kernel_rfl) (by kernel_rfl) CalmP.onlyN_panic (Or.inl ⟨by kernel_rfl, ?_⟩) (by assumption) ?_
        rotate_left
        · (intro w_ hSw; go_simp; try with_reducible rfl)
        try simp only [List.getElem_toArray, List.getElem_cons_succ, List.getElem_cons_zero, Act.put, List.setIfInBounds_toArray, List.set_cons_zero, List.set_cons_succ]
        refine wpAnyH_take (i := 4) (v := ?_) rfl (by kernel_rfl) (by kernel_rfl) (by kernel_rfl) CalmP.onlyN_panic (Or.inl ⟨by kernel_rfl, ?_⟩) (by assumption) ?_
        rotate_left
        · (intro w_ hSw; go_simp; try with_reducible rfl)
        try simp only [List.getElem_toArray, List.getElem_cons_succ, List.getElem_cons_zero, Act.put, List.setIfInBounds_toArray, List.set_cons_zero, List.set_cons_succ]
        refine wpAnyH_take (i := 5) (v := ?_) rfl (by kernel_rfl) (by kernel_rfl) (by kernel_rfl) CalmP.onlyN_panic (Or.inl ⟨by kernel_rfl, ?_⟩) (by assumption) ?_
        rotate_left
        · (intro w_ hSw; go_simp; try with_reducible rfl)
        try simp only [List.getElem_toArray, List.getElem_cons_succ, List.getElem_cons_zero, Act.put, List.setIfInBounds_toArray, List.set_cons_zero, List.set_cons_succ]
        refine wpAnyH_take (i := 6) (v := ?_) rfl (by kernel_rfl) (by kernel_rfl) (by kernel_rfl) CalmP.onlyN_panic (Or.inl ⟨by kernel_rfl, ?_⟩) (by assumption) ?_
        rotate_left
        · (intro w_ hSw; go_simp; try with_reducible rfl)
        try simp only [List.getElem_toArray, List.getElem_cons_succ, List.getElem_cons_zero, Act.put, List.setIfInBounds_toArray, List.set_cons_zero, List.set_cons_succ]
        refine wpAnyH_take (i := 7) (v := ?_) rfl (by kernel_rfl) (by kernel_rfl) (by kernel_rfl) CalmP.onlyN_panic (Or.inl ⟨by kernel_rfl, ?_⟩) (by assumption) ?_
        rotate_left
        · (intro w_ hSw; go_simp; try with_reducible rfl)
        try simp only [List.getElem_toArray, List.getElem_cons_succ, List.getElem_cons_zero, Act.put, List.setIfInBounds_toArray, List.set_cons_zero, List.set_cons_succ]
        refine wpAnyH_take (i := 8) (v := ?_) rfl (by kernel_rfl) (by kernel_rfl) (by kernel_rfl) CalmP.onlyN_panic (Or.inl ⟨by kernel_rfl, ?_⟩) (by assumption) ?_
        rotate_left
        · (intro w_ hSw; go_simp; try with_reducible rfl)
        try simp only [List.getElem_toArray, List.getElem_cons_succ, List.getElem_cons_zero, Act.put, List.setIfInBounds_toArray, List.set_cons_zero, List.set_cons_succ]
        refine wpAnyH_ready (rs := [9]) (by kernel_rfl) (by simp) ?_
        refine AllReadyH.cons rfl (fun K_ hK => ?_) (AllReadyH.nil)
        go_simp
        refine (qt wr.drew (below_drewN (k := 1) b0)).mono ?_
        rintro e w2 ⟨rfl, hM, hG2, hbx⟩
        have ba2 := hbx ga _ hgw' (ba.below (below_drewN (k := 1) (Below.refl _ _)))
        obtain ⟨A', cR', u1, u2, u3, u4, bp2, -⟩ := hG2.ex
        refine hK.out _ _ ⟨ba2.four.2.2.1, (bp2.2 6 _ rfl).1⟩ (fun hHeld => ?_)
        clear hK K_
        try simp only [List.getElem_toArray, List.getElem_cons_succ, List.getElem_cons_zero, Act.put, List.setIfInBounds_toArray, List.set_cons_zero, List.set_cons_succ]
        refine wpAnyH_done (by kernel_rfl) ?_ _
        refine CalmP.onlyN_here (hQ.out _ _ ?_)
        clear hQ K0
        go_wp2_with fail
        go_roundw
        case rel => exact ⟨1, by omega, by go_num, .inr ⟨by omega, hM, hG2⟩⟩
        case measure => simp [intOf]
      · obtain ⟨A, cR, v1, v2, v3, v4, bp, -⟩ := hGr.ex
        obtain ⟨p7, -⟩ := bp.2 7 _ rfl
        have hl := hGr.map.one hw0 (k : Int) (WF.out k (by omega) (by omega))
        rw [if_neg (by omega)] at hl
        clear bp
        go_wp2_with fail
        go_roundw
        case rel => exact ⟨k + 1, by omega, by go_num, .inr ⟨by omega, hM, hGr⟩⟩
        case measure => simp [intOf]; omega
    · have hlt2 : ¬ (k : Int) < 64 := by omega
      rcases hor with ⟨rfl, -⟩ | ⟨hk0, hM, hGr⟩
      · omega
      have q2 := qw wr hM
      clear hGr hM
      go_wp2_with fail
      refine q2.mono ?_
      rintro e w3 ⟨rfl, hR⟩
      have HR := hide hR
      clear hR q2
      go_wp2_with fail
      go_ret3
      exact ⟨rfl, HR.out⟩
end Go.Proofs.YtijlaclngibekaaGreatDoor
