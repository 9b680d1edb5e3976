/- gate.Gate.refused and request at the law's own request. -/
import Derived.Test.YtijlaclngibekaaGreatDoorKGtStG
import Derived.Test.YtijlaclngibekaaGreatDoorKGtPure
import Derived.Test.YtijlaclngibekaaGreatDoorKRoute
namespace Go.Proofs.YtijlaclngibekaaGreatDoor
open Go.RowKit
set_option linter.unusedVariables false
set_option linter.unusedSimpArgs false

theorem Stay.fresh {w w' : World} {S T : List (Option Nat)} (h : Stay w w' S) (hS : ∀ k, some k ∈ S → some k ∈ T ∨ w.heap.size ≤ k) : Stay w w' T :=
  ⟨h.1, h.2.1, h.2.2.1, h.2.2.2.1, fun k hk hn => h.2.2.2.2 k hk (fun hm => (hS k hm).elim hn (fun h2 => absurd hk (Nat.not_lt.2 h2)))⟩
theorem frV0 : frV (0, 0, 0) = .tuple #[.agg #[.int .i64 0, .int .i64 0], .int .i64 0] := rfl
set_option maxRecDepth 100000 in
set_option maxHeartbeats 1600000 in
theorem gtrefused_27 (g : Value) (A : Option Addr) (c : Nat) (w : World) (hr : Rd w w.heap.size 2 A 1 (fcells fs27)) :
    Calls Tryz.prog 104 #[g, .agg #[.string ⟨#[71, 69, 84]⟩, .string ⟨#[47]⟩, .int .i64 1, .slice A 1 c]] w fun e w' => e = .returned (.int .i64 0) ∧ Below w.heap.size w w' := by
  obtain ⟨G, hG⟩ : ∃ g, w.heap.size = g := ⟨_, rfl⟩
  have bx := Box.new w #[.string ⟨#[71, 69, 84]⟩, .string ⟨#[47]⟩, .int .i64 1, .slice A 1 c] 80
  have ta : Below w.heap.size w (w.alloc (.cells #[.string ⟨#[71, 69, 84]⟩, .string ⟨#[47]⟩, .int .i64 1, .slice A 1 c] 80)) := (Below.refl _ _).alloc (Nat.le_refl _) _
  rw [hG] at bx ta hr ⊢
  go_enter Tryz.func104, Tryz.ntmps104
  go_upto_region 1 with (fail)
  have z0 : G ≤ (w.alloc (.cells #[.string ⟨#[71, 69, 84]⟩, .string ⟨#[47]⟩, .int .i64 1, .slice A 1 c] 80)).heap.size := by rw [← hG]; exact hG ▸ ta.size
  generalize w.alloc _ = w0 at bx ta z0 ⊢
  have r0 := hr.below ta
  obtain ⟨k0, k1, k2, k3⟩ := bx.four
  have q1 := get_any A 1 c G fs27 ⟨#[84, 114, 97, 110, 115, 102, 101, 114, 45, 69, 110, 99, 111, 100, 105, 110, 103]⟩ w0 r0 z0 (by omega) ok27 (by decide)
  rw [show getL fs27 (⟨#[84, 114, 97, 110, 115, 102, 101, 114, 45, 69, 110, 99, 111, 100, 105, 110, 103]⟩ : ByteArray).data.toList = [] from te27] at q1
  go_wp2_with fail
  refine q1.mono ?_
  rintro e w1 ⟨A1, c1, rfl, -, -, b1⟩
  have bx1 := bx.below b1
  have t1 := ta.trans (b1.mono z0)
  have z1 := Nat.le_trans z0 b1.size
  have q2 := ofreq_any ⟨#[71, 69, 84]⟩ ⟨#[47]⟩ 1 A 1 c G fs27 w1 (hr.below t1) z1 (by omega) ok27
  rw [fr27, frV0] at q2
  clear k0 k1 k2 k3 q1
  obtain ⟨k0, k1, k2, k3⟩ := bx1.four
  go_wp2_with fail
  refine q2.mono ?_
  rintro e w2 ⟨rfl, b2⟩
  have bx2 := bx1.below b2
  have t2 := t1.trans (b2.mono z1)
  have z2 := Nat.le_trans z1 b2.size
  have b3 : Below w2.heap.size w2 (w2.alloc (.cells #[.int .i64 0, .int .i64 0] 67)) := (Below.refl _ _).alloc (Nat.le_refl _) _
  have bx3 := bx2.below b3
  have t3 := t2.trans (b3.mono z2)
  have z3 := Nat.le_trans z2 b3.size
  clear k0 k1 k2 k3 q2
  go_upto_region 5 with (fail)
  generalize w2.alloc _ = w3 at bx3 t3 z3 ⊢
  obtain ⟨k0, k1, k2, k3⟩ := bx3.four
  have q3 := routehost_one ⟨#[71, 69, 84]⟩ ⟨#[47]⟩ 1 A 1 c fs27 [97] w3 ((hr.below t3).mono z3) (by omega) ok27 host27 (by decide) (by decide)
  go_wp2_with fail
  refine q3.mono ?_
  rintro e w4 ⟨rfl, b4⟩
  go_wp2_with fail
  go_ret
  exact ⟨rfl, t3.trans (b4.mono z3)⟩
theorem bufN_is {n : Nat} (h : 16384 ≤ n ∧ n ≤ 32768) : bufN (n : Int) = n := by unfold bufN; omega
theorem most_is {n : Nat} (h : n ≤ 65536) : most (n : Int) = n := by unfold most; omega
set_option maxRecDepth 100000 in
set_option maxHeartbeats 3200000 in
theorem gtrequest_27 (g0 p mb c s r1 r2 Bf : Nat) (T idle turn mx : Int) (A : Option Addr) (cc : Nat) (w : World) (hG : GateC w g0 p mb c Bf T) (h : ConnA w p c s r1 r2 Bf [] [] false idle turn) (hb : Rd w w.heap.size 1 A 27 (bcells b27)) (ht : 0 ≤ turn ∧ turn ≤ 1000) (hm : w.cell? ⟨1, 0, none⟩ = some (.int .i64 mx)) :
    Calls Tryz.prog 82 #[.pointer (some ⟨p, 0, none⟩), .pointer (some ⟨c, 0, none⟩), .slice A 27 cc] w fun e w' => e = .returned (.tuple #[]) ∧ (∃ x s3 r3 r4 b, ConnB w' p c s r1 r2 x s3 r3 r4 b Bf false idle (turn + 1)) ∧ Below (p + 1) w w' := by
  obtain ⟨G, hGs⟩ : ∃ g, w.heap.size = g := ⟨_, rfl⟩
  have hlt := hG.lt
  have q1 := parsereq_any A 27 cc w.heap.size b27 mx w hb (Nat.le_refl _) (by omega) hm
  rw [req27.1, req27.2.1, req27.2.2.1, req27.2.2.2.1, req27.2.2.2.2] at q1
  simp only [show fs27.length = 1 from rfl] at q1
  clear hb hm
  go_enter Tryz.func82, Tryz.ntmps82
  go_wp2_with fail
  refine q1.mono ?_
  rintro e w1 ⟨A1, c1, rfl, rf, b1⟩
  rw [hGs] at b1
  have z1 : G ≤ w1.heap.size := hGs ▸ b1.size
  obtain ⟨g1, hg1⟩ : ∃ g, w1.heap.size = g := ⟨_, rfl⟩
  have bx := Box.new w1 #[.string ⟨#[71, 69, 84]⟩, .string ⟨#[47]⟩, .int .i64 1, .slice A1 1 c1] 80
  have ta : Below g1 w1 (w1.alloc (.cells #[.string ⟨#[71, 69, 84]⟩, .string ⟨#[47]⟩, .int .i64 1, .slice A1 1 c1] 80)) := (Below.refl _ _).alloc (Nat.le_of_eq hg1.symm) _
  rw [hg1] at bx rf z1
  clear q1
  go_upto_region 1 with (fail)
  have z2 : g1 ≤ (w1.alloc (.cells #[.string ⟨#[71, 69, 84]⟩, .string ⟨#[47]⟩, .int .i64 1, .slice A1 1 c1] 80)).heap.size := hg1 ▸ ta.size
  have rf2 := rf.below ta
  have t2 : Below G w _ := b1.trans (ta.mono z1)
  generalize w1.alloc (.cells #[.string ⟨#[71, 69, 84]⟩, .string ⟨#[47]⟩, .int .i64 1, .slice A1 1 c1] 80) = w2 at bx rf2 z2 t2 ⊢
  clear ta rf b1 hg1
  obtain ⟨k0, k1, k2, k3⟩ := bx.four
  go_wp2_with fail
  refine (gtrefused_27 (.pointer (some ⟨p, 0, none⟩)) A1 c1 w2 (rf2.mono z2)).mono ?_
  rintro e w3 ⟨rfl, b3⟩
  have bx3 := bx.below b3
  have rf3 := rf2.below (b3.mono z2)
  have t3 := t2.trans (b3.mono (Nat.le_trans z1 z2))
  have z3 := Nat.le_trans z2 b3.size
  have q2 := ofreq_any ⟨#[71, 69, 84]⟩ ⟨#[47]⟩ 1 A1 1 c1 g1 fs27 w3 rf3 z3 (by omega) ok27
  rw [fr27, frV0] at q2
  clear k0 k1 k2 k3 b3 bx rf2 t2 z2
  obtain ⟨k0, k1, k2, k3⟩ := bx3.four
  go_wp2_with fail
  refine q2.mono ?_
  rintro e w4 ⟨rfl, b4⟩
  have bx4 := bx3.below b4
  have rf4 := rf3.below (b4.mono z3)
  have t4 := t3.trans (b4.mono (Nat.le_trans z1 z3))
  have z4 := Nat.le_trans z3 b4.size
  have b5 : Below w4.heap.size w4 (w4.alloc (.cells #[.int .i64 0, .int .i64 0] 67)) := (Below.refl _ _).alloc (Nat.le_refl _) _
  have bf := Box.new w4 #[.int .i64 0, .int .i64 0] 67
  have bx5 := bx4.below b5
  have rf5 := rf4.below (b5.mono z4)
  have t5 := t4.trans (b5.mono (Nat.le_trans z1 z4))
  have z5 := Nat.le_trans z4 b5.size
  obtain ⟨g2, hg2⟩ : ∃ g, w4.heap.size = g := ⟨_, rfl⟩
  rw [hg2] at bf z4
  clear k0 k1 k2 k3 b4 bx4 rf4 t4 b5 q2 bx3 rf3 t3 z3
  go_upto_region 9 with (fail)
  generalize w4.alloc _ = w5 at bx5 rf5 t5 z5 bf ⊢
  obtain ⟨k0, k1, k2, k3⟩ := bx5.four
  have q3 := routehost_one ⟨#[71, 69, 84]⟩ ⟨#[47]⟩ 1 A1 1 c1 fs27 [97] w5 (rf5.mono z5) (by omega) ok27 host27 (by decide) (by decide)
  rw [show lowL [97] = [97] by decide] at q3
  go_wp2_with fail
  refine q3.mono ?_
  rintro e w6 ⟨rfl, b6⟩
  have bx6 := bx5.below b6
  have bf6 := bf.below b6
  have rf6 := rf5.below (b6.mono z5)
  have t6 := t5.trans (b6.mono (Nat.le_trans z1 z5))
  have z6 := Nat.le_trans z5 b6.size
  clear k0 k1 k2 k3 bx5 bf rf5 t5 b6 q3 z5
  obtain ⟨k0, k1, k2, k3⟩ := bx6.four
  obtain ⟨kb, hkb⟩ : ∃ kb, kb = keepsB 1 fs27 := ⟨_, rfl⟩
  have q4 := keeps_any 1 A1 1 c1 g1 fs27 w6 rf6 z6 (by omega) ok27
  rw [← hkb] at q4
  clear hkb
  go_wp2_with fail
  refine q4.mono ?_
  rintro e w7 ⟨rfl, b7⟩
  have bx7 := bx6.below b7
  have bf7 := bf6.below b7
  have rf7 := rf6.below (b7.mono z6)
  have t7 := t6.trans (b7.mono (Nat.le_trans z1 z6))
  have z7 := Nat.le_trans z6 b7.size
  clear k0 k1 k2 k3 bx6 bf6 rf6 t6 b7 q4 z6
  have hpG : p + 1 ≤ G := hGs ▸ hlt
  have hgG : g0 ≤ w7.heap.size := by have := hG.o1; have := hG.o2; have := z1; omega
  have hG7 := hG.below (t7.mono hpG)
  obtain ⟨⟨AR, cR, v1, v2, v3, v4, bp, rdR⟩, -⟩ := id hG7
  obtain ⟨p0, -⟩ := bp.2 0 _ rfl
  obtain ⟨p5, -⟩ := bp.2 5 _ rfl
  obtain ⟨k0, k1, k2, k3⟩ := bx7.four
  go_upto_region 11 with (fail)
  refine CalmP.hideN (fun K0 hQ => ?_)
  refine wp_region_held_drew (S := (fun W : World => (W.cell? ⟨p, 0, none⟩ = some (.slice AR 1 cR) ∧ W.cell? ⟨g1, 1, none⟩ = some (.string ⟨#[47]⟩)))) (by kernel_rfl) ⟨p0, k1⟩ (fun hHeld => ?_)
  refine wpAnyH_take (i := 0) (v := ?_) rfl (by kernel_rfl) (by kernel_rfl) (by kernel_rfl) CalmP.onlyN_panic (Or.inl ⟨by kernel_rfl, ?_⟩) (by assumption) ?_
  rotate_left
  · (intro w_ hSw; go_simp; try with_reducible rfl)
  try simp only [List.getElem_toArray, List.getElem_cons_succ, List.getElem_cons_zero, Act.put, List.setIfInBounds_toArray, List.set_cons_zero, List.set_cons_succ]
  refine wpAnyH_take (i := 1) (v := ?_) rfl (by kernel_rfl) (by kernel_rfl) (by kernel_rfl) CalmP.onlyN_panic (Or.inl ⟨by kernel_rfl, ?_⟩) (by assumption) ?_
  rotate_left
  · (intro w_ hSw; go_simp; try with_reducible rfl)
  try simp only [List.getElem_toArray, List.getElem_cons_succ, List.getElem_cons_zero, Act.put, List.setIfInBounds_toArray, List.set_cons_zero, List.set_cons_succ]
  refine wpAnyH_take (i := 2) (v := ?_) rfl (by kernel_rfl) (by kernel_rfl) (by kernel_rfl) CalmP.onlyN_panic (Or.inl ⟨by kernel_rfl, ?_⟩) (by assumption) ?_
  rotate_left
  · (intro w_ hSw; go_simp; try with_reducible rfl)
  try simp only [List.getElem_toArray, List.getElem_cons_succ, List.getElem_cons_zero, Act.put, List.setIfInBounds_toArray, List.set_cons_zero, List.set_cons_succ]
  refine wpAnyH_take (i := 3) (v := ?_) rfl (by kernel_rfl) (by kernel_rfl) (by kernel_rfl) CalmP.onlyN_panic (Or.inl ⟨by kernel_rfl, ?_⟩) (by assumption) ?_
  rotate_left
  · (intro w_ hSw; go_simp; try with_reducible rfl)
  try simp only [List.getElem_toArray, List.getElem_cons_succ, List.getElem_cons_zero, Act.put, List.setIfInBounds_toArray, List.set_cons_zero, List.set_cons_succ]
  refine wpAnyH_take (i := 4) (v := ?_) rfl (by kernel_rfl) (by kernel_rfl) (by kernel_rfl) CalmP.onlyN_panic (Or.inl ⟨by kernel_rfl, ?_⟩) (by assumption) ?_
  rotate_left
  · (intro w_ hSw; go_simp; try with_reducible rfl)
  try simp only [List.getElem_toArray, List.getElem_cons_succ, List.getElem_cons_zero, Act.put, List.setIfInBounds_toArray, List.set_cons_zero, List.set_cons_succ]
  refine wpAnyH_take (i := 5) (v := ?_) rfl (by kernel_rfl) (by kernel_rfl) (by kernel_rfl) CalmP.onlyN_panic (Or.inl ⟨by kernel_rfl, ?_⟩) (by assumption) ?_
  rotate_left
  · (intro w_ hSw; go_simp; try with_reducible rfl)
  try simp only [List.getElem_toArray, List.getElem_cons_succ, List.getElem_cons_zero, Act.put, List.setIfInBounds_toArray, List.set_cons_zero, List.set_cons_succ]
  refine wpAnyH_take (i := 6) (v := ?_) rfl (by kernel_rfl) (by kernel_rfl) (by kernel_rfl) CalmP.onlyN_panic (Or.inl ⟨by kernel_rfl, ?_⟩) (by assumption) ?_
  rotate_left
  · (intro w_ hSw; go_simp; try with_reducible rfl)
  try simp only [List.getElem_toArray, List.getElem_cons_succ, List.getElem_cons_zero, Act.put, List.setIfInBounds_toArray, List.set_cons_zero, List.set_cons_succ]
  refine wpAnyH_take (i := 7) (v := ?_) rfl (by kernel_rfl) (by kernel_rfl) (by kernel_rfl) CalmP.onlyN_panic (Or.inl ⟨by kernel_rfl, ?_⟩) (by assumption) ?_
  rotate_left
  · (intro w_ hSw; go_simp; try with_reducible rfl)
  try simp only [List.getElem_toArray, List.getElem_cons_succ, List.getElem_cons_zero, Act.put, List.setIfInBounds_toArray, List.set_cons_zero, List.set_cons_succ]
  refine wpAnyH_ready (rs := [8]) (by kernel_rfl) (by simp) ?_
  refine AllReadyH.cons rfl (fun K_ hK => ?_) (AllReadyH.nil)
  go_simp
  refine (routefind_one AR cR 1 ⟨#[97]⟩ ⟨#[47]⟩ [] g0 w7.drew (rdR.drewN 1) hgG rfl).mono ?_
  rintro e w8 ⟨rfl, b8⟩
  have b8' : Below w7.heap.size w7 w8 := (below_drewN (k := 1) (Below.refl _ _)).trans b8
  have bx8 := bx7.below b8'
  have bf8 := bf7.below b8'
  have bp8 := bp.below b8'
  have rf8 := rf7.below (b8'.mono z7)
  have t8 := t7.trans (b8'.mono (Nat.le_trans z1 z7))
  have z8 := Nat.le_trans z7 b8'.size
  refine hK.out _ _ ⟨(bp8.2 0 _ rfl).1, (bx8.2 1 _ rfl).1⟩ (fun hHeld => ?_)
  clear hK K_
  try simp only [List.getElem_toArray, List.getElem_cons_succ, List.getElem_cons_zero, Act.put, List.setIfInBounds_toArray, List.set_cons_zero, List.set_cons_succ]
  refine wpAnyH_take (i := 9) (v := ?_) rfl (by kernel_rfl) (by kernel_rfl) (by kernel_rfl) CalmP.onlyN_panic (Or.inl ⟨by kernel_rfl, ?_⟩) (by assumption) ?_
  rotate_left
  · (intro w_ hSw; go_simp; try with_reducible rfl)
  try simp only [List.getElem_toArray, List.getElem_cons_succ, List.getElem_cons_zero, Act.put, List.setIfInBounds_toArray, List.set_cons_zero, List.set_cons_succ]
  refine wpAnyH_take (i := 10) (v := ?_) rfl (by kernel_rfl) (by kernel_rfl) (by kernel_rfl) CalmP.onlyN_panic (Or.inl ⟨by kernel_rfl, ?_⟩) (by assumption) ?_
  rotate_left
  · (intro w_ hSw; go_simp; try with_reducible rfl)
  try simp only [List.getElem_toArray, List.getElem_cons_succ, List.getElem_cons_zero, Act.put, List.setIfInBounds_toArray, List.set_cons_zero, List.set_cons_succ]
  refine wpAnyH_take (i := 11) (v := ?_) rfl (by kernel_rfl) (by kernel_rfl) (by kernel_rfl) CalmP.onlyN_panic (Or.inl ⟨by kernel_rfl, ?_⟩) (by assumption) ?_
  rotate_left
  · (intro w_ hSw; go_simp; try with_reducible rfl)
  try simp only [List.getElem_toArray, List.getElem_cons_succ, List.getElem_cons_zero, Act.put, List.setIfInBounds_toArray, List.set_cons_zero, List.set_cons_succ]
  refine wpAnyH_take (i := 12) (v := ?_) rfl (by kernel_rfl) (by kernel_rfl) (by kernel_rfl) CalmP.onlyN_panic (Or.inl ⟨by kernel_rfl, ?_⟩) (by assumption) ?_
  rotate_left
  · (intro w_ hSw; go_simp; try with_reducible rfl)
  try simp only [List.getElem_toArray, List.getElem_cons_succ, List.getElem_cons_zero, Act.put, List.setIfInBounds_toArray, List.set_cons_zero, List.set_cons_succ]
  refine wpAnyH_take (i := 13) (v := ?_) rfl (by kernel_rfl) (by kernel_rfl) (by kernel_rfl) CalmP.onlyN_panic (Or.inl ⟨by kernel_rfl, ?_⟩) (by assumption) ?_
  rotate_left
  · (intro w_ hSw; go_simp; try with_reducible rfl)
  try simp only [List.getElem_toArray, List.getElem_cons_succ, List.getElem_cons_zero, Act.put, List.setIfInBounds_toArray, List.set_cons_zero, List.set_cons_succ]
  refine wpAnyH_done (by kernel_rfl) ?_ _
  refine CalmP.onlyN_here (hQ.out _ _ ?_)
  clear hQ K0
  clear k0 k1 k2 k3 bx7 bf7 rf7 t7 b8 b8' bp z7 hG7 p0 p5 hgG rdR
  obtain ⟨k0, k1, k2, k3⟩ := bx8.four
  obtain ⟨j0, j1⟩ := bf8.two
  have q5 := editreq_any ⟨#[71, 69, 84]⟩ ⟨#[47]⟩ 1 A1 1 c1 g1 fs27 0 0 w8 rf8 z8 (by omega) ok27
  rw [rf27] at q5
  simp only [show fs27.length = 1 from rfl] at q5
  go_wp2_with fail
  refine q5.mono ?_
  rintro e w9 ⟨A2, c2, rfl, o2, hc2, b9⟩
  have bx9 := bx8.below b9
  have bf9 := bf8.below b9
  have bp9 := bp8.below b9
  have t9 := t8.trans (b9.mono (Nat.le_trans z1 z8))
  have z9 := Nat.le_trans z8 b9.size
  clear k0 k1 k2 k3 j0 j1 bx8 bf8 rf8 t8 b9 bp8 z8 q5
  obtain ⟨k0, k1, k2, k3⟩ := bx9.four
  obtain ⟨j0, j1⟩ := bf9.two
  have q6 := printreq_any ⟨#[71, 69, 84]⟩ ⟨#[47]⟩ 1 A2 1 c2 w9.heap.size fs27 w9 o2.rd (Nat.le_refl _) (by omega) ok27 (by decide) (by decide)
  rw [show preqE (⟨#[71, 69, 84]⟩ : ByteArray).data.toList (⟨#[47]⟩ : ByteArray).data.toList 1 fs27 = 0 from print27] at q6
  obtain ⟨P, hP⟩ : ∃ P, P = preqB (⟨#[71, 69, 84]⟩ : ByteArray).data.toList (⟨#[47]⟩ : ByteArray).data.toList 1 fs27 := ⟨_, rfl⟩
  have hPl : P.length ≤ 1000 := by rw [hP]; exact print27l.1
  rw [← hP] at q6
  clear hP o2
  go_wp2_with fail
  refine q6.mono ?_
  rintro e w10 ⟨A3, c3, rfl, r10, l10, -, b10⟩
  have bx10 := bx9.below b10
  have bf10 := bf9.below b10
  have bp10 := bp9.below b10
  have t10 := t9.trans (b10.mono (Nat.le_trans z1 z9))
  have z10 := Nat.le_trans z9 b10.size
  clear k0 k1 k2 k3 j0 j1 bx9 bf9 t9 b10 bp9 z9 q6
  obtain ⟨k0, k1, k2, k3⟩ := bx10.four
  obtain ⟨j0, j1⟩ := bf10.two
  obtain ⟨p5, -⟩ := bp10.2 5 _ rfl
  go_upto_region 17 with (fail)
  refine CalmP.hideN (fun K0 hQ => ?_)
  refine wp_region_held_drew (S := (fun W : World => (W.cell? ⟨g1, 0, none⟩ = some (.string ⟨#[71, 69, 84]⟩) ∧ W.cell? ⟨g1, 1, none⟩ = some (.string ⟨#[47]⟩) ∧ W.cell? ⟨g1, 2, none⟩ = some (.int .i64 1) ∧ W.cell? ⟨g1, 3, none⟩ = some (.slice A1 1 c1) ∧ W.cell? ⟨g2, 0, none⟩ = some (.int .i64 0) ∧ W.cell? ⟨g2, 1, none⟩ = some (.int .i64 0) ∧ W.cell? ⟨p, 5, none⟩ = some (.int .i64 (Bf : Int))))) (by kernel_rfl) ⟨k0, k1, k2, k3, j0, j1, p5⟩ (fun hHeld => ?_)
  refine wpAnyH_take (i := 0) (v := ?_) rfl (by kernel_rfl) (by kernel_rfl) (by kernel_rfl) CalmP.onlyN_panic (Or.inl ⟨by kernel_rfl, ?_⟩) (by assumption) ?_
  rotate_left
  · (intro w_ hSw; go_simp; try with_reducible rfl)
  try simp only [List.getElem_toArray, List.getElem_cons_succ, List.getElem_cons_zero, Act.put, List.setIfInBounds_toArray, List.set_cons_zero, List.set_cons_succ]
  refine wpAnyH_take (i := 1) (v := ?_) rfl (by kernel_rfl) (by kernel_rfl) (by kernel_rfl) CalmP.onlyN_panic (Or.inl ⟨by kernel_rfl, ?_⟩) (by assumption) ?_
  rotate_left
  · (intro w_ hSw; go_simp; try with_reducible rfl)
  try simp only [List.getElem_toArray, List.getElem_cons_succ, List.getElem_cons_zero, Act.put, List.setIfInBounds_toArray, List.set_cons_zero, List.set_cons_succ]
  refine wpAnyH_take (i := 2) (v := ?_) rfl (by kernel_rfl) (by kernel_rfl) (by kernel_rfl) CalmP.onlyN_panic (Or.inl ⟨by kernel_rfl, ?_⟩) (by assumption) ?_
  rotate_left
  · (intro w_ hSw; go_simp; try with_reducible rfl)
  try simp only [List.getElem_toArray, List.getElem_cons_succ, List.getElem_cons_zero, Act.put, List.setIfInBounds_toArray, List.set_cons_zero, List.set_cons_succ]
  refine wpAnyH_take (i := 3) (v := ?_) rfl (by kernel_rfl) (by kernel_rfl) (by kernel_rfl) CalmP.onlyN_panic (Or.inl ⟨by kernel_rfl, ?_⟩) (by assumption) ?_
  rotate_left
  · (intro w_ hSw; go_simp; try with_reducible rfl)
  try simp only [List.getElem_toArray, List.getElem_cons_succ, List.getElem_cons_zero, Act.put, List.setIfInBounds_toArray, List.set_cons_zero, List.set_cons_succ]
  refine wpAnyH_take (i := 4) (v := ?_) rfl (by kernel_rfl) (by kernel_rfl) (by kernel_rfl) CalmP.onlyN_panic (Or.inl ⟨by kernel_rfl, ?_⟩) (by assumption) ?_
  rotate_left
  · (intro w_ hSw; go_simp; try with_reducible rfl)
  try simp only [List.getElem_toArray, List.getElem_cons_succ, List.getElem_cons_zero, Act.put, List.setIfInBounds_toArray, List.set_cons_zero, List.set_cons_succ]
  refine wpAnyH_take (i := 5) (v := ?_) rfl (by kernel_rfl) (by kernel_rfl) (by kernel_rfl) CalmP.onlyN_panic (Or.inl ⟨by kernel_rfl, ?_⟩) (by assumption) ?_
  rotate_left
  · (intro w_ hSw; go_simp; try with_reducible rfl)
  try simp only [List.getElem_toArray, List.getElem_cons_succ, List.getElem_cons_zero, Act.put, List.setIfInBounds_toArray, List.set_cons_zero, List.set_cons_succ]
  refine wpAnyH_take (i := 6) (v := ?_) rfl (by kernel_rfl) (by kernel_rfl) (by kernel_rfl) CalmP.onlyN_panic (Or.inl ⟨by kernel_rfl, ?_⟩) (by assumption) ?_
  rotate_left
  · (intro w_ hSw; go_simp; try with_reducible rfl)
  try simp only [List.getElem_toArray, List.getElem_cons_succ, List.getElem_cons_zero, Act.put, List.setIfInBounds_toArray, List.set_cons_zero, List.set_cons_succ]
  refine wpAnyH_take (i := 7) (v := ?_) rfl (by kernel_rfl) (by kernel_rfl) (by kernel_rfl) CalmP.onlyN_panic (Or.inl ⟨by kernel_rfl, ?_⟩) (by assumption) ?_
  rotate_left
  · (intro w_ hSw; go_simp; try with_reducible rfl)
  try simp only [List.getElem_toArray, List.getElem_cons_succ, List.getElem_cons_zero, Act.put, List.setIfInBounds_toArray, List.set_cons_zero, List.set_cons_succ]
  refine wpAnyH_take (i := 9) (v := ?_) rfl (by kernel_rfl) (by kernel_rfl) (by kernel_rfl) CalmP.onlyN_panic (Or.inl ⟨by kernel_rfl, ?_⟩) (by assumption) ?_
  rotate_left
  · (intro w_ hSw; go_simp; try with_reducible rfl)
  try simp only [List.getElem_toArray, List.getElem_cons_succ, List.getElem_cons_zero, Act.put, List.setIfInBounds_toArray, List.set_cons_zero, List.set_cons_succ]
  refine wpAnyH_take (i := 10) (v := ?_) rfl (by kernel_rfl) (by kernel_rfl) (by kernel_rfl) CalmP.onlyN_panic (Or.inl ⟨by kernel_rfl, ?_⟩) (by assumption) ?_
  rotate_left
  · (intro w_ hSw; go_simp; try with_reducible rfl)
  try simp only [List.getElem_toArray, List.getElem_cons_succ, List.getElem_cons_zero, Act.put, List.setIfInBounds_toArray, List.set_cons_zero, List.set_cons_succ]
  refine wpAnyH_take (i := 11) (v := ?_) rfl (by kernel_rfl) (by kernel_rfl) (by kernel_rfl) CalmP.onlyN_panic (Or.inl ⟨by kernel_rfl, ?_⟩) (by assumption) ?_
  rotate_left
  · (intro w_ hSw; go_simp; try with_reducible rfl)
  try simp only [List.getElem_toArray, List.getElem_cons_succ, List.getElem_cons_zero, Act.put, List.setIfInBounds_toArray, List.set_cons_zero, List.set_cons_succ]
  refine wpAnyH_take (i := 12) (v := ?_) rfl (by kernel_rfl) (by kernel_rfl) (by kernel_rfl) CalmP.onlyN_panic (Or.inl ⟨by kernel_rfl, ?_⟩) (by assumption) ?_
  rotate_left
  · (intro w_ hSw; go_simp; try with_reducible rfl)
  try simp only [List.getElem_toArray, List.getElem_cons_succ, List.getElem_cons_zero, Act.put, List.setIfInBounds_toArray, List.set_cons_zero, List.set_cons_succ]
  refine wpAnyH_take (i := 13) (v := ?_) rfl (by kernel_rfl) (by kernel_rfl) (by kernel_rfl) CalmP.onlyN_panic (Or.inl ⟨by kernel_rfl, ?_⟩) (by assumption) ?_
  rotate_left
  · (intro w_ hSw; go_simp; try with_reducible rfl)
  try simp only [List.getElem_toArray, List.getElem_cons_succ, List.getElem_cons_zero, Act.put, List.setIfInBounds_toArray, List.set_cons_zero, List.set_cons_succ]
  refine wpAnyH_take (i := 15) (v := ?_) rfl (by kernel_rfl) (by kernel_rfl) (by kernel_rfl) CalmP.onlyN_panic (Or.inl ⟨by kernel_rfl, ?_⟩) (by assumption) ?_
  rotate_left
  · (intro w_ hSw; go_simp; try with_reducible rfl)
  try simp only [List.getElem_toArray, List.getElem_cons_succ, List.getElem_cons_zero, Act.put, List.setIfInBounds_toArray, List.set_cons_zero, List.set_cons_succ]
  refine wpAnyH_ready (rs := [8]) (by kernel_rfl) (by simp) ?_
  refine AllReadyH.cons rfl (fun K_ hK => ?_) (AllReadyH.nil)
  go_simp
  have hBf := hG.o4
  have q7 := linknew_any (Bf : Int) w10.drew
  rw [bufN_is hBf] at q7
  refine q7.mono ?_
  rintro e w11 ⟨s3, r3, rfl, hs3, ls3, lr3, b11⟩
  have b11' : Below w10.heap.size w10 w11 := (below_drewN (k := 1) (Below.refl _ _)).trans b11
  have ls3 : w10.heap.size ≤ s3 := ls3
  have lr3 : w10.heap.size ≤ r3 := lr3
  have bx11 := bx10.below b11'
  have bf11 := bf10.below b11'
  have bp11 := bp10.below b11'
  have t11 := t10.trans (b11'.mono (Nat.le_trans z1 z10))
  have z11 := Nat.le_trans z10 b11'.size
  have r11 := (r10.below b11').mono b11'.size
  refine hK.out _ _ ⟨bx11.four.1, bx11.four.2.1, bx11.four.2.2.1, bx11.four.2.2.2, bf11.two.1, bf11.two.2, (bp11.2 5 _ rfl).1⟩ (fun hHeld => ?_)
  clear hK K_
  try simp only [List.getElem_toArray, List.getElem_cons_succ, List.getElem_cons_zero, Act.put, List.setIfInBounds_toArray, List.set_cons_zero, List.set_cons_succ]
  refine wpAnyH_ready (rs := [14]) (by kernel_rfl) (by simp) ?_
  refine AllReadyH.cons rfl (fun K_ hK => ?_) (AllReadyH.nil)
  go_simp
  have q8 := newB (Bf : Int) w11
  rw [most_is (by omega)] at q8
  refine q8.mono ?_
  rintro e w12 ⟨rfl, hr4, b12⟩
  obtain ⟨r4, hr4e⟩ : ∃ r, w11.heap.size = r := ⟨_, rfl⟩
  have bx12 := bx11.below b12
  have bf12 := bf11.below b12
  have bp12 := bp11.below b12
  have t12 := t11.trans (b12.mono (Nat.le_trans z1 z11))
  have z12 := Nat.le_trans z11 b12.size
  have r12 := (r11.below b12).mono b12.size
  have hs12 := hs3.below b12
  have hs3l := hs3.1.1
  have hr3l := hs3.2.1.lt
  rw [hr4e] at hr4 hs3l hr3l ⊢
  refine hK.out _ _ ⟨bx12.four.1, bx12.four.2.1, bx12.four.2.2.1, bx12.four.2.2.2, bf12.two.1, bf12.two.2, (bp12.2 5 _ rfl).1⟩ (fun hHeld => ?_)
  clear hK K_
  try simp only [List.getElem_toArray, List.getElem_cons_succ, List.getElem_cons_zero, Act.put, List.setIfInBounds_toArray, List.set_cons_zero, List.set_cons_succ]
  refine wpAnyH_take (i := 16) (v := ?_) rfl (by kernel_rfl) (by kernel_rfl) (by kernel_rfl) CalmP.onlyN_panic (Or.inl ⟨by kernel_rfl, ?_⟩) (by assumption) ?_
  rotate_left
  · (intro w_ hSw; go_simp; try with_reducible rfl)
  try simp only [List.getElem_toArray, List.getElem_cons_succ, List.getElem_cons_zero, Act.put, List.setIfInBounds_toArray, List.set_cons_zero, List.set_cons_succ]
  refine wpAnyH_ready (rs := [17]) (by kernel_rfl) (by simp) ?_
  refine AllReadyH.cons rfl (fun K_ hK => ?_) (AllReadyH.nil)
  go_simp
  have bxx := Box.new w12 #[.string ⟨#[71, 69, 84]⟩, .string ⟨#[47]⟩, .int .i64 1, .slice A1 1 c1, .bool kb, .int .i64 1, .pointer (some ⟨s3, 0, none⟩), .pointer (some ⟨r4, 0, none⟩), .int .i64 0, .int .i64 0, .bool false, .pointer none, .int .i64 0, .int .i64 0, .bool false, .bool false] 83
  have b13 : Below w12.heap.size w12 (w12.alloc (.cells #[.string ⟨#[71, 69, 84]⟩, .string ⟨#[47]⟩, .int .i64 1, .slice A1 1 c1, .bool kb, .int .i64 1, .pointer (some ⟨s3, 0, none⟩), .pointer (some ⟨r4, 0, none⟩), .int .i64 0, .int .i64 0, .bool false, .pointer none, .int .i64 0, .int .i64 0, .bool false, .bool false] 83)) := (Below.refl _ _).alloc (Nat.le_refl _) _
  have bx13 := bx12.below b13
  have bf13 := bf12.below b13
  have bp13 := bp12.below b13
  have t13 := t12.trans (b13.mono (Nat.le_trans z1 z12))
  have z13 := Nat.le_trans z12 b13.size
  have r13 := (r12.below b13).mono b13.size
  have hs13 := hs12.below b13
  have hr13 := hr4.below b13
  have hr4l := hr4.lt
  obtain ⟨x, hx⟩ : ∃ x, w12.heap.size = x := ⟨_, rfl⟩
  rw [hx] at bxx hr4l
  refine hK.out _ _ ⟨bx13.four.1, bx13.four.2.1, bx13.four.2.2.1, bx13.four.2.2.2, bf13.two.1, bf13.two.2, (bp13.2 5 _ rfl).1⟩ (fun hHeld => ?_)
  clear hK K_
  try simp only [List.getElem_toArray, List.getElem_cons_succ, List.getElem_cons_zero, Act.put, List.setIfInBounds_toArray, List.set_cons_zero, List.set_cons_succ]
  refine wpAnyH_take (i := 18) (v := ?_) rfl (by kernel_rfl) (by kernel_rfl) (by kernel_rfl) CalmP.onlyN_panic (Or.inl ⟨by kernel_rfl, ?_⟩) (by assumption) ?_
  rotate_left
  · (intro w_ hSw; go_simp; try with_reducible rfl)
  try simp only [List.getElem_toArray, List.getElem_cons_succ, List.getElem_cons_zero, Act.put, List.setIfInBounds_toArray, List.set_cons_zero, List.set_cons_succ]
  refine wpAnyH_done (by kernel_rfl) ?_ _
  refine CalmP.onlyN_here (hQ.out _ _ ?_)
  clear hQ K0
  rw [hx]
  generalize w12.alloc (.cells #[.string ⟨#[71, 69, 84]⟩, .string ⟨#[47]⟩, .int .i64 1, .slice A1 1 c1, .bool kb, .int .i64 1, .pointer (some ⟨s3, 0, none⟩), .pointer (some ⟨r4, 0, none⟩), .int .i64 0, .int .i64 0, .bool false, .pointer none, .int .i64 0, .int .i64 0, .bool false, .bool false] 83) = w13 at bxx bx13 bf13 bp13 t13 z13 r13 hs13 hr13 ⊢
  have g10 : G ≤ w10.heap.size := Nat.le_trans z1 z10
  have g11 : w10.heap.size ≤ w11.heap.size := b11'.size
  have hg2l := bf10.1
  clear b13 bx12 bf12 bp12 t12 z12 r12 hs12 hr4 b12 bx11 bf11 bp11 t11 z11 r11 hs3 b11' b11 q7 q8 bx10 bf10 bp10 t10 z10 r10 k0 k1 k2 k3 j0 j1 p5 bx13
  subst hGs
  obtain ⟨hxc, ⟨d1, hs, hd1⟩, ⟨d2, hr, hd2⟩, ho⟩ := h
  have ho3 := hG.o3
  have hcl := hxc.1
  have hsl := hs.1.1
  have hr1l := hs.2.1.lt
  have hr2l := hr.lt
  have hxl := bxx.1
  obtain ⟨x7, -⟩ := bxx.2 7 _ rfl
  have q9 := pushB r4 0 Bf none [] (bcells P) A3 P.length c3 w13.heap.size w13 hr13 (by omega) (by simp) r13 l10 (by omega) (bcells_one _) (Nat.le_refl _) P.length (by omega)
  rw [Nat.mul_one, bcells_take, List.take_length, List.nil_append, Nat.zero_add] at q9
  go_wp2_with fail
  refine q9.mono ?_
  rintro e w14 ⟨rfl, ⟨d4, hr14, hd4⟩, g14⟩
  have st13 : Stay w w13 [] := Stay.of_below [] t13
  have st14 : Stay w13 w14 [some r4] := Stay.of_grown g14
  have st014 : Stay w w14 [some r4] := st13.trans st14
  have st14d : Stay w w14.drew [some r4] := st014.trans (Stay.drewN 1 [])
  have hs14 := side_stay hs st14d (by simp; omega) (by simp; omega)
  have hxc14 := hxc.stay st14d (by simp; omega)
  have bf14 := bf13.stay (st14.trans (Stay.drewN 1 [])) (by simp; omega)
  clear q9 x7
  obtain ⟨j0, j1⟩ := bf14.two
  obtain ⟨c0, -⟩ := hxc14.2 0 _ rfl
  go_upto_region 19 with (fail)
  refine CalmP.hideN (fun K0 hQ => ?_)
  refine wp_region_held_drew (S := (fun W : World => (W.cell? ⟨c, 0, none⟩ = some (.pointer (some ⟨s, 0, none⟩)) ∧ W.cell? ⟨g2, 0, none⟩ = some (.int .i64 0) ∧ W.cell? ⟨g2, 1, none⟩ = some (.int .i64 0)))) (by kernel_rfl) ⟨c0, j0, j1⟩ (fun hHeld => ?_)
  refine wpAnyH_take (i := 0) (v := ?_) rfl (by kernel_rfl) (by kernel_rfl) (by kernel_rfl) CalmP.onlyN_panic (Or.inl ⟨by kernel_rfl, ?_⟩) (by assumption) ?_
  rotate_left
  · (intro w_ hSw; go_simp; try with_reducible rfl)
  try simp only [List.getElem_toArray, List.getElem_cons_succ, List.getElem_cons_zero, Act.put, List.setIfInBounds_toArray, List.set_cons_zero, List.set_cons_succ]
  refine wpAnyH_take (i := 1) (v := ?_) rfl (by kernel_rfl) (by kernel_rfl) (by kernel_rfl) CalmP.onlyN_panic (Or.inl ⟨by kernel_rfl, ?_⟩) (by assumption) ?_
  rotate_left
  · (intro w_ hSw; go_simp; try with_reducible rfl)
  try simp only [List.getElem_toArray, List.getElem_cons_succ, List.getElem_cons_zero, Act.put, List.setIfInBounds_toArray, List.set_cons_zero, List.set_cons_succ]
  refine wpAnyH_take (i := 2) (v := ?_) rfl (by kernel_rfl) (by kernel_rfl) (by kernel_rfl) CalmP.onlyN_panic (Or.inl ⟨by kernel_rfl, ?_⟩) (by assumption) ?_
  rotate_left
  · (intro w_ hSw; go_simp; try with_reducible rfl)
  try simp only [List.getElem_toArray, List.getElem_cons_succ, List.getElem_cons_zero, Act.put, List.setIfInBounds_toArray, List.set_cons_zero, List.set_cons_succ]
  refine wpAnyH_take (i := 3) (v := ?_) rfl (by kernel_rfl) (by kernel_rfl) (by kernel_rfl) CalmP.onlyN_panic (Or.inl ⟨by kernel_rfl, ?_⟩) (by assumption) ?_
  rotate_left
  · (intro w_ hSw; go_simp; try with_reducible rfl)
  try simp only [List.getElem_toArray, List.getElem_cons_succ, List.getElem_cons_zero, Act.put, List.setIfInBounds_toArray, List.set_cons_zero, List.set_cons_succ]
  refine wpAnyH_take (i := 4) (v := ?_) rfl (by kernel_rfl) (by kernel_rfl) (by kernel_rfl) CalmP.onlyN_panic (Or.inl ⟨by kernel_rfl, ?_⟩) (by assumption) ?_
  rotate_left
  · (intro w_ hSw; go_simp; try with_reducible rfl)
  try simp only [List.getElem_toArray, List.getElem_cons_succ, List.getElem_cons_zero, Act.put, List.setIfInBounds_toArray, List.set_cons_zero, List.set_cons_succ]
  refine wpAnyH_ready (rs := [5]) (by kernel_rfl) (by simp) ?_
  refine AllReadyH.cons rfl (fun K_ hK => ?_) (AllReadyH.nil)
  go_simp
  refine (linkbegin0_any s r1 Bf d1 0 w14.drew hs14 (by omega)).mono ?_
  rintro e w15 ⟨rfl, b, hs15, hbl, st15⟩
  have hbl : w14.heap.size ≤ b := hbl
  have st1415 : Stay w14 w15 [some s] := (Stay.drewN 1 []).trans st15
  have hxc15 := hxc14.stay st15 (by simp; omega)
  have bf15 := bf14.stay st15 (by simp; omega)
  refine hK.out _ _ ⟨(hxc15.2 0 _ rfl).1, bf15.two.1, bf15.two.2⟩ (fun hHeld => ?_)
  clear hK K_
  try simp only [List.getElem_toArray, List.getElem_cons_succ, List.getElem_cons_zero, Act.put, List.setIfInBounds_toArray, List.set_cons_zero, List.set_cons_succ]
  refine wpAnyH_done (by kernel_rfl) ?_ _
  refine CalmP.onlyN_here (hQ.out _ _ ?_)
  clear hQ K0
  have hw14 := st14.size
  have hw15 := st1415.size
  have hcl15 := hxc15.1
  obtain ⟨c2', f2⟩ := hxc15.2 2 _ rfl
  obtain ⟨c5, f5⟩ := hxc15.2 5 _ rfl
  have i1 : IntKind.i64.wrap (turn + 1) = turn + 1 := by rw [IntKind.wrap_i64]; omega
  clear c0 j0 j1
  have hxF := (hxc15.set (k := 2) (x := .pointer (some ⟨x, 0, none⟩)) (by simp)).set (k := 5) (x := .int .i64 (turn + 1)) (by simp)
  simp only [List.set_cons_succ, List.set_cons_zero] at hxF
  obtain ⟨wF, hwF⟩ : ∃ W, W = (w15.setCell ⟨c, 2, none⟩ (.pointer (some ⟨x, 0, none⟩))).setCell ⟨c, 5, none⟩ (.int .i64 (turn + 1)) := ⟨_, rfl⟩
  have st15F : Stay w15 wF [some c] := by rw [hwF]; exact ((Stay.refl w15 [some c]).set (by simp)).set (by simp)
  rw [← hwF] at hxF
  have st14F : Stay w14 wF [some s, some c] := st1415.trans st15F
  have st13F : Stay w13 wF [some r4, some s, some c] := st14.trans st14F
  have stF : Stay w wF [some s, some c] := (st13.trans st13F).fresh (by intro k hk; simp only [List.nil_append, List.mem_cons, List.not_mem_nil, or_false, Option.some.injEq] at hk; rcases hk with rfl | rfl | rfl; exact .inr (by omega); exact .inl (by simp); exact .inl (by simp))
  have hd4x : ∀ g, d4 = some g → x < g ∧ g ≠ b := fun g hg => by
    have h1 := (hr14.far g hg).2
    rcases hd4 with h | h
    · rw [h] at hg; cases hg
    · have := h g hg; omega
  have FIN : (∃ x s3 r3 r4 b, ConnB wF p c s r1 r2 x s3 r3 r4 b Bf false idle (turn + 1)) ∧ Below (p + 1) w wF := by
    refine ⟨⟨x, s3, r3, r4, b, hxF, ?_, ⟨d2, ring_stay hr stF (by simp; omega), hd2⟩, ⟨_, _, _, _, _, bxx.stay st13F (by simp; omega)⟩, ⟨none, side_stay hs13 st13F (by simp; omega) (by simp; omega)⟩, ⟨_, d4, _, ring_kept hr14 st14F (by simp; omega) (fun g hg => by have := hd4x g hg; simp; omega), hPl, hd4x⟩, ho, by omega, by omega, hs13.2.2.1, by omega, by omega, by omega, by omega⟩, stF.below (by simp; omega) hlt⟩
    exact ⟨d1, side0_stay hs15 st15F (by simp; omega) (by simp; omega) (by simp; omega)⟩
  have HF := hide FIN
  have HW := hide hwF
  clear FIN hwF stF st13F st14F st15F hxF hd4x hs15 hr14 hs13 bxx
  go_wp2_with fail
  go_end0
  exact ⟨rfl, by have h1 := HF.out; rw [HW.out] at h1; exact h1⟩
end Go.Proofs.YtijlaclngibekaaGreatDoor
