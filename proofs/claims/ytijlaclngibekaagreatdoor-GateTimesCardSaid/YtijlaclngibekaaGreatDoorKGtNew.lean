/- gate.New of a configuration of one route; open; Do (open). -/
import Derived.Test.YtijlaclngibekaaGreatDoorKGtBegin
import Derived.Deep.DeepCutAuto
namespace Go.Proofs.YtijlaclngibekaaGreatDoor
open Go.RowKit
set_option linter.unusedVariables false
set_option linter.unusedSimpArgs false

theorem infoRt : (Tryz.prog.info? 30).map (fun i => (i.zero, i.size, i.bytes)) = some (some (.agg #[.string ⟨#[]⟩, .string ⟨#[]⟩, .int .i64 0]), 3, 40) := by kernel_rfl
theorem infoStG : (Tryz.prog.info? 9).map (fun i => (i.zero, i.size, i.bytes)) = some (some (.string ⟨#[]⟩), 1, 16) := by kernel_rfl
def rt1 : List Value := [.string ⟨#[]⟩, .string ⟨#[47]⟩, .int .i64 1]
def CfgOk (nT : Nat) (a b d T : Int) (Bf : Nat) : Prop := (16384 ≤ Bf ∧ Bf ≤ 32768) ∧ (0 ≤ a ∧ a ≤ 9) ∧ 0 ≤ b ∧ 0 ≤ d ∧ (1 ≤ T ∧ T ≤ 1073741824) ∧ nT ≤ 32
set_option maxRecDepth 100000 in
set_option maxHeartbeats 1600000 in
theorem gtsound_one (ra cR : Nat) (AT : Option Addr) (nT cT : Nat) (a b d T : Int) (Bf : Nat) (w : World) (hr : Rd w w.heap.size 3 (some ⟨ra, 0, none⟩) 1 rt1) (hok : CfgOk nT a b d T Bf) :
    Calls Tryz.prog 12 #[.agg #[.slice (some ⟨ra, 0, none⟩) 1 cR, .slice AT nT cT, .int .i64 a, .int .i64 b, .int .i64 d, .int .i64 (Bf : Int), .int .i64 T]] w fun e w' => e = .returned (.bool true) ∧ Below w.heap.size w w' := by
  obtain ⟨g, hg⟩ : ∃ g, w.heap.size = g := ⟨_, rfl⟩
  have bx := Box.new w #[.slice (some ⟨ra, 0, none⟩) 1 cR, .slice AT nT cT, .int .i64 a, .int .i64 b, .int .i64 d, .int .i64 (Bf : Int), .int .i64 T] 25
  have t0 : Below g w (w.alloc (.cells #[.slice (some ⟨ra, 0, none⟩) 1 cR, .slice AT nT cT, .int .i64 a, .int .i64 b, .int .i64 d, .int .i64 (Bf : Int), .int .i64 T] 25)) := (Below.refl _ _).alloc (Nat.le_of_eq hg.symm) _
  rw [hg] at bx hr
  have hr1 := hr.below t0
  obtain ⟨⟨j1, j2⟩, ⟨j3, j4⟩, j5, j6, ⟨j7, j8⟩, j9⟩ := hok
  go_enter Tryz.func12, Tryz.ntmps12
  go_upto_region 1 with (fail)
  generalize w.alloc _ = w1 at bx t0 hr1 ⊢
  clear hr
  obtain ⟨a', ha', -, hc⟩ := hr1.at_ (k := 0) (by omega)
  cases ha'
  have e0 := hc 0 _ rfl
  have e1 := hc 1 _ rfl
  have e2 := hc 2 _ rfl
  clear hc
  have hgl := bx.1
  have HBX := hide bx
  obtain ⟨k0, -⟩ := bx.2 0 _ rfl
  clear bx
  go_wp2_with fail
  go_loopw [8] (fun i W => i = .int .i64 0 ∧ W = w1 ∨ i = .int .i64 1 ∧ Below (g + 1) w1 W) (fun i _ => 1 - (intOf i).toNat)
  case atStart => exact .inl ⟨rfl, rfl⟩
  case round =>
    rcases hrel with ⟨rfl, rfl⟩ | ⟨rfl, hb⟩
    · have b1 : Below (g + 1) wr (wr.alloc (.cells #[.string ⟨#[]⟩, .string ⟨#[47]⟩, .int .i64 1] 30)) := (Below.refl _ _).alloc hgl _
      simp [Addr.add] at e0 e1 e2
      go_wp2_with fail
      exact ⟨.inr ⟨rfl, b1⟩, by simp [intOf]⟩
    · have bx := HBX.out.low hb (by omega)
      clear k0
      obtain ⟨k0, -⟩ := bx.2 0 _ rfl
      obtain ⟨k1, -⟩ := bx.2 1 _ rfl
      obtain ⟨k2, -⟩ := bx.2 2 _ rfl
      obtain ⟨k3, -⟩ := bx.2 3 _ rfl
      obtain ⟨k4, -⟩ := bx.2 4 _ rfl
      obtain ⟨k5, -⟩ := bx.2 5 _ rfl
      obtain ⟨k6, -⟩ := bx.2 6 _ rfl
      have m1 : (16384 : Int) ≤ (Bf : Int) := by omega
      have m2 : (Bf : Int) ≤ 32768 := by omega
      have m3 : (nT : Int) ≤ 32 := by omega
      clear bx
      go_wp2_with fail
      go_ret
      rw [hg]
      exact ⟨rfl, t0.trans (hb.mono (by omega))⟩
/-- A gateway without connections in block p, its connections in block mb. -/
def GateN (w : World) (g0 p mb Bf : Nat) (T : Int) : Prop :=
  (∃ A cR v1 v2 v3 v4, Box w p [.slice A 1 cR, v1, v2, v3, v4, .int .i64 (Bf : Int), .int .i64 T, .map (some mb)] ∧ Rd w g0 3 A 1 rt1) ∧ MapIs w mb #[] 0 ∧ g0 ≤ mb ∧ mb < p ∧ (16384 ≤ Bf ∧ Bf ≤ 32768)
set_option maxRecDepth 100000 in
set_option maxHeartbeats 3200000 in
theorem gtnew_one (ra cR : Nat) (AT : Option Addr) (nT cT : Nat) (a b d T : Int) (Bf : Nat) (ts : List (List UInt8)) (w : World) (hr : Rd w w.heap.size 3 (some ⟨ra, 0, none⟩) 1 rt1) (hts : Rd w w.heap.size 1 AT nT (scells ts)) (hok : CfgOk nT a b d T Bf) :
    Calls Tryz.prog 7 #[.agg #[.slice (some ⟨ra, 0, none⟩) 1 cR, .slice AT nT cT, .int .i64 a, .int .i64 b, .int .i64 d, .int .i64 (Bf : Int), .int .i64 T]] w fun e w' => ∃ p, e = .returned (.tuple #[.pointer (some ⟨p, 0, none⟩), .int .i64 0]) ∧ ∃ mb, GateN w' mb p mb Bf T ∧ w.heap.size ≤ mb ∧ Below w.heap.size w w' := by
  obtain ⟨g, hg⟩ : ∃ g, w.heap.size = g := ⟨_, rfl⟩
  have bx := Box.new w #[.slice (some ⟨ra, 0, none⟩) 1 cR, .slice AT nT cT, .int .i64 a, .int .i64 b, .int .i64 d, .int .i64 (Bf : Int), .int .i64 T] 25
  have t0 : Below g w (w.alloc (.cells #[.slice (some ⟨ra, 0, none⟩) 1 cR, .slice AT nT cT, .int .i64 a, .int .i64 b, .int .i64 d, .int .i64 (Bf : Int), .int .i64 T] 25)) := (Below.refl _ _).alloc (Nat.le_of_eq hg.symm) _
  rw [hg] at bx hr hts
  have hr1 := hr.below t0
  have ht1 := hts.below t0
  obtain ⟨i0, hi0, hz0, hz1, hz2⟩ := info_parts infoRt
  obtain ⟨i3, hi3, hy0, hy1, hy2⟩ := info_parts infoStG
  have hnT : nT ≤ 32 := hok.2.2.2.2.2
  have hBf := hok.1
  go_enter Tryz.func7, Tryz.ntmps7
  go_upto_region 1 with (fail)
  generalize w.alloc _ = w1 at bx t0 hr1 ht1 ⊢
  have z1 : g ≤ w1.heap.size := Nat.le_of_lt bx.1
  have q := gtsound_one ra cR AT nT cT a b d T Bf w1 (hr1.mono z1) hok
  obtain ⟨k0, -⟩ := bx.2 0 _ rfl
  obtain ⟨k1, -⟩ := bx.2 1 _ rfl
  obtain ⟨k2, -⟩ := bx.2 2 _ rfl
  obtain ⟨k3, -⟩ := bx.2 3 _ rfl
  obtain ⟨k4, -⟩ := bx.2 4 _ rfl
  obtain ⟨k5, -⟩ := bx.2 5 _ rfl
  obtain ⟨k6, -⟩ := bx.2 6 _ rfl
  go_wp2_with fail
  refine q.mono ?_
  rintro e w2 ⟨rfl, b2⟩
  have bx2 := bx.below b2
  have t2 := t0.trans (b2.mono z1)
  have hr2 := hr1.below (b2.mono z1)
  have ht2 := ht1.below (b2.mono z1)
  clear k0 k1 k2 k3 k4 k5 k6 q bx hr1 ht1
  obtain ⟨k0, f0⟩ := bx2.2 0 _ rfl
  have hgl := bx2.1
  have z2 : g ≤ w2.heap.size := Nat.le_of_lt hgl
  have hb0 := own_new w2 #[] 30 3 0 rfl (by simp [maxLen]) w2.heap.size (Nat.le_refl _)
  have a2 : Below w2.heap.size w2 (w2.alloc (.cells #[] 30)) := (Below.refl _ _).alloc (Nat.le_refl _) _
  have hr2a := hr2.below (a2.mono z2)
  have h1c : ∀ u ∈ rt1, u.oneCell' = true := by simp [rt1, Value.oneCell']
  go_upto_region 3 with (fail)
  go_upto_region 4 with (at_builtin; refine wpl_append _ rfl _ _ _ rfl w2.heap.size 30 i0 _ 3 40 Tryz.underlying22 hi0 hz0 hz1 hz2 rfl (by omega) _ _ _ rfl _ _ _ _ _ rfl hb0 hr2a h1c (by simp [maxLen]) (by omega) a2.size ?_; intro vR w3 oR b3 _; rw [Nat.zero_add, List.nil_append] at oR; obtain ⟨AR, cR2, rfl, hcR, -⟩ := own_shape1 oR; have bx3 := (bx2.below a2).low b3 hgl; obtain ⟨k0', f0'⟩ := bx3.2 0 _ rfl; have hgl3 := bx3.1)
  have t3 := t2.trans ((a2.trans b3).mono z2)
  have ht3 := ht2.below ((a2.trans b3).mono z2)
  have bx4 := bx3.set (k := 0) (x := .slice AR 1 cR2) (by simp)
  simp only [List.set_cons_zero] at bx4
  have hz23 : w2.heap.size ≤ w3.heap.size := Nat.le_trans a2.size b3.size
  have t4 : Below g w (w3.setCell ⟨g, 0, none⟩ (.slice AR 1 cR2)) := t3.setCell (Nat.le_refl g) _
  have ht4 : Rd (w3.setCell ⟨g, 0, none⟩ (.slice AR 1 cR2)) g 1 AT nT (scells ts) := ht3.below ((Below.refl _ _).setCell (Nat.le_refl g) _)
  have oR4 : (w3.setCell ⟨g, 0, none⟩ (.slice AR 1 cR2)).ownsRow w2.heap.size 30 3 (.slice AR 1 cR2) 1 rt1 := oR.kept (grown_set (World.grownBy.refl w3 (some g)) 0 _) (by
    rcases oR.2 with ⟨hh, -⟩ | ⟨x, _, _, hh, hx, -⟩
    · simp at hh
    · right; simp at hh; rw [hh.1]; simp [Value.ownBlock]; omega)
  have hz34 : w2.heap.size ≤ (w3.setCell ⟨g, 0, none⟩ (.slice AR 1 cR2)).heap.size := by simpa [World.setCell] using hz23
  clear k0 f0 hb0 a2 hr2a h1c bx3 oR t3 ht3 bx2 t2 hr2 ht2 b3 b2 hz23
  generalize w3.setCell ⟨g, 0, none⟩ (.slice AR 1 cR2) = w4 at bx4 t4 ht4 oR4 hz34 ⊢
  have z4 : g ≤ w4.heap.size := by omega
  have hgl4 := bx4.1
  obtain ⟨k1, f1⟩ := bx4.2 1 _ rfl
  have hb1 := own_new w4 #[] 9 1 0 rfl (by simp [maxLen]) w4.heap.size (Nat.le_refl _)
  have a4 : Below w4.heap.size w4 (w4.alloc (.cells #[] 9)) := (Below.refl _ _).alloc (Nat.le_refl _) _
  have ht4a := ht4.below (a4.mono z4)
  have h1s : ∀ u ∈ scells ts, u.oneCell' = true := by intro u hu; simp [scells] at hu; obtain ⟨x, -, rfl⟩ := hu; rfl
  go_upto_region 5 with (at_builtin; refine wpl_append _ rfl _ _ _ rfl w4.heap.size 9 i3 _ 1 16 Tryz.underlying23 hi3 hy0 hy1 hy2 rfl (by omega) _ _ _ rfl _ _ _ _ _ rfl hb1 ht4a h1s (by simp [maxLen]; omega) (by omega) a4.size ?_; intro vT w5 oT b5 _; rw [Nat.zero_add, List.nil_append] at oT; obtain ⟨AT2, cT2, rfl, -, -⟩ := own_shape1 oT; have bx5 := (bx4.below a4).low b5 hgl4; obtain ⟨k1', f1'⟩ := bx5.2 1 _ rfl; have hgl5 := bx5.1)
  have t5 := t4.trans ((a4.trans b5).mono z4)
  have oR5 := own_below oR4 (a4.trans b5)
  have bx6 := bx5.set (k := 1) (x := .slice AT2 nT cT2) (by simp)
  simp only [List.set_cons_succ, List.set_cons_zero] at bx6
  have t6 : Below g w (w5.setCell ⟨g, 1, none⟩ (.slice AT2 nT cT2)) := t5.setCell (Nat.le_refl g) _
  have oR6 : (w5.setCell ⟨g, 1, none⟩ (.slice AT2 nT cT2)).ownsRow w2.heap.size 30 3 (.slice AR 1 cR2) 1 rt1 := oR5.kept (grown_set (World.grownBy.refl w5 (some g)) 1 _) (by
    rcases oR5.2 with ⟨hh, -⟩ | ⟨x, _, _, hh, hx, -⟩
    · simp at hh
    · right; simp at hh; rw [hh.1]; simp [Value.ownBlock]; omega)
  clear k0' f0' hb1 a4 ht4a h1s bx5 oT t5 oR5 bx4 t4 ht4 oR4 b5 k1 f1
  generalize w5.setCell ⟨g, 1, none⟩ (.slice AT2 nT cT2) = w6 at bx6 t6 oR6 ⊢
  obtain ⟨k0, f0⟩ := bx6.2 0 _ rfl
  obtain ⟨k1, f1⟩ := bx6.2 1 _ rfl
  obtain ⟨k2, -⟩ := bx6.2 2 _ rfl
  obtain ⟨k3, -⟩ := bx6.2 3 _ rfl
  obtain ⟨k4, -⟩ := bx6.2 4 _ rfl
  obtain ⟨k5, -⟩ := bx6.2 5 _ rfl
  obtain ⟨k6, -⟩ := bx6.2 6 _ rfl
  have hgl := bx6.1
  have hmm := @run_makeMap Tryz.prog
  have hs5 : (w6.alloc (.map #[] 0)).heap.size = w6.heap.size + 1 := by simp
  have b5 : Below g w (w6.alloc (.map #[] 0)) := t6.alloc (Nat.le_of_lt hgl) _
  have m5 : MapIs (w6.alloc (.map #[] 0)) w6.heap.size #[] 0 := (MapKept.heap_alloc w6 _).1
  have bz := Box.new (w6.alloc (.map #[] 0)) #[.slice AR 1 cR2, .slice AT2 nT cT2, .int .i64 a, .int .i64 b, .int .i64 d, .int .i64 (Bf : Int), .int .i64 T, .map (some w6.heap.size)] 52
  have b6 : Below (w6.heap.size + 1) (w6.alloc (.map #[] 0)) ((w6.alloc (.map #[] 0)).alloc (.cells #[.slice AR 1 cR2, .slice AT2 nT cT2, .int .i64 a, .int .i64 b, .int .i64 d, .int .i64 (Bf : Int), .int .i64 T, .map (some w6.heap.size)] 52)) := (Below.refl _ _).alloc (Nat.le_of_eq hs5.symm) _
  have m6 := m5.below (by rw [hs5]; exact b6)
  rw [hs5] at bz
  have t7 := b5.trans (b6.mono (by omega))
  have rR := Rd.of_own oR6
  have rR7 : Rd ((w6.alloc (.map #[] 0)).alloc (.cells #[.slice AR 1 cR2, .slice AT2 nT cT2, .int .i64 a, .int .i64 b, .int .i64 d, .int .i64 (Bf : Int), .int .i64 T, .map (some w6.heap.size)] 52)) w6.heap.size 3 AR 1 rt1 := (rR.alloc (Nat.le_refl _) _).below (b6.mono (by omega))
  clear bx6
  go_wp2_with fail
  go_ret2
  exact ⟨w6.heap.size + 1, rfl, w6.heap.size, ⟨⟨AR, cR2, _, _, _, _, bz, rR7⟩, m6, Nat.le_refl _, by omega, hBf⟩, by omega, hg ▸ t7⟩
def OpenG (w w' : World) (p mb Bf : Nat) (T : Int) : Prop := ∃ c s r1 r2, GateC w' mb p mb c Bf T ∧ ConnA w' p c s r1 r2 Bf [] [] false 0 0 ∧ Below mb w w'
set_option maxRecDepth 100000 in
set_option maxHeartbeats 1600000 in
theorem gtopen_any (p b Bf : Nat) (T n : Int) (w : World) (h0 : n = 0) (hg : GateN w b p b Bf T) :
    Calls Tryz.prog 13 #[.pointer (some ⟨p, 0, none⟩), .int .i64 n] w fun e w' => e = .returned (.int .i64 0) ∧ OpenG w w' p b Bf T := by
  have hwf : (Lit.int .i64 n).wf = true := by simp [Lit.wf, IntKind.min, IntKind.max, IntKind.signed, IntKind.bits]; omega
  obtain ⟨⟨A, cR, v1, v2, v3, v4, bx, rdR⟩, hm, -, hbp, hBf⟩ := hg
  have hne : p ≠ b := by omega
  have hrun := hm.no n hwf
  have HH := hide h0
  obtain ⟨k0, -⟩ := bx.2 0 _ rfl
  obtain ⟨k1, -⟩ := bx.2 1 _ rfl
  obtain ⟨k2, -⟩ := bx.2 2 _ rfl
  obtain ⟨k3, -⟩ := bx.2 3 _ rfl
  obtain ⟨k4, -⟩ := bx.2 4 _ rfl
  obtain ⟨k5, -⟩ := bx.2 5 _ rfl
  obtain ⟨k6, -⟩ := bx.2 6 _ rfl
  obtain ⟨k7, -⟩ := bx.2 7 _ rfl
  have hn1 : ¬ n < 0 := by omega
  have hwp : IntKind.i64.wrap ((Bf : Int) + 512) = (Bf : Int) + 512 := by rw [IntKind.wrap_i64]; omega
  have hbl := hm.lt
  have hn2 : ¬ (64 : Int) ≤ n := by omega
  clear h0
  go_enter Tryz.func13, Tryz.ntmps13
  go_upto_region 3 with (fail)
  refine CalmP.hideN (fun K0 hQ => ?_)
  refine wp_region_held_drew (S := (fun W : World => (W.cell? ⟨p, 7, none⟩ = some (.map (some b)) ∧ W.cell? ⟨p, 5, none⟩ = some (.int .i64 (Bf : Int))))) (by kernel_rfl) ⟨k7, k5⟩ (fun hHeld => ?_)
  refine wpAnyH_take (i := 0) (v := ?_) rfl (by kernel_rfl) (by kernel_rfl) (by kernel_rfl) CalmP.onlyN_panic (Or.inl ⟨by kernel_rfl, ?_⟩) (by assumption) ?_
  rotate_left
  · (intro w_ hSw; go_simp; try with_reducible rfl)
  try simp only [List.getElem_toArray, List.getElem_cons_succ, List.getElem_cons_zero, Act.put, List.setIfInBounds_toArray, List.set_cons_zero, List.set_cons_succ]
  refine wpAnyH_take (i := 1) (v := ?_) rfl (by kernel_rfl) (by kernel_rfl) (by kernel_rfl) CalmP.onlyN_panic (Or.inl ⟨by kernel_rfl, ?_⟩) (by assumption) ?_
  rotate_left
  · (intro w_ hSw; go_simp; try with_reducible rfl)
  try simp only [List.getElem_toArray, List.getElem_cons_succ, List.getElem_cons_zero, Act.put, List.setIfInBounds_toArray, List.set_cons_zero, List.set_cons_succ]
  refine wpAnyH_take (i := 2) (v := ?_) rfl (by kernel_rfl) (by kernel_rfl) (by kernel_rfl) CalmP.onlyN_panic (Or.inl ⟨by kernel_rfl, ?_⟩) (by assumption) ?_
  rotate_left
  · (intro w_ hSw; go_simp; try with_reducible rfl)
  try simp only [List.getElem_toArray, List.getElem_cons_succ, List.getElem_cons_zero, Act.put, List.setIfInBounds_toArray, List.set_cons_zero, List.set_cons_succ]
  refine wpAnyH_take (i := 3) (v := ?_) rfl (by kernel_rfl) (by kernel_rfl) (by kernel_rfl) CalmP.onlyN_panic (Or.inl ⟨by kernel_rfl, ?_⟩) (by assumption) ?_
  rotate_left
  · (intro w_ hSw; go_simp; try with_reducible rfl)
  try simp only [List.getElem_toArray, List.getElem_cons_succ, List.getElem_cons_zero, Act.put, List.setIfInBounds_toArray, List.set_cons_zero, List.set_cons_succ]
  refine wpAnyH_take (i := 4) (v := ?_) rfl (by kernel_rfl) (by kernel_rfl) (by kernel_rfl) CalmP.onlyN_panic (Or.inl ⟨by kernel_rfl, ?_⟩) (by assumption) ?_
  rotate_left
  · (intro w_ hSw; go_simp; try with_reducible rfl)
  try simp only [List.getElem_toArray, List.getElem_cons_succ, List.getElem_cons_zero, Act.put, List.setIfInBounds_toArray, List.set_cons_zero, List.set_cons_succ]
  refine wpAnyH_take (i := 5) (v := ?_) rfl (by kernel_rfl) (by kernel_rfl) (by kernel_rfl) CalmP.onlyN_panic (Or.inl ⟨by kernel_rfl, ?_⟩) (by assumption) ?_
  rotate_left
  · (intro w_ hSw; go_simp; try with_reducible rfl)
  try simp only [List.getElem_toArray, List.getElem_cons_succ, List.getElem_cons_zero, Act.put, List.setIfInBounds_toArray, List.set_cons_zero, List.set_cons_succ]
  refine wpAnyH_take (i := 6) (v := ?_) rfl (by kernel_rfl) (by kernel_rfl) (by kernel_rfl) CalmP.onlyN_panic (Or.inl ⟨by kernel_rfl, ?_⟩) (by assumption) ?_
  rotate_left
  · (intro w_ hSw; go_simp; try with_reducible rfl)
  try simp only [List.getElem_toArray, List.getElem_cons_succ, List.getElem_cons_zero, Act.put, List.setIfInBounds_toArray, List.set_cons_zero, List.set_cons_succ]
  refine wpAnyH_take (i := 7) (v := ?_) rfl (by kernel_rfl) (by kernel_rfl) (by kernel_rfl) CalmP.onlyN_panic (Or.inl ⟨by kernel_rfl, ?_⟩) (by assumption) ?_
  rotate_left
  · (intro w_ hSw; go_simp; try with_reducible rfl)
  try simp only [List.getElem_toArray, List.getElem_cons_succ, List.getElem_cons_zero, Act.put, List.setIfInBounds_toArray, List.set_cons_zero, List.set_cons_succ]
  refine wpAnyH_take (i := 8) (v := ?_) rfl (by kernel_rfl) (by kernel_rfl) (by kernel_rfl) CalmP.onlyN_panic (Or.inl ⟨by kernel_rfl, ?_⟩) (by assumption) ?_
  rotate_left
  · (intro w_ hSw; go_simp; try with_reducible rfl)
  try simp only [List.getElem_toArray, List.getElem_cons_succ, List.getElem_cons_zero, Act.put, List.setIfInBounds_toArray, List.set_cons_zero, List.set_cons_succ]
  refine wpAnyH_take (i := 9) (v := ?_) rfl (by kernel_rfl) (by kernel_rfl) (by kernel_rfl) CalmP.onlyN_panic (Or.inl ⟨by kernel_rfl, ?_⟩) (by assumption) ?_
  rotate_left
  · (intro w_ hSw; go_simp; try with_reducible rfl)
  try simp only [List.getElem_toArray, List.getElem_cons_succ, List.getElem_cons_zero, Act.put, List.setIfInBounds_toArray, List.set_cons_zero, List.set_cons_succ]
  refine wpAnyH_take (i := 11) (v := ?_) rfl (by kernel_rfl) (by kernel_rfl) (by kernel_rfl) CalmP.onlyN_panic (Or.inl ⟨by kernel_rfl, ?_⟩) (by assumption) ?_
  rotate_left
  · (intro w_ hSw; go_simp; try with_reducible rfl)
  try simp only [List.getElem_toArray, List.getElem_cons_succ, List.getElem_cons_zero, Act.put, List.setIfInBounds_toArray, List.set_cons_zero, List.set_cons_succ]
  refine wpAnyH_take (i := 12) (v := ?_) rfl (by kernel_rfl) (by kernel_rfl) (by kernel_rfl) CalmP.onlyN_panic (Or.inl ⟨by kernel_rfl, ?_⟩) (by assumption) ?_
  rotate_left
  · (intro w_ hSw; go_simp; try with_reducible rfl)
  try simp only [List.getElem_toArray, List.getElem_cons_succ, List.getElem_cons_zero, Act.put, List.setIfInBounds_toArray, List.set_cons_zero, List.set_cons_succ]
  refine wpAnyH_take (i := 13) (v := ?_) rfl (by kernel_rfl) (by kernel_rfl) (by kernel_rfl) CalmP.onlyN_panic (Or.inl ⟨by kernel_rfl, ?_⟩) (by assumption) ?_
  rotate_left
  · (intro w_ hSw; go_simp; try with_reducible rfl)
  try simp only [List.getElem_toArray, List.getElem_cons_succ, List.getElem_cons_zero, Act.put, List.setIfInBounds_toArray, List.set_cons_zero, List.set_cons_succ]
  refine wpAnyH_take (i := 14) (v := ?_) rfl (by kernel_rfl) (by kernel_rfl) (by kernel_rfl) CalmP.onlyN_panic (Or.inl ⟨by kernel_rfl, ?_⟩) (by assumption) ?_
  rotate_left
  · (intro w_ hSw; go_simp; try with_reducible rfl)
  try simp only [List.getElem_toArray, List.getElem_cons_succ, List.getElem_cons_zero, Act.put, List.setIfInBounds_toArray, List.set_cons_zero, List.set_cons_succ]
  refine wpAnyH_take (i := 15) (v := ?_) rfl (by kernel_rfl) (by kernel_rfl) (by kernel_rfl) CalmP.onlyN_panic (Or.inl ⟨by kernel_rfl, ?_⟩) (by assumption) ?_
  rotate_left
  · (intro w_ hSw; go_simp; try with_reducible rfl)
  try simp only [List.getElem_toArray, List.getElem_cons_succ, List.getElem_cons_zero, Act.put, List.setIfInBounds_toArray, List.set_cons_zero, List.set_cons_succ]
  refine wpAnyH_take (i := 16) (v := ?_) rfl (by kernel_rfl) (by kernel_rfl) (by kernel_rfl) CalmP.onlyN_panic (Or.inl ⟨by kernel_rfl, ?_⟩) (by assumption) ?_
  rotate_left
  · (intro w_ hSw; go_simp; try with_reducible rfl)
  try simp only [List.getElem_toArray, List.getElem_cons_succ, List.getElem_cons_zero, Act.put, List.setIfInBounds_toArray, List.set_cons_zero, List.set_cons_succ]
  refine wpAnyH_ready (rs := [10]) (by kernel_rfl) (by simp) ?_
  refine AllReadyH.cons rfl (fun K_ hK => ?_) (AllReadyH.nil)
  go_simp
  have ql := linknew_any (Bf : Int) w.drew
  rw [bufN_is hBf] at ql
  refine ql.mono ?_
  rintro e w1 ⟨s, r1, rfl, hs, hls, hlr, b1⟩
  have hls : w.heap.size ≤ s := hls
  have hlr : w.heap.size ≤ r1 := hlr
  have b1' : Below w.heap.size w w1 := (show Below w.heap.size w w.drew from below_drewN (k := 1) (Below.refl _ _)).trans b1
  have bx1 := bx.below b1'
  refine hK.out _ _ ⟨(bx1.2 7 _ rfl).1, (bx1.2 5 _ rfl).1⟩ (fun hHeld => ?_)
  clear hK K_
  try simp only [List.getElem_toArray, List.getElem_cons_succ, List.getElem_cons_zero, Act.put, List.setIfInBounds_toArray, List.set_cons_zero, List.set_cons_succ]
  refine wpAnyH_ready (rs := [17]) (by kernel_rfl) (by simp) ?_
  refine AllReadyH.cons rfl (fun K_ hK => ?_) (AllReadyH.nil)
  go_simp
  have qn := newB ((Bf : Int) + 512) w1
  rw [show most ((Bf : Int) + 512) = Bf + 512 from by unfold most; omega] at qn
  refine qn.mono ?_
  rintro e w2 ⟨rfl, hr, b2⟩
  obtain ⟨r2, hr2⟩ : ∃ r2, w1.heap.size = r2 := ⟨_, rfl⟩
  have b12 : Below w.heap.size w w2 := b1'.trans (b2.mono b1'.size)
  have bx2 := bx1.below b2
  have hs2 := hs.below b2
  have hs1lt : s < w1.heap.size := hs.1.1
  have hr1lt : r1 < w1.heap.size := hs.2.1.lt
  have hs12 := b1'.size
  rw [hr2] at hr ⊢
  refine hK.out _ _ ⟨(bx2.2 7 _ rfl).1, (bx2.2 5 _ rfl).1⟩ (fun hHeld => ?_)
  clear hK K_
  try simp only [List.getElem_toArray, List.getElem_cons_succ, List.getElem_cons_zero, Act.put, List.setIfInBounds_toArray, List.set_cons_zero, List.set_cons_succ]
  refine wpAnyH_take (i := 18) (v := ?_) rfl (by kernel_rfl) (by kernel_rfl) (by kernel_rfl) CalmP.onlyN_panic (Or.inl ⟨by kernel_rfl, ?_⟩) (by assumption) ?_
  rotate_left
  · (intro w_ hSw; go_simp; try with_reducible rfl)
  try simp only [List.getElem_toArray, List.getElem_cons_succ, List.getElem_cons_zero, Act.put, List.setIfInBounds_toArray, List.set_cons_zero, List.set_cons_succ]
  have bc := Box.new w2 #[.pointer (some ⟨s, 0, none⟩), .pointer (some ⟨r2, 0, none⟩), .pointer none, .bool false, .int .i64 0, .int .i64 0] 61
  have b3 : Below w2.heap.size w2 (w2.alloc (.cells #[.pointer (some ⟨s, 0, none⟩), .pointer (some ⟨r2, 0, none⟩), .pointer none, .bool false, .int .i64 0, .int .i64 0] 61)) := (Below.refl _ _).alloc (Nat.le_refl _) _
  have hc2 := b2.size
  obtain ⟨c, hc⟩ : ∃ c, w2.heap.size = c := ⟨_, rfl⟩
  have hr2lt : r2 < w2.heap.size := hr.lt
  rw [hc] at bc
  refine wpAnyH_ready (rs := [19]) (by kernel_rfl) (by simp) ?_
  refine AllReadyH.cons rfl (fun K_ hK => ?_) (AllReadyH.nil)
  go_simp
  have bx3 := bx2.below b3
  have hs3 := hs2.below b3
  have hr3 := hr.below b3
  have m3 := (hm.below b12).below b3
  have b13 : Below w.heap.size w _ := b12.trans (b3.mono b12.size)
  refine hK.out _ _ ⟨(bx3.2 7 _ rfl).1, (bx3.2 5 _ rfl).1⟩ (fun hHeld => ?_)
  clear hK K_
  try simp only [List.getElem_toArray, List.getElem_cons_succ, List.getElem_cons_zero, Act.put, List.setIfInBounds_toArray, List.set_cons_zero, List.set_cons_succ]
  generalize w2.alloc _ = w3 at bc b3 bx3 hs3 hr3 m3 b13 ⊢
  have hst := m3.store n (.pointer (some ⟨c, 0, none⟩)) hwf
  have m4 : MapIs (Go.ChangeMaps.setBlock w3 b (.map #[⟨.int .i64 n, .pointer (some ⟨c, 0, none⟩), 0⟩] (0 + 1))) b _ _ := Go.ChangeMaps.heap_setBlock_same m3 _
  have g4 : w3.grownBy (Go.ChangeMaps.setBlock w3 b (.map #[⟨.int .i64 n, .pointer (some ⟨c, 0, none⟩), 0⟩] (0 + 1))) (some b) := ⟨rfl, rfl, rfl, by simp [Go.ChangeMaps.setBlock], fun i _ hi => Go.ChangeMaps.heap_setBlock_other m3 _ (fun e => hi (by rw [e]))⟩
  refine wpAnyH_ready (rs := [20]) (by kernel_rfl) (by simp) ?_
  refine AllReadyH.cons rfl (fun K_ hK => ?_) (AllReadyH.nil)
  go_simp
  have gn := g4
  have bp : Box (Go.ChangeMaps.setBlock w3 b (.map #[⟨.int .i64 n, .pointer (some ⟨c, 0, none⟩), 0⟩] (0 + 1))) p _ := bx3.grown_ g4 (by simpa using fun e => hne e.symm)
  refine hK.out _ _ ⟨(bp.2 7 _ rfl).1, (bp.2 5 _ rfl).1⟩ (fun hHeld => ?_)
  clear hK K_
  try simp only [List.getElem_toArray, List.getElem_cons_succ, List.getElem_cons_zero, Act.put, List.setIfInBounds_toArray, List.set_cons_zero, List.set_cons_succ]
  have hpl : p < w.heap.size := bx.1
  have hsr := hs.2.2.1
  have stt : Stay w3 (Go.ChangeMaps.setBlock w3 b (.map #[⟨.int .i64 n, .pointer (some ⟨c, 0, none⟩), 0⟩] (0 + 1))) [some b] := Stay.of_grown g4
  have b13F : Below b w3 (Go.ChangeMaps.setBlock w3 b (.map #[⟨.int .i64 n, .pointer (some ⟨c, 0, none⟩), 0⟩] (0 + 1))) := stt.below (by simp) (Nat.le_trans (Nat.le_of_lt hbl) b13.size)
  have rdF := (rdR.below (b13.mono (Nat.le_of_lt hbl))).below b13F
  have hend : OpenG w (Go.ChangeMaps.setBlock w3 b (.map #[⟨.int .i64 0, .pointer (some ⟨c, 0, none⟩), 0⟩] (0 + 1))) p b Bf T := by
    have h0 := HH.out
    subst h0
    exact ⟨c, s, r1, r2, ⟨⟨A, cR, v1, v2, v3, v4, bp, rdF⟩, m4, Nat.le_refl _, hbp, by omega, hBf⟩, ⟨bc.stay stt (by simp; omega), ⟨none, side_stay hs3 stt (by simp; omega) (by simp; omega), by simp⟩, ⟨none, ring_stay hr3 stt (by simp; omega), by simp⟩, by omega, by omega, hsr, by omega, by omega, by omega⟩, (b13.mono (Nat.le_of_lt hbl)).trans b13F⟩
  have HE := hide hend
  clear hend gn g4 m4 bp hst stt b13F rdF
  refine wpAnyH_done (by kernel_rfl) ?_ _
  refine CalmP.onlyN_here (hQ.out _ _ ?_)
  clear hQ K0
  go_wp2_with fail
  go_ret
  exact ⟨rfl, by have h1 := HE.out; have h0 := HH.out; subst h0; exact h1⟩
theorem GateN.below {w w' : World} {g0 p mb Bf : Nat} {T : Int} (h : GateN w g0 p mb Bf T) (hb : Below w.heap.size w w') : GateN w' g0 p mb Bf T := by
  obtain ⟨⟨A, cR, v1, v2, v3, v4, bx, rd⟩, m, o1, o2, o3⟩ := h
  have hp := bx.1
  exact ⟨⟨A, cR, v1, v2, v3, v4, bx.below hb, rd.below (hb.mono (by omega))⟩, m.below hb, o1, o2, o3⟩
set_option maxRecDepth 100000 in
set_option maxHeartbeats 1600000 in
theorem gtdo_open (p mb Bf : Nat) (T mx : Int) (w : World) (hG : GateN w mb p mb Bf T) (hm : ∀ W, Below mb w W → W.cell? ⟨1, 0, none⟩ = some (.int .i64 mx)) :
    Calls Tryz.prog 8 #[.pointer (some ⟨p, 0, none⟩), .agg #[.int .i64 1, .int .i64 0, .int .i64 0, .slice none 0 0]] w fun e w' => e = .returned (.tuple #[.int .i64 0, .slice none 0 0, .int .i64 0]) ∧ OpenG w w' p mb Bf T := by
  obtain ⟨ga, hga⟩ : ∃ ga, w.heap.size = ga := ⟨_, rfl⟩
  have ba := Box.new w #[.int .i64 1, .int .i64 0, .int .i64 0, .slice none 0 0] 39
  have b0 : Below w.heap.size w (w.alloc (.cells #[.int .i64 1, .int .i64 0, .int .i64 0, .slice none 0 0] 39)) := (Below.refl _ _).alloc (Nat.le_refl _) _
  have hmb : mb < w.heap.size := hG.2.1.lt
  rw [hga] at ba
  have hG1 := hG.below b0
  have HM := hide hm
  clear hm hG
  go_enter Tryz.func8, Tryz.ntmps8
  go_upto_region 1 with (fail)
  generalize w.alloc _ = w1 at ba b0 hG1 ⊢
  have t1 : Below mb w w1 := b0.mono (Nat.le_of_lt hmb)
  clear b0 hga
  obtain ⟨a0, a1, a2, a3⟩ := ba.four
  have q := gtopen_any p mb Bf T 0 w1 rfl hG1
  go_wp2_with fail
  refine q.mono ?_
  rintro e w2 ⟨rfl, c, s, r1, r2, hGc, hA, b2⟩
  have t2 := t1.trans b2
  have hmp : mb ≤ p + 1 := by have := hGc.o2; omega
  have q2 := gtwork_wait mb p mb c s r1 r2 Bf T 0 0 mx [] w2 hGc hA hd00 (fun W b => HM.out W (t2.trans (b.mono hmp)))
  clear a0 a1 a2 a3 q
  go_wp2_with fail
  refine q2.mono ?_
  rintro e w3 ⟨rfl, hA3, b3⟩
  have hend : OpenG w w3 p mb Bf T := ⟨c, s, r1, r2, hGc.below b3, hA3, t2.trans (b3.mono hmp)⟩
  go_wp2_with fail
  go_ret3
  exact ⟨rfl, hend⟩
end Go.Proofs.YtijlaclngibekaaGreatDoor
