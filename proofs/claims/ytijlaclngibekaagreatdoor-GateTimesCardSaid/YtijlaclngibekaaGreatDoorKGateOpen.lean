/- gate.Gate.open: a first connection. -/
import Derived.Test.YtijlaclngibekaaGreatDoorKGateNew
import Derived.Test.YtijlaclngibekaaGreatDoorKLinkHead
import Derived.Test.YtijlaclngibekaaGreatDoorKCalm
namespace Go.Proofs.YtijlaclngibekaaGreatDoor
open Go.RowKit
set_option linter.unusedVariables false
set_option linter.unusedSimpArgs false

/-- A connection in block c: its client's side in block s (its ring in block r1), its own ring in block r2. -/
def IsConn (w : World) (c s r1 r2 : Nat) : Prop :=
  Box w c [.pointer (some ⟨s, 0, none⟩), .pointer (some ⟨r2, 0, none⟩), .pointer none, .bool false, .int .i64 0, .int .i64 0] ∧ IsSide w s r1 16384 false none [] ∧ IsRing w 103 1 r2 0 16896 none []
theorem IsConn.below {w w' : World} {c s r1 r2 : Nat} (h : IsConn w c s r1 r2) (hb : Below w.heap.size w w') : IsConn w' c s r1 r2 := ⟨h.1.below hb, h.2.1.below hb, h.2.2.below hb⟩
theorem IsConn.grown {w w' : World} {c s r1 r2 b : Nat} (h : IsConn w c s r1 r2) (hg : w.grownBy w' (some b)) (h1 : b ≠ c) (h2 : b ≠ s) (h3 : b ≠ r1) (h4 : b ≠ r2) : IsConn w' c s r1 r2 :=
  ⟨h.1.grown_ hg (by simpa using h1), ⟨h.2.1.1.grown_ hg (by simpa using h2), h.2.1.2.1.grown hg (by simpa using h3) (.inr (by simp)), h.2.1.2.2⟩, h.2.2.grown hg (by simpa using h4) (.inr (by simp))⟩
def OpenPost (w w' : World) (b : Nat) (n : Int) : Prop := ∃ c s r1 r2, MapIs w' b #[⟨.int .i64 n, .pointer (some ⟨c, 0, none⟩), 0⟩] 1 ∧ IsConn w' c s r1 r2 ∧ w.heap.size ≤ c ∧ w.heap.size ≤ s ∧ w.heap.size ≤ r1 ∧ w.heap.size ≤ r2 ∧ r1 ≠ c ∧ r1 ≠ r2 ∧ w.grownBy w' (some b)
set_option maxRecDepth 100000 in
set_option maxHeartbeats 1600000 in
theorem gateopen_any (p b : Nat) (n : Int) (w : World) (h0 : 0 ≤ n ∧ n < 64) (hg : IsGate w p b) (hm : MapIs w b #[] 0) (hne : p ≠ b) :
    Calls Tryz.prog 13 #[.pointer (some ⟨p, 0, none⟩), .int .i64 n] w fun e w' => e = .returned (.int .i64 0) ∧ OpenPost w w' b n := by
  have hwf : (Lit.int .i64 n).wf = true := by simp [Lit.wf, IntKind.min, IntKind.max, IntKind.signed, IntKind.bits]; omega
  have hrun := hm.no n hwf
  obtain ⟨A, B, bx⟩ := hg
  obtain ⟨k0, -⟩ := bx.2 0 _ rfl
  obtain ⟨k1, -⟩ := bx.2 1 _ rfl
  obtain ⟨k2, -⟩ := bx.2 2 _ rfl
  obtain ⟨k3, -⟩ := bx.2 3 _ rfl
  obtain ⟨k4, -⟩ := bx.2 4 _ rfl
  obtain ⟨k5, -⟩ := bx.2 5 _ rfl
  obtain ⟨k6, -⟩ := bx.2 6 _ rfl
  obtain ⟨k7, -⟩ := bx.2 7 _ rfl
  have hn1 : ¬ n < 0 := by omega
  have hwp : IntKind.i64.wrap 16896 = 16896 := by decide
  have hbl := hm.lt
  have hn2 : ¬ (64 : Int) ≤ n := by omega
  go_enter Tryz.func13, Tryz.ntmps13
  go_upto_region 3 with (fail)
  refine CalmP.hideN (fun K0 hQ => ?_)
  refine wp_region_held_drew (S := (fun W : World => (W.cell? ⟨p, 7, none⟩ = some (.map (some b)) ∧ W.cell? ⟨p, 5, none⟩ = some (.int .i64 16384)))) (by kernel_rfl) ⟨k7, k5⟩ (fun hHeld => ?_)
  refine wpAnyH_take (i := 0) (v := ?_) rfl (by kernel_rfl) (by kernel_rfl) (by kernel_rfl) CalmP.onlyN_panic (Or.inl ⟨by kernel_rfl, ?_⟩) (by assumption) ?_
  rotate_left
  · (intro w_ hSw; go_simp; try with_reducible rfl)
  try simp only [List.getElem_toArray, List.getElem_cons_succ, List.getElem_cons_zero, Act.put, List.setIfInBounds_toArray, List.set_cons_zero, List.set_cons_succ]
  refine wpAnyH_take (i := 1) (v := ?_) rfl (by kernel_rfl) (by kernel_rfl) (by kernel_rfl) CalmP.onlyN_panic (Or.inl ⟨by kernel_rfl, ?_⟩) (by assumption) ?_
  rotate_left
  · (intro w_ hSw; go_simp; try with_reducible rfl)
  try simp only [List.getElem_toArray, List.getElem_cons_succ, List.getElem_cons_zero, Act.put, List.setIfInBounds_toArray, List.set_cons_zero, List.set_cons_succ]
  refine wpAnyH_take (i := 2) (v := ?_) rfl (by kernel_rfl) (by kernel_rfl) (by kernel_rfl) CalmP.onlyN_panic (Or.inl ⟨by kernel_rfl, ?_⟩) (by assumption) ?_
  rotate_left
  · (intro w_ hSw; go_simp; try with_reducible rfl)
  try simp only [List.getElem_toArray, List.getElem_cons_succ, List.getElem_cons_zero, Act.put, List.setIfInBounds_toArray, List.set_cons_zero, List.set_cons_succ]
  refine wpAnyH_take (i := 3) (v := ?_) rfl (by kernel_rfl) (by kernel_rfl) (by kernel_rfl) CalmP.onlyN_panic (Or.inl ⟨by kernel_rfl, ?_⟩) (by assumption) ?_
  rotate_left
  · (intro w_ hSw; go_simp; try with_reducible rfl)
  try simp only [List.getElem_toArray, List.getElem_cons_succ, List.getElem_cons_zero, Act.put, List.setIfInBounds_toArray, List.set_cons_zero, List.set_cons_succ]
  refine wpAnyH_take (i := 4) (v := ?_) rfl (by kernel_rfl) (by kernel_rfl) (by kernel_rfl) CalmP.onlyN_panic (Or.inl ⟨by kernel_rfl, ?_⟩) (by assumption) ?_
  rotate_left
  · (intro w_ hSw; go_simp; try with_reducible rfl)
  try simp only [List.getElem_toArray, List.getElem_cons_succ, List.getElem_cons_zero, Act.put, List.setIfInBounds_toArray, List.set_cons_zero, List.set_cons_succ]
  refine wpAnyH_take (i := 5) (v := ?_) rfl (by kernel_rfl) (by kernel_rfl) (by kernel_rfl) CalmP.onlyN_panic (Or.inl ⟨by kernel_rfl, ?_⟩) (by assumption) ?_
  rotate_left
  · (intro w_ hSw; go_simp; try with_reducible rfl)
  try simp only [List.getElem_toArray, List.getElem_cons_succ, List.getElem_cons_zero, Act.put, List.setIfInBounds_toArray, List.set_cons_zero, List.set_cons_succ]
  refine wpAnyH_take (i := 6) (v := ?_) rfl (by kernel_rfl) (by kernel_rfl) (by kernel_rfl) CalmP.onlyN_panic (Or.inl ⟨by kernel_rfl, ?_⟩) (by assumption) ?_
  rotate_left
  · (intro w_ hSw; go_simp; try with_reducible rfl)
  try simp only [List.getElem_toArray, List.getElem_cons_succ, List.getElem_cons_zero, Act.put, List.setIfInBounds_toArray, List.set_cons_zero, List.set_cons_succ]
  refine wpAnyH_take (i := 7) (v := ?_) rfl (by kernel_rfl) (by kernel_rfl) (by kernel_rfl) CalmP.onlyN_panic (Or.inl ⟨by kernel_rfl, ?_⟩) (by assumption) ?_
  rotate_left
  · (intro w_ hSw; go_simp; try with_reducible rfl)
  try simp only [List.getElem_toArray, List.getElem_cons_succ, List.getElem_cons_zero, Act.put, List.setIfInBounds_toArray, List.set_cons_zero, List.set_cons_succ]
  refine wpAnyH_take (i := 8) (v := ?_) rfl (by kernel_rfl) (by kernel_rfl) (by kernel_rfl) CalmP.onlyN_panic (Or.inl ⟨by kernel_rfl, ?_⟩) (by assumption) ?_
  rotate_left
  · (intro w_ hSw; go_simp; try with_reducible rfl)
  try simp only [List.getElem_toArray, List.getElem_cons_succ, List.getElem_cons_zero, Act.put, List.setIfInBounds_toArray, List.set_cons_zero, List.set_cons_succ]
  refine wpAnyH_take (i := 9) (v := ?_) rfl (by kernel_rfl) (by kernel_rfl) (by kernel_rfl) CalmP.onlyN_panic (Or.inl ⟨by kernel_rfl, ?_⟩) (by assumption) ?_
  rotate_left
  · (intro w_ hSw; go_simp; try with_reducible rfl)
  try simp only [List.getElem_toArray, List.getElem_cons_succ, List.getElem_cons_zero, Act.put, List.setIfInBounds_toArray, List.set_cons_zero, List.set_cons_succ]
  refine wpAnyH_take (i := 11) (v := ?_) rfl (by kernel_rfl) (by kernel_rfl) (by kernel_rfl) CalmP.onlyN_panic (Or.inl ⟨by kernel_rfl, ?_⟩) (by assumption) ?_
  rotate_left
  · (intro w_ hSw; go_simp; try with_reducible rfl)
  try simp only [List.getElem_toArray, List.getElem_cons_succ, List.getElem_cons_zero, Act.put, List.setIfInBounds_toArray, List.set_cons_zero, List.set_cons_succ]
  refine wpAnyH_take (i := 12) (v := ?_) rfl (by kernel_rfl) (by kernel_rfl) (by kernel_rfl) CalmP.onlyN_panic (Or.inl ⟨by kernel_rfl, ?_⟩) (by assumption) ?_
  rotate_left
  · (intro w_ hSw; go_simp; try with_reducible rfl)
  try simp only [List.getElem_toArray, List.getElem_cons_succ, List.getElem_cons_zero, Act.put, List.setIfInBounds_toArray, List.set_cons_zero, List.set_cons_succ]
  refine wpAnyH_take (i := 13) (v := ?_) rfl (by kernel_rfl) (by kernel_rfl) (by kernel_rfl) CalmP.onlyN_panic (Or.inl ⟨by kernel_rfl, ?_⟩) (by assumption) ?_
  rotate_left
  · (intro w_ hSw; go_simp; try with_reducible rfl)
  try simp only [List.getElem_toArray, List.getElem_cons_succ, List.getElem_cons_zero, Act.put, List.setIfInBounds_toArray, List.set_cons_zero, List.set_cons_succ]
  refine wpAnyH_take (i := 14) (v := ?_) rfl (by kernel_rfl) (by kernel_rfl) (by kernel_rfl) CalmP.onlyN_panic (Or.inl ⟨by kernel_rfl, ?_⟩) (by assumption) ?_
  rotate_left
  · (intro w_ hSw; go_simp; try with_reducible rfl)
  try simp only [List.getElem_toArray, List.getElem_cons_succ, List.getElem_cons_zero, Act.put, List.setIfInBounds_toArray, List.set_cons_zero, List.set_cons_succ]
  refine wpAnyH_take (i := 15) (v := ?_) rfl (by kernel_rfl) (by kernel_rfl) (by kernel_rfl) CalmP.onlyN_panic (Or.inl ⟨by kernel_rfl, ?_⟩) (by assumption) ?_
  rotate_left
  · (intro w_ hSw; go_simp; try with_reducible rfl)
  try simp only [List.getElem_toArray, List.getElem_cons_succ, List.getElem_cons_zero, Act.put, List.setIfInBounds_toArray, List.set_cons_zero, List.set_cons_succ]
  refine wpAnyH_take (i := 16) (v := ?_) rfl (by kernel_rfl) (by kernel_rfl) (by kernel_rfl) CalmP.onlyN_panic (Or.inl ⟨by kernel_rfl, ?_⟩) (by assumption) ?_
  rotate_left
  · (intro w_ hSw; go_simp; try with_reducible rfl)
  try simp only [List.getElem_toArray, List.getElem_cons_succ, List.getElem_cons_zero, Act.put, List.setIfInBounds_toArray, List.set_cons_zero, List.set_cons_succ]
  refine wpAnyH_ready (rs := [10]) (by kernel_rfl) (by simp) ?_
  refine AllReadyH.cons rfl (fun K_ hK => ?_) AllReadyH.nil
  go_simp
  refine (linknew_any 16384 w.drew).mono ?_
  rintro e w1 ⟨s, r1, rfl, hs, hls, hlr, b1⟩
  have hls : w.heap.size ≤ s := hls
  have hlr : w.heap.size ≤ r1 := hlr
  have b1' : Below w.heap.size w w1 := (show Below w.heap.size w w.drew from below_drewN (k := 1) (Below.refl _ _)).trans b1
  have bx1 := bx.below b1'
  refine hK.out _ _ ⟨(bx1.2 7 _ rfl).1, (bx1.2 5 _ rfl).1⟩ (fun hHeld => ?_)
  clear hK K_
  try simp only [List.getElem_toArray, List.getElem_cons_succ, List.getElem_cons_zero, Act.put, List.setIfInBounds_toArray, List.set_cons_zero, List.set_cons_succ]
  refine wpAnyH_ready (rs := [17]) (by kernel_rfl) (by simp) ?_
  refine AllReadyH.cons rfl (fun K_ hK => ?_) AllReadyH.nil
  go_simp
  refine (newB 16896 w1).mono ?_
  rintro e w2 ⟨rfl, hr, b2⟩
  have hr : IsRing w2 103 1 w1.heap.size 0 16896 none [] := hr
  obtain ⟨r2, hr2⟩ : ∃ r2, w1.heap.size = r2 := ⟨_, rfl⟩
  have b12 : Below w.heap.size w w2 := b1'.trans (b2.mono b1'.size)
  have bx2 := bx1.below b2
  have hs2 := hs.below b2
  have hs1lt : s < w1.heap.size := hs.1.1
  have hr1lt : r1 < w1.heap.size := hs.2.1.lt
  have hs12 := b1'.size
  rw [hr2] at hr ⊢
  refine hK.out _ _ ⟨(bx2.2 7 _ rfl).1, (bx2.2 5 _ rfl).1⟩ (fun hHeld => ?_)
  clear hK K_
  try simp only [List.getElem_toArray, List.getElem_cons_succ, List.getElem_cons_zero, Act.put, List.setIfInBounds_toArray, List.set_cons_zero, List.set_cons_succ]
  refine wpAnyH_take (i := 18) (v := ?_) rfl (by kernel_rfl) (by kernel_rfl) (by kernel_rfl) CalmP.onlyN_panic (Or.inl ⟨by kernel_rfl, ?_⟩) (by assumption) ?_
  rotate_left
  · (intro w_ hSw; go_simp; try with_reducible rfl)
  try simp only [List.getElem_toArray, List.getElem_cons_succ, List.getElem_cons_zero, Act.put, List.setIfInBounds_toArray, List.set_cons_zero, List.set_cons_succ]
  have bc := Box.new w2 #[.pointer (some ⟨s, 0, none⟩), .pointer (some ⟨r2, 0, none⟩), .pointer none, .bool false, .int .i64 0, .int .i64 0] 61
  have b3 : Below w2.heap.size w2 (w2.alloc (.cells #[.pointer (some ⟨s, 0, none⟩), .pointer (some ⟨r2, 0, none⟩), .pointer none, .bool false, .int .i64 0, .int .i64 0] 61)) := (Below.refl _ _).alloc (Nat.le_refl _) _
  have hc2 := b2.size
  obtain ⟨c, hc⟩ : ∃ c, w2.heap.size = c := ⟨_, rfl⟩
  have hr2lt : r2 < w2.heap.size := hr.lt
  rw [hc] at bc
  refine wpAnyH_ready (rs := [19]) (by kernel_rfl) (by simp) ?_
  refine AllReadyH.cons rfl (fun K_ hK => ?_) AllReadyH.nil
  go_simp
  have bx3 := bx2.below b3
  have hs3 := hs2.below b3
  have hr3 := hr.below b3
  have m3 := (hm.below b12).below b3
  have b13 : Below w.heap.size w _ := b12.trans (b3.mono b12.size)
  refine hK.out _ _ ⟨(bx3.2 7 _ rfl).1, (bx3.2 5 _ rfl).1⟩ (fun hHeld => ?_)
  clear hK K_
  try simp only [List.getElem_toArray, List.getElem_cons_succ, List.getElem_cons_zero, Act.put, List.setIfInBounds_toArray, List.set_cons_zero, List.set_cons_succ]
  generalize w2.alloc _ = w3 at bc b3 bx3 hs3 hr3 m3 b13 ⊢
  have hst := m3.store n (.pointer (some ⟨c, 0, none⟩)) hwf
  have m4 : MapIs (Go.ChangeMaps.setBlock w3 b (.map #[⟨.int .i64 n, .pointer (some ⟨c, 0, none⟩), 0⟩] (0 + 1))) b _ _ := Go.ChangeMaps.heap_setBlock_same m3 _
  have g4 : w3.grownBy (Go.ChangeMaps.setBlock w3 b (.map #[⟨.int .i64 n, .pointer (some ⟨c, 0, none⟩), 0⟩] (0 + 1))) (some b) := ⟨rfl, rfl, rfl, by simp [Go.ChangeMaps.setBlock], fun i _ hi => Go.ChangeMaps.heap_setBlock_other m3 _ (fun e => hi (by rw [e]))⟩
  refine wpAnyH_ready (rs := [20]) (by kernel_rfl) (by simp) ?_
  refine AllReadyH.cons rfl (fun K_ hK => ?_) AllReadyH.nil
  go_simp
  have gn := g4
  have bp : Box (Go.ChangeMaps.setBlock w3 b (.map #[⟨.int .i64 n, .pointer (some ⟨c, 0, none⟩), 0⟩] (0 + 1))) p _ := bx3.grown_ g4 (by simpa using fun e => hne e.symm)
  refine hK.out _ _ ⟨(bp.2 7 _ rfl).1, (bp.2 5 _ rfl).1⟩ (fun hHeld => ?_)
  clear hK K_
  try simp only [List.getElem_toArray, List.getElem_cons_succ, List.getElem_cons_zero, Act.put, List.setIfInBounds_toArray, List.set_cons_zero, List.set_cons_succ]
  have hend : OpenPost w (Go.ChangeMaps.setBlock w3 b (.map #[⟨.int .i64 n, .pointer (some ⟨c, 0, none⟩), 0⟩] 1)) b n :=
    ⟨c, s, r1, r2, m4, IsConn.grown ⟨bc, hs3, hr3⟩ g4 (by omega) (by omega) (by omega) (by omega), by omega, hls, hlr, by omega, by omega, by omega, ⟨g4.os.trans b13.os, g4.tape.trans b13.tape, g4.output.trans b13.output, Nat.le_trans b13.size g4.size, fun k hk hne => (g4.block k (Nat.lt_of_lt_of_le hk b13.size) hne).trans (b13.block k hk)⟩⟩
  have HE := hide hend
  clear hend gn g4 m4 bp hst
  refine wpAnyH_done (by kernel_rfl) ?_ _
  refine CalmP.onlyN_here (hQ.out _ _ ?_)
  clear hQ K0
  go_wp2_with fail
  go_ret
  exact ⟨rfl, HE.out⟩
end Go.Proofs.YtijlaclngibekaaGreatDoor
