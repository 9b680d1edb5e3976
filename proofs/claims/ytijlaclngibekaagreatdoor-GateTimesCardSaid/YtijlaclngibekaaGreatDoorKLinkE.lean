/- link.Side with a body of a length: contracts (printed by gen/linkb.py). -/
import Derived.Test.YtijlaclngibekaaGreatDoorKLinkHead
import Derived.Test.YtijlaclngibekaaGreatDoorKBodyW
namespace Go.Proofs.YtijlaclngibekaaGreatDoor
open Go.RowKit
set_option linter.unusedVariables false
set_option linter.unusedSimpArgs false

def dec0 : List Value := [.slice none 0 0, .int .i64 0, .int .i64 0, .int .i64 0, .int .i64 0]
/-- A side in block s, its ring in block r (rs), a body of a length in block b (bs). -/
def IsSideB (w : World) (s r mo : Nat) (d : Option Nat) (rs : List UInt8) (b : Nat) (own : Option Nat) (left : Int) (cb : Nat) (bs : List UInt8) : Prop :=
  Box w s [.pointer (some ⟨r, 0, none⟩), .bool false, .pointer (some ⟨b, 0, none⟩)] ∧ IsRing w 103 1 r rs.length mo d (bcells rs) ∧ s ≠ r ∧ d ≠ some s ∧ mo ≤ 65536 ∧
    IsBodyW w b own 1 left (.pointer (some ⟨cb, 0, none⟩)) bs.length bs false ∧ Box w cb dec0 ∧ (b ≠ s ∧ b ≠ r ∧ cb ≠ s ∧ cb ≠ r ∧ cb ≠ b ∧ own ≠ some s ∧ own ≠ some r ∧ own ≠ some cb) ∧ bs.length ≤ 65536
section
variable {w w' : World} {s r mo : Nat} {d : Option Nat} {rs : List UInt8} {b : Nat} {own : Option Nat} {left : Int} {cb : Nat} {bs : List UInt8}
theorem IsBodyW.below {kind : Int} {p : Value} {n : Nat} {ended : Bool} (h : IsBodyW w b own kind left p n bs ended) (hb : Below w.heap.size w w') : IsBodyW w' b own kind left p n bs ended := by
  obtain ⟨A, c, k1, k2, k3, k4⟩ := h
  exact ⟨A, c, k1.below hb, k2.below hb, k3, k4⟩
theorem IsSideB.below (h : IsSideB w s r mo d rs b own left cb bs) (hb : Below w.heap.size w w') : IsSideB w' s r mo d rs b own left cb bs :=
  ⟨h.1.below hb, h.2.1.below hb, h.2.2.1, h.2.2.2.1, h.2.2.2.2.1, h.2.2.2.2.2.1.below hb, h.2.2.2.2.2.2.1.below hb, h.2.2.2.2.2.2.2⟩
theorem IsSideB.drewN (h : IsSideB w s r mo d rs b own left cb bs) (k : Nat) : IsSideB (w.drewN k) s r mo d rs b own left cb bs := h.below (below_drewN (Below.refl _ _))
end
set_option maxHeartbeats 800000 in
theorem dec0held (cb : Nat) (w : World) (h : Box w cb dec0) : Calls Tryz.prog 73 #[.pointer (some ⟨cb, 0, none⟩)] w fun e w' => e = .returned (.int .i64 0) ∧ w = w' := by
  have k0 := (h.2 0 _ rfl).1
  go_enter Tryz.func73, Tryz.ntmps73
  go_wp2
  go_ret
  exact ⟨rfl, rfl⟩
set_option maxHeartbeats 800000 in
theorem bodyheldW (b : Nat) (own : Option Nat) (left : Int) (cb : Nat) (bs : List UInt8) (w : World) (h : IsBodyW w b own 1 left (.pointer (some ⟨cb, 0, none⟩)) bs.length bs false) (hc : Box w cb dec0) :
    Calls Tryz.prog 47 #[.pointer (some ⟨b, 0, none⟩)] w fun e w' => e = .returned (.int .i64 (bs.length : Nat)) ∧ ∃ k, w' = w.drewN k := by
  obtain ⟨A, c, hx, ho, -, -⟩ := h
  obtain ⟨k0, k1, k2, k3, k4⟩ := hx.five
  have q := fun k => dec0held cb (w.drewN k) (hc.below (below_drewN (Below.refl _ _)))
  have hsm : bs.length ≤ maxLen := by obtain ⟨A', c', hv, h1, h2⟩ := ho.shape; cases hv; omega
  have hz : bs.length ≤ 9223372036854775807 := Nat.le_trans hsm (by decide)
  obtain ⟨n, hn⟩ : ∃ n, n = bs.length := ⟨_, rfl⟩
  rw [← hn] at k2 hz ⊢
  have hw : IntKind.i64.wrap ((n : Int) + 0) = (n : Int) := by rw [IntKind.wrap_i64]; omega
  clear hn hx ho hsm
  go_enter Tryz.func47, Tryz.ntmps47
  go_wp2_with fail
  go_quiet ((go_at_call 73; exact Calls.quiet_of_same ((q _).mono fun _ _ h => ⟨h.1, h.2.symm⟩)))
  go_wp2_with fail
  go_ret
  exact ⟨ret_int (by first | rfl | omega | (simp only [Int.add_zero]; rw [IntKind.wrap_i64]; omega)), _, rfl⟩
set_option maxRecDepth 100000 in
set_option maxHeartbeats 3200000 in
theorem linkheldB_any (s r mo : Nat) (d : Option Nat) (rs : List UInt8) (b : Nat) (own : Option Nat) (left : Int) (cb : Nat) (bs : List UInt8) (w : World) (h : IsSideB w s r mo d rs b own left cb bs) :
    Calls Tryz.prog 25 #[.pointer (some ⟨s, 0, none⟩)] w fun e w' => e = .returned (.int .i64 ((rs.length : Int) + (bs.length : Int))) ∧ ∃ k, w' = w.drewN k := by
  have hmo := h.2.1.le
  have hm2 := h.2.2.2.2.1
  have hm3 := h.2.2.2.2.2.2.2.2
  have hw1 : IntKind.i64.wrap ((rs.length : Int) + (bs.length : Int)) = (rs.length : Int) + (bs.length : Int) := by rw [IntKind.wrap_i64]; omega
  go_enter Tryz.func25, Tryz.ntmps25
  go_wp2_with fail
  go_upto_region 3 with (fail)
  refine CalmP.hideN (fun K0 hQ => ?_)
  refine wp_region_held_drew (S := (fun W : World => IsSideB W s r mo d rs b own left cb bs)) (by kernel_rfl) (h.drewN 1) (fun hHeld => ?_)
  refine wpAnyH_take (i := 0) (v := ?_) rfl (by kernel_rfl) (by kernel_rfl) (by kernel_rfl) CalmP.onlyN_panic (Or.inl ⟨by kernel_rfl, ?_⟩) (by assumption) ?_
  rotate_left
  · (intro w_ hSw; (try dsimp only at hSw); obtain ⟨k0_, k1_, k2_⟩ := hSw.1.three_; go_simp; try with_reducible rfl)
  try simp only [List.getElem_toArray, List.getElem_cons_succ, List.getElem_cons_zero, Act.put, List.setIfInBounds_toArray, List.set_cons_zero, List.set_cons_succ]
  refine wpAnyH_take (i := 1) (v := ?_) rfl (by kernel_rfl) (by kernel_rfl) (by kernel_rfl) CalmP.onlyN_panic (Or.inl ⟨by kernel_rfl, ?_⟩) (by assumption) ?_
  rotate_left
  · (intro w_ hSw; (try dsimp only at hSw); obtain ⟨k0_, k1_, k2_⟩ := hSw.1.three_; go_simp; try with_reducible rfl)
  try simp only [List.getElem_toArray, List.getElem_cons_succ, List.getElem_cons_zero, Act.put, List.setIfInBounds_toArray, List.set_cons_zero, List.set_cons_succ]
  refine wpAnyH_take (i := 2) (v := ?_) rfl (by kernel_rfl) (by kernel_rfl) (by kernel_rfl) CalmP.onlyN_panic (Or.inl ⟨by kernel_rfl, ?_⟩) (by assumption) ?_
  rotate_left
  · (intro w_ hSw; (try dsimp only at hSw); obtain ⟨k0_, k1_, k2_⟩ := hSw.1.three_; go_simp; try with_reducible rfl)
  try simp only [List.getElem_toArray, List.getElem_cons_succ, List.getElem_cons_zero, Act.put, List.setIfInBounds_toArray, List.set_cons_zero, List.set_cons_succ]
  refine wpAnyH_take (i := 3) (v := ?_) rfl (by kernel_rfl) (by kernel_rfl) (by kernel_rfl) CalmP.onlyN_panic (Or.inl ⟨by kernel_rfl, ?_⟩) (by assumption) ?_
  rotate_left
  · (intro w_ hSw; (try dsimp only at hSw); obtain ⟨k0_, k1_, k2_⟩ := hSw.1.three_; go_simp; try with_reducible rfl)
  try simp only [List.getElem_toArray, List.getElem_cons_succ, List.getElem_cons_zero, Act.put, List.setIfInBounds_toArray, List.set_cons_zero, List.set_cons_succ]
  refine wpAnyH_take (i := 5) (v := ?_) rfl (by kernel_rfl) (by kernel_rfl) (by kernel_rfl) CalmP.onlyN_panic (Or.inl ⟨by kernel_rfl, ?_⟩) (by assumption) ?_
  rotate_left
  · (intro w_ hSw; (try dsimp only at hSw); obtain ⟨k0_, k1_, k2_⟩ := hSw.1.three_; go_simp; try with_reducible rfl)
  try simp only [List.getElem_toArray, List.getElem_cons_succ, List.getElem_cons_zero, Act.put, List.setIfInBounds_toArray, List.set_cons_zero, List.set_cons_succ]
  refine wpAnyH_take (i := 6) (v := ?_) rfl (by kernel_rfl) (by kernel_rfl) (by kernel_rfl) CalmP.onlyN_panic (Or.inl ⟨by kernel_rfl, ?_⟩) (by assumption) ?_
  rotate_left
  · (intro w_ hSw; (try dsimp only at hSw); obtain ⟨k0_, k1_, k2_⟩ := hSw.1.three_; go_simp; try with_reducible rfl)
  try simp only [List.getElem_toArray, List.getElem_cons_succ, List.getElem_cons_zero, Act.put, List.setIfInBounds_toArray, List.set_cons_zero, List.set_cons_succ]
  refine wpAnyH_take (i := 7) (v := ?_) rfl (by kernel_rfl) (by kernel_rfl) (by kernel_rfl) CalmP.onlyN_panic (Or.inl ⟨by kernel_rfl, ?_⟩) (by assumption) ?_
  rotate_left
  · (intro w_ hSw; (try dsimp only at hSw); obtain ⟨k0_, k1_, k2_⟩ := hSw.1.three_; go_simp; try with_reducible rfl)
  try simp only [List.getElem_toArray, List.getElem_cons_succ, List.getElem_cons_zero, Act.put, List.setIfInBounds_toArray, List.set_cons_zero, List.set_cons_succ]
  refine wpAnyH_take (i := 8) (v := ?_) rfl (by kernel_rfl) (by kernel_rfl) (by kernel_rfl) CalmP.onlyN_panic (Or.inl ⟨by kernel_rfl, ?_⟩) (by assumption) ?_
  rotate_left
  · (intro w_ hSw; (try dsimp only at hSw); obtain ⟨k0_, k1_, k2_⟩ := hSw.1.three_; go_simp; try with_reducible rfl)
  try simp only [List.getElem_toArray, List.getElem_cons_succ, List.getElem_cons_zero, Act.put, List.setIfInBounds_toArray, List.set_cons_zero, List.set_cons_succ]
  refine CalmP.take_calm (i := 4) (v := .int .i64 (rs.length : Nat)) rfl (by kernel_rfl) (by kernel_rfl) (by kernel_rfl) CalmP.onlyN_panic (Or.inl ⟨by kernel_rfl, ?_⟩) (by assumption) ?_
  · (intro w_ hSw; (try dsimp only at hSw); go_simp; exact (lenB r _ mo d _ w_ hSw.2.1).mono (fun e w' h => ⟨h.1, h.2.symm⟩))
  try simp only [List.getElem_toArray, List.getElem_cons_succ, List.getElem_cons_zero, Act.put, List.setIfInBounds_toArray, List.set_cons_zero, List.set_cons_succ]
  refine wpAnyH_ready (rs := [9]) (by kernel_rfl) (by simp) ?_
  refine AllReadyH.cons rfl (fun K_ hK => ?_) AllReadyH.nil
  go_simp
  refine (bodyheldW b own left cb bs _ (h.drewN 1).2.2.2.2.2.1 (h.drewN 1).2.2.2.2.2.2.1).mono ?_
  rintro e V1 ⟨rfl, kq, rfl⟩
  refine hK.out _ _ ((h.drewN 1).drewN kq) (fun hHeld => ?_)
  clear hK K_
  try simp only [List.getElem_toArray, List.getElem_cons_succ, List.getElem_cons_zero, Act.put, List.setIfInBounds_toArray, List.set_cons_zero, List.set_cons_succ]
  refine wpAnyH_take (i := 10) (v := ?_) rfl (by kernel_rfl) (by kernel_rfl) (by kernel_rfl) CalmP.onlyN_panic (Or.inl ⟨by kernel_rfl, ?_⟩) (by assumption) ?_
  rotate_left
  · (intro w_ hSw; (try dsimp only at hSw); obtain ⟨k0_, k1_, k2_⟩ := hSw.1.three_; go_simp; try with_reducible rfl)
  try simp only [List.getElem_toArray, List.getElem_cons_succ, List.getElem_cons_zero, Act.put, List.setIfInBounds_toArray, List.set_cons_zero, List.set_cons_succ]
  refine wpAnyH_take (i := 11) (v := ?_) rfl (by kernel_rfl) (by kernel_rfl) (by kernel_rfl) CalmP.onlyN_panic (Or.inl ⟨by kernel_rfl, ?_⟩) (by assumption) ?_
  rotate_left
  · (intro w_ hSw; (try dsimp only at hSw); obtain ⟨k0_, k1_, k2_⟩ := hSw.1.three_; go_simp; try with_reducible rfl)
  try simp only [List.getElem_toArray, List.getElem_cons_succ, List.getElem_cons_zero, Act.put, List.setIfInBounds_toArray, List.set_cons_zero, List.set_cons_succ]
  refine wpAnyH_done (by kernel_rfl) ?_ _
  refine CalmP.onlyN_here (hQ.out _ _ ?_)
  clear hQ K0
  go_wp2_with fail
  go_ret
  exact ⟨rfl, _, World.drewN_drewN _ _ _⟩
set_option maxRecDepth 100000 in
set_option maxHeartbeats 3200000 in
theorem linkmostB_any (s r mo : Nat) (d : Option Nat) (rs : List UInt8) (b : Nat) (own : Option Nat) (left : Int) (cb : Nat) (bs : List UInt8) (w : World) (h : IsSideB w s r mo d rs b own left cb bs) :
    Calls Tryz.prog 52 #[.pointer (some ⟨s, 0, none⟩)] w fun e w' => e = .returned (.int .i64 (mo : Nat)) ∧ ∃ k, w' = w.drewN k := by
  have hmo := h.2.1.le
  have hm2 := h.2.2.2.2.1
  have hw1 : IntKind.i64.wrap ((rs.length : Int) + ((mo : Int) - (rs.length : Int))) = (mo : Int) := by rw [IntKind.wrap_i64]; omega
  have hs1 : (rs.length : Int) + ((mo : Int) - (rs.length : Int)) = (mo : Int) := by omega
  have hw2 : IntKind.i64.wrap (mo : Int) = (mo : Int) := by rw [IntKind.wrap_i64]; omega
  go_enter Tryz.func52, Tryz.ntmps52
  go_wp2_with fail
  go_upto_region 1 with (fail)
  refine CalmP.hideN (fun K0 hQ => ?_)
  refine wp_region_held_drew (S := (fun W : World => IsSideB W s r mo d rs b own left cb bs)) (by kernel_rfl) (h.drewN 1) (fun hHeld => ?_)
  refine wpAnyH_take (i := 0) (v := ?_) rfl (by kernel_rfl) (by kernel_rfl) (by kernel_rfl) CalmP.onlyN_panic (Or.inl ⟨by kernel_rfl, ?_⟩) (by assumption) ?_
  rotate_left
  · (intro w_ hSw; (try dsimp only at hSw); obtain ⟨k0_, k1_, k2_⟩ := hSw.1.three_; go_simp; try with_reducible rfl)
  try simp only [List.getElem_toArray, List.getElem_cons_succ, List.getElem_cons_zero, Act.put, List.setIfInBounds_toArray, List.set_cons_zero, List.set_cons_succ]
  refine wpAnyH_take (i := 1) (v := ?_) rfl (by kernel_rfl) (by kernel_rfl) (by kernel_rfl) CalmP.onlyN_panic (Or.inl ⟨by kernel_rfl, ?_⟩) (by assumption) ?_
  rotate_left
  · (intro w_ hSw; (try dsimp only at hSw); obtain ⟨k0_, k1_, k2_⟩ := hSw.1.three_; go_simp; try with_reducible rfl)
  try simp only [List.getElem_toArray, List.getElem_cons_succ, List.getElem_cons_zero, Act.put, List.setIfInBounds_toArray, List.set_cons_zero, List.set_cons_succ]
  refine wpAnyH_take (i := 2) (v := ?_) rfl (by kernel_rfl) (by kernel_rfl) (by kernel_rfl) CalmP.onlyN_panic (Or.inl ⟨by kernel_rfl, ?_⟩) (by assumption) ?_
  rotate_left
  · (intro w_ hSw; (try dsimp only at hSw); obtain ⟨k0_, k1_, k2_⟩ := hSw.1.three_; go_simp; try with_reducible rfl)
  try simp only [List.getElem_toArray, List.getElem_cons_succ, List.getElem_cons_zero, Act.put, List.setIfInBounds_toArray, List.set_cons_zero, List.set_cons_succ]
  refine wpAnyH_take (i := 3) (v := ?_) rfl (by kernel_rfl) (by kernel_rfl) (by kernel_rfl) CalmP.onlyN_panic (Or.inl ⟨by kernel_rfl, ?_⟩) (by assumption) ?_
  rotate_left
  · (intro w_ hSw; (try dsimp only at hSw); obtain ⟨k0_, k1_, k2_⟩ := hSw.1.three_; go_simp; try with_reducible rfl)
  try simp only [List.getElem_toArray, List.getElem_cons_succ, List.getElem_cons_zero, Act.put, List.setIfInBounds_toArray, List.set_cons_zero, List.set_cons_succ]
  refine wpAnyH_take (i := 5) (v := ?_) rfl (by kernel_rfl) (by kernel_rfl) (by kernel_rfl) CalmP.onlyN_panic (Or.inl ⟨by kernel_rfl, ?_⟩) (by assumption) ?_
  rotate_left
  · (intro w_ hSw; (try dsimp only at hSw); obtain ⟨k0_, k1_, k2_⟩ := hSw.1.three_; go_simp; try with_reducible rfl)
  try simp only [List.getElem_toArray, List.getElem_cons_succ, List.getElem_cons_zero, Act.put, List.setIfInBounds_toArray, List.set_cons_zero, List.set_cons_succ]
  refine wpAnyH_take (i := 6) (v := ?_) rfl (by kernel_rfl) (by kernel_rfl) (by kernel_rfl) CalmP.onlyN_panic (Or.inl ⟨by kernel_rfl, ?_⟩) (by assumption) ?_
  rotate_left
  · (intro w_ hSw; (try dsimp only at hSw); obtain ⟨k0_, k1_, k2_⟩ := hSw.1.three_; go_simp; try with_reducible rfl)
  try simp only [List.getElem_toArray, List.getElem_cons_succ, List.getElem_cons_zero, Act.put, List.setIfInBounds_toArray, List.set_cons_zero, List.set_cons_succ]
  refine wpAnyH_take (i := 7) (v := ?_) rfl (by kernel_rfl) (by kernel_rfl) (by kernel_rfl) CalmP.onlyN_panic (Or.inl ⟨by kernel_rfl, ?_⟩) (by assumption) ?_
  rotate_left
  · (intro w_ hSw; (try dsimp only at hSw); obtain ⟨k0_, k1_, k2_⟩ := hSw.1.three_; go_simp; try with_reducible rfl)
  try simp only [List.getElem_toArray, List.getElem_cons_succ, List.getElem_cons_zero, Act.put, List.setIfInBounds_toArray, List.set_cons_zero, List.set_cons_succ]
  refine wpAnyH_take (i := 8) (v := ?_) rfl (by kernel_rfl) (by kernel_rfl) (by kernel_rfl) CalmP.onlyN_panic (Or.inl ⟨by kernel_rfl, ?_⟩) (by assumption) ?_
  rotate_left
  · (intro w_ hSw; (try dsimp only at hSw); obtain ⟨k0_, k1_, k2_⟩ := hSw.1.three_; go_simp; try with_reducible rfl)
  try simp only [List.getElem_toArray, List.getElem_cons_succ, List.getElem_cons_zero, Act.put, List.setIfInBounds_toArray, List.set_cons_zero, List.set_cons_succ]
  refine CalmP.take_calm (i := 4) (v := .int .i64 (rs.length : Nat)) rfl (by kernel_rfl) (by kernel_rfl) (by kernel_rfl) CalmP.onlyN_panic (Or.inl ⟨by kernel_rfl, ?_⟩) (by assumption) ?_
  · (intro w_ hSw; (try dsimp only at hSw); go_simp; exact (lenB r _ mo d _ w_ hSw.2.1).mono (fun e w' h => ⟨h.1, h.2.symm⟩))
  try simp only [List.getElem_toArray, List.getElem_cons_succ, List.getElem_cons_zero, Act.put, List.setIfInBounds_toArray, List.set_cons_zero, List.set_cons_succ]
  refine wpAnyH_ready (rs := [9]) (by kernel_rfl) (by simp) ?_
  refine AllReadyH.cons rfl (fun K_ hK => ?_) AllReadyH.nil
  go_simp
  refine (roomB r _ mo d _ _ (h.drewN 1).2.1 (by have := h.2.2.2.2.1; omega)).mono ?_
  rintro e V1 ⟨rfl, kq, rfl⟩
  refine hK.out _ _ ((h.drewN 1).drewN kq) (fun hHeld => ?_)
  clear hK K_
  try simp only [List.getElem_toArray, List.getElem_cons_succ, List.getElem_cons_zero, Act.put, List.setIfInBounds_toArray, List.set_cons_zero, List.set_cons_succ]
  refine wpAnyH_take (i := 10) (v := ?_) rfl (by kernel_rfl) (by kernel_rfl) (by kernel_rfl) CalmP.onlyN_panic (Or.inl ⟨by kernel_rfl, ?_⟩) (by assumption) ?_
  rotate_left
  · (intro w_ hSw; (try dsimp only at hSw); obtain ⟨k0_, k1_, k2_⟩ := hSw.1.three_; go_simp; try with_reducible rfl)
  try simp only [List.getElem_toArray, List.getElem_cons_succ, List.getElem_cons_zero, Act.put, List.setIfInBounds_toArray, List.set_cons_zero, List.set_cons_succ]
  refine wpAnyH_take (i := 11) (v := ?_) rfl (by kernel_rfl) (by kernel_rfl) (by kernel_rfl) CalmP.onlyN_panic (Or.inl ⟨by kernel_rfl, ?_⟩) (by assumption) ?_
  rotate_left
  · (intro w_ hSw; (try dsimp only at hSw); obtain ⟨k0_, k1_, k2_⟩ := hSw.1.three_; go_simp; try with_reducible rfl)
  try simp only [List.getElem_toArray, List.getElem_cons_succ, List.getElem_cons_zero, Act.put, List.setIfInBounds_toArray, List.set_cons_zero, List.set_cons_succ]
  refine wpAnyH_done (by kernel_rfl) ?_ _
  refine CalmP.onlyN_here (hQ.out _ _ ?_)
  clear hQ K0
  go_wp2_with fail
  go_ret
  exact ⟨rfl, _, World.drewN_drewN _ _ _⟩
set_option maxRecDepth 100000 in
set_option maxHeartbeats 3200000 in
theorem linkfeedB_any (s r mo : Nat) (d : Option Nat) (rs : List UInt8) (b : Nat) (own : Option Nat) (left : Int) (cb : Nat) (bs : List UInt8) (A : Option Addr) (n c B : Nat) (ys : List UInt8) (w : World) (h : IsSideB w s r mo d rs b own left cb bs) (hy : Rd w B 1 A n (bcells ys)) (hB : B ≤ w.heap.size) (hn : n ≤ 9223372036854775807) (hnc : n ≤ c) (hbsmo : rs.length + bs.length ≤ mo) :
    Calls Tryz.prog 31 #[.pointer (some ⟨s, 0, none⟩), .slice A n c] w fun e w' => e = .returned (.int .i64 (min n (mo - (rs.length + bs.length)) : Nat)) ∧ ∃ d', IsSideB w' s r mo d' (rs ++ ys.take (min n (mo - (rs.length + bs.length)))) b own left cb bs ∧ (d' = d ∨ ∀ g, d' = some g → w.heap.size ≤ g) ∧ w.grownBy w' (some r) := by
  have hle := h.2.1.le
  have hm2 := h.2.2.2.2.1
  obtain ⟨k0, k1, k2⟩ := h.1.three_
  obtain ⟨p, hp⟩ : ∃ p, p = min n (mo - (rs.length + bs.length)) := ⟨_, rfl⟩
  have hylen : ys.length = n := by have := hy.1; rw [bcells_length] at this; omega
  rw [← hp]
  have q1 := linkheldB_any s r mo d rs b own left cb bs w h
  go_enter Tryz.func31, Tryz.ntmps31
  go_wp2_with fail
  refine q1.mono ?_
  rintro e w1 ⟨rfl, ka, rfl⟩
  have h1 := h.drewN ka
  have q2 := linkmostB_any s r mo d rs b own left cb bs _ h1
  go_wp2_with fail
  refine q2.mono ?_
  rintro e w2 ⟨rfl, kb, hw2⟩
  have h2 : IsSideB w2 s r mo d rs b own left cb bs := by rw [hw2]; exact h1.drewN kb
  have t2 : Below w.heap.size w w2 := by rw [hw2, World.drewN_drewN]; exact below_drewN (Below.refl _ _)
  clear q1 q2 hw2
  by_cases hfull : mo ≤ rs.length + bs.length
  · obtain rfl : p = 0 := by omega
    have i1 : (mo : Int) ≤ (rs.length : Int) + (bs.length : Int) := by omega
    clear hp
    go_wp2_with fail
    go_ret
    exact ⟨rfl, d, by rw [List.take_zero, List.append_nil]; exact h2, .inl rfl, grown_of_below t2⟩
  · have i1 : ¬ (mo : Int) ≤ (rs.length : Int) + (bs.length : Int) := by omega
    have hsub : IntKind.i64.wrap ((mo : Int) - ((rs.length : Int) + (bs.length : Int))) = (mo : Int) - ((rs.length : Int) + (bs.length : Int)) := by rw [IntKind.wrap_i64]; omega
    have hmin : min (n : Int) ((mo : Int) - ((rs.length : Int) + (bs.length : Int))) = (p : Int) := by omega
    have hpn : p ≤ n := by omega
    have hpn' : (p : Int) ≤ (n : Int) := by omega
    have hpc : (p : Int) ≤ (c : Int) := by omega
    have hyF : Rd w2 B 1 A p (bcells (ys.take p)) := by
      have := (hy.below (t2.mono hB)).front hpn
      rw [Nat.mul_one, bcells_take] at this; exact this
    have hB2 : B ≤ w2.heap.size := Nat.le_trans hB t2.size
    have hpl : (ys.take p).length = p := by rw [List.length_take]; omega
    have hpp : p = min p (mo - rs.length) := by omega
    have HPP := hide hpp
    clear hp hpp
    go_upto_region 3 with (fail)
    refine CalmP.hideN (fun K0 hQ => ?_)
    refine wp_region_held_drew (S := (fun W : World => W.cell? ⟨s, 0, none⟩ = some (.pointer (some ⟨r, 0, none⟩)))) (by kernel_rfl) (show w2.drew.cell? ⟨s, 0, none⟩ = some (.pointer (some ⟨r, 0, none⟩)) from h2.1.three_.1) (fun hHeld => ?_)
    refine wpAnyH_take (i := 0) (v := ?_) rfl (by kernel_rfl) (by kernel_rfl) (by kernel_rfl) CalmP.onlyN_panic (Or.inl ⟨by kernel_rfl, ?_⟩) (by assumption) ?_
    rotate_left
    · (intro w_ hSw; (try dsimp only at hSw); go_simp; try with_reducible rfl)
    try simp only [List.getElem_toArray, List.getElem_cons_succ, List.getElem_cons_zero, Act.put, List.setIfInBounds_toArray, List.set_cons_zero, List.set_cons_succ]
    refine wpAnyH_take (i := 1) (v := ?_) rfl (by kernel_rfl) (by kernel_rfl) (by kernel_rfl) CalmP.onlyN_panic (Or.inl ⟨by kernel_rfl, ?_⟩) (by assumption) ?_
    rotate_left
    · (intro w_ hSw; (try dsimp only at hSw); go_simp; try with_reducible rfl)
    try simp only [List.getElem_toArray, List.getElem_cons_succ, List.getElem_cons_zero, Act.put, List.setIfInBounds_toArray, List.set_cons_zero, List.set_cons_succ]
    refine wpAnyH_take (i := 2) (v := ?_) rfl (by kernel_rfl) (by kernel_rfl) (by kernel_rfl) CalmP.onlyN_panic (Or.inl ⟨by kernel_rfl, ?_⟩) (by assumption) ?_
    rotate_left
    · (intro w_ hSw; (try dsimp only at hSw); go_simp; try with_reducible rfl)
    try simp only [List.getElem_toArray, List.getElem_cons_succ, List.getElem_cons_zero, Act.put, List.setIfInBounds_toArray, List.set_cons_zero, List.set_cons_succ]
    refine wpAnyH_take (i := 3) (v := ?_) rfl (by kernel_rfl) (by kernel_rfl) (by kernel_rfl) CalmP.onlyN_panic (Or.inl ⟨by kernel_rfl, ?_⟩) (by assumption) ?_
    rotate_left
    · (intro w_ hSw; (try dsimp only at hSw); go_simp; try with_reducible rfl)
    try simp only [List.getElem_toArray, List.getElem_cons_succ, List.getElem_cons_zero, Act.put, List.setIfInBounds_toArray, List.set_cons_zero, List.set_cons_succ]
    refine wpAnyH_take (i := 4) (v := ?_) rfl (by kernel_rfl) (by kernel_rfl) (by kernel_rfl) CalmP.onlyN_panic (Or.inl ⟨by kernel_rfl, ?_⟩) (by assumption) ?_
    rotate_left
    · (intro w_ hSw; (try dsimp only at hSw); go_simp; try with_reducible rfl)
    try simp only [List.getElem_toArray, List.getElem_cons_succ, List.getElem_cons_zero, Act.put, List.setIfInBounds_toArray, List.set_cons_zero, List.set_cons_succ]
    refine wpAnyH_take (i := 5) (v := ?_) rfl (by kernel_rfl) (by kernel_rfl) (by kernel_rfl) CalmP.onlyN_panic (Or.inl ⟨by kernel_rfl, ?_⟩) (by assumption) ?_
    rotate_left
    · (intro w_ hSw; (try dsimp only at hSw); go_simp; try with_reducible rfl)
    try simp only [List.getElem_toArray, List.getElem_cons_succ, List.getElem_cons_zero, Act.put, List.setIfInBounds_toArray, List.set_cons_zero, List.set_cons_succ]
    refine wpAnyH_take (i := 6) (v := ?_) rfl (by kernel_rfl) (by kernel_rfl) (by kernel_rfl) CalmP.onlyN_panic (Or.inl ⟨by kernel_rfl, ?_⟩) (by assumption) ?_
    rotate_left
    · (intro w_ hSw; (try dsimp only at hSw); go_simp; try with_reducible rfl)
    try simp only [List.getElem_toArray, List.getElem_cons_succ, List.getElem_cons_zero, Act.put, List.setIfInBounds_toArray, List.set_cons_zero, List.set_cons_succ]
    refine wpAnyH_take (i := 7) (v := ?_) rfl (by kernel_rfl) (by kernel_rfl) (by kernel_rfl) CalmP.onlyN_panic (Or.inl ⟨by kernel_rfl, ?_⟩) (by assumption) ?_
    rotate_left
    · (intro w_ hSw; (try dsimp only at hSw); go_simp; try with_reducible rfl)
    try simp only [List.getElem_toArray, List.getElem_cons_succ, List.getElem_cons_zero, Act.put, List.setIfInBounds_toArray, List.set_cons_zero, List.set_cons_succ]
    refine wpAnyH_take (i := 9) (v := ?_) rfl (by kernel_rfl) (by kernel_rfl) (by kernel_rfl) CalmP.onlyN_panic (Or.inl ⟨by kernel_rfl, ?_⟩) (by assumption) ?_
    rotate_left
    · (intro w_ hSw; (try dsimp only at hSw); go_simp; try with_reducible rfl)
    try simp only [List.getElem_toArray, List.getElem_cons_succ, List.getElem_cons_zero, Act.put, List.setIfInBounds_toArray, List.set_cons_zero, List.set_cons_succ]
    refine wpAnyH_ready (rs := [8]) (by kernel_rfl) (by simp) ?_
    refine AllReadyH.cons rfl (fun K_ hK => ?_) AllReadyH.nil
    go_simp
    refine (linkmostB_any s r mo d rs b own left cb bs _ (h2.drewN 1)).mono ?_
    rintro e V1 ⟨rfl, kq, rfl⟩
    have hv0 := (h2.drewN 1).drewN kq
    have hv1 := h2.drewN (1 + kq)
    refine hK.out _ _ (hv0.1.three_.1) (fun hHeld => ?_)
    clear hK K_
    try simp only [List.getElem_toArray, List.getElem_cons_succ, List.getElem_cons_zero, Act.put, List.setIfInBounds_toArray, List.set_cons_zero, List.set_cons_succ]
    refine wpAnyH_ready (rs := [10]) (by kernel_rfl) (by simp) ?_
    refine AllReadyH.cons rfl (fun K_ hK => ?_) AllReadyH.nil
    go_simp
    refine (linkheldB_any s r mo d rs b own left cb bs _ hv1).mono ?_
    rintro e V2 ⟨rfl, kr, rfl⟩
    have hv3 := hv1.drewN kr
    have hv2 := h2.drewN (1 + kq + kr)
    refine hK.out _ _ (hv3.1.three_.1) (fun hHeld => ?_)
    clear hK K_
    try simp only [List.getElem_toArray, List.getElem_cons_succ, List.getElem_cons_zero, Act.put, List.setIfInBounds_toArray, List.set_cons_zero, List.set_cons_succ]
    refine wpAnyH_take (i := 11) (v := ?_) rfl (by kernel_rfl) (by kernel_rfl) (by kernel_rfl) CalmP.onlyN_panic (Or.inl ⟨by kernel_rfl, ?_⟩) (by assumption) ?_
    rotate_left
    · (intro w_ hSw; (try dsimp only at hSw); go_simp; try with_reducible rfl)
    try simp only [List.getElem_toArray, List.getElem_cons_succ, List.getElem_cons_zero, Act.put, List.setIfInBounds_toArray, List.set_cons_zero, List.set_cons_succ]
    refine wpAnyH_take (i := 12) (v := ?_) rfl (by kernel_rfl) (by kernel_rfl) (by kernel_rfl) CalmP.onlyN_panic (Or.inl ⟨by kernel_rfl, ?_⟩) (by assumption) ?_
    rotate_left
    · (intro w_ hSw; (try dsimp only at hSw); go_simp; try with_reducible rfl)
    try simp only [List.getElem_toArray, List.getElem_cons_succ, List.getElem_cons_zero, Act.put, List.setIfInBounds_toArray, List.set_cons_zero, List.set_cons_succ]
    refine wpAnyH_take (i := 13) (v := ?_) rfl (by kernel_rfl) (by kernel_rfl) (by kernel_rfl) CalmP.onlyN_panic (Or.inl ⟨by kernel_rfl, ?_⟩) (by assumption) ?_
    rotate_left
    · (intro w_ hSw; (try dsimp only at hSw); go_simp; try with_reducible rfl)
    try simp only [List.getElem_toArray, List.getElem_cons_succ, List.getElem_cons_zero, Act.put, List.setIfInBounds_toArray, List.set_cons_zero, List.set_cons_succ]
    refine wpAnyH_ready (rs := [14]) (by kernel_rfl) (by simp) ?_
    refine AllReadyH.cons rfl (fun K_ hK => ?_) AllReadyH.nil
    go_simp
    refine (pushB r _ mo d _ (bcells (ys.take p)) A p c B (w2.drewN (1 + kq + kr)) hv2.2.1 (by omega) (bcells_one _) (hyF.below (below_drewN (k := 1 + kq + kr) (Below.refl _ _))) (by omega) (by omega) (bcells_one _) (by show B ≤ w2.heap.size; exact hB2) p HPP.out).mono ?_
    rintro e V3 ⟨rfl, ⟨d', hr3, hd3⟩, g3⟩
    have hb3 := hv2.1.grown_ g3 (by intro e; cases e; exact h.2.2.1 rfl)
    refine hK.out _ _ (hb3.three_.1) (fun hHeld => ?_)
    clear hK K_
    try simp only [List.getElem_toArray, List.getElem_cons_succ, List.getElem_cons_zero, Act.put, List.setIfInBounds_toArray, List.set_cons_zero, List.set_cons_succ]
    refine wpAnyH_take (i := 15) (v := ?_) rfl (by kernel_rfl) (by kernel_rfl) (by kernel_rfl) CalmP.onlyN_panic (Or.inl ⟨by kernel_rfl, ?_⟩) (by assumption) ?_
    rotate_left
    · (intro w_ hSw; (try dsimp only at hSw); go_simp; try with_reducible rfl)
    try simp only [List.getElem_toArray, List.getElem_cons_succ, List.getElem_cons_zero, Act.put, List.setIfInBounds_toArray, List.set_cons_zero, List.set_cons_succ]
    refine wpAnyH_done (by kernel_rfl) ?_ _
    refine CalmP.onlyN_here (hQ.out _ _ ?_)
    clear hQ K0
    go_wp2_with fail
    go_ret
    have hfin : bcells rs ++ (bcells (ys.take p)).take (p * 1) = bcells (rs ++ ys.take p) := by
      rw [Nat.mul_one, bcells_take, List.take_take, Nat.min_self, bcells_append]
    rw [hfin] at hr3
    have hln : (rs ++ ys.take p).length = rs.length + p := by rw [List.length_append, hpl]
    obtain ⟨n1, n2, n3, n4, n5, n6, n7, n8⟩ := h.2.2.2.2.2.2.2.1
    have hbw := (hv2.2.2.2.2.2.1).grown g3 (by intro e; exact n2 (Option.some.inj e).symm) (.inr n7)
    have hcb := (hv2.2.2.2.2.2.2.1).grown_ g3 (by intro e; exact n4 (Option.some.inj e).symm)
    refine ⟨rfl, d', ⟨hb3, by rw [hln]; exact hr3, h.2.2.1, ?_, hm2, hbw, hcb, h.2.2.2.2.2.2.2⟩, ?_, ?_⟩
    · rcases hd3 with hd3 | hd3
      · rw [hd3]; exact h.2.2.2.1
      · intro e
        have h4 := hd3 s e
        have h5 : s < w2.heap.size := h2.1.1
        have h6 : w2.heap.size ≤ s := h4
        omega
    · rcases hd3 with hd3 | hd3
      · exact .inl hd3
      · exact .inr (fun g e => Nat.le_trans t2.size (hd3 g e))
    · exact grown_trans (grown_of_below (below_drewN (k := 1 + kq + kr) t2)) g3
end Go.Proofs.YtijlaclngibekaaGreatDoor

/- link.Side's Begin and feed, with a body of a length (printed by gen/linkc.py). -/
namespace Go.Proofs.YtijlaclngibekaaGreatDoor
open Go.RowKit
set_option linter.unusedVariables false
set_option linter.unusedSimpArgs false

/-- What a call leaves: all blocks that were there but those listed. -/
def Stay (w w' : World) (S : List (Option Nat)) : Prop :=
  w'.os = w.os ∧ w'.tape = w.tape ∧ w'.output = w.output ∧ w.heap.size ≤ w'.heap.size ∧ ∀ k, k < w.heap.size → some k ∉ S → w'.heap[k]? = w.heap[k]?
theorem Stay.of_grown {w w' : World} {row : Option Nat} (h : w.grownBy w' row) : Stay w w' [row] := ⟨h.os, h.tape, h.output, h.size, fun k hk hn => h.block k hk (fun e => hn (by simp [e]))⟩
theorem Stay.trans {w w1 w2 : World} {S T : List (Option Nat)} (h : Stay w w1 S) (k : Stay w1 w2 T) : Stay w w2 (S ++ T) :=
  ⟨k.1.trans h.1, k.2.1.trans h.2.1, k.2.2.1.trans h.2.2.1, Nat.le_trans h.2.2.2.1 k.2.2.2.1, fun j hj hn => by
    rw [List.mem_append, not_or] at hn
    exact (k.2.2.2.2 j (Nat.lt_of_lt_of_le hj h.2.2.2.1) hn.2).trans (h.2.2.2.2 j hj hn.1)⟩
theorem Stay.below {w w' : World} {S : List (Option Nat)} {B : Nat} (h : Stay w w' S) (hB : ∀ k, some k ∈ S → B ≤ k) (hw : B ≤ w.heap.size) : Below B w w' :=
  ⟨h.1, h.2.1, h.2.2.1, h.2.2.2.1, fun k hk => h.2.2.2.2 k (Nat.lt_of_lt_of_le hk hw) (fun hm => by have := hB k hm; omega)⟩
theorem Box.stay {w w' : World} {g : Nat} {cs : List Value} {S : List (Option Nat)} (h : Box w g cs) (hs : Stay w w' S) (hn : some g ∉ S) : Box w' g cs := by
  have hb := hs.2.2.2.2 g h.1 hn
  exact ⟨Nat.lt_of_lt_of_le h.1 hs.2.2.2.1, fun j u hu => ⟨(World.cell?_of_block (a := ⟨g, j, none⟩) hb).trans (h.2 j u hu).1, (World.frozen?_of_block (a := ⟨g, j, none⟩) hb).trans (h.2 j u hu).2⟩⟩
/-- An empty ring asks nothing but its own block. -/
theorem ring_empty {w w' : World} {t r mo : Nat} {d : Option Nat} (h : IsRing w t 1 r 0 mo d []) (hb : w'.heap[r]? = w.heap[r]?) (hs : w.heap.size ≤ w'.heap.size) : IsRing w' t 1 r 0 mo d [] := by
  obtain ⟨A, c, h1, h2, h3, h4, h5, h6, h7⟩ := h
  exact ⟨A, c, hb.trans h1, h2, h3, h4, Rd.nil_, h6, fun g e => ⟨(h7 g e).1, Nat.lt_of_lt_of_le (h7 g e).2 hs⟩⟩
set_option maxRecDepth 100000 in
set_option maxHeartbeats 3200000 in
theorem linkpour_any (s r mo : Nat) (d : Option Nat) (rs : List UInt8) (b : Nat) (own : Option Nat) (left : Int) (cb : Nat) (bs : List UInt8) (w : World) (h : IsSideB w s r mo d rs b own left cb bs) (hsm : rs.length + bs.length ≤ mo) :
    Calls Tryz.prog 112 #[.pointer (some ⟨s, 0, none⟩)] w fun e w' => e = .returned (.tuple #[]) ∧ ∃ own', IsSideB w' s r mo d [] b own' left cb (bs ++ rs) ∧ (own' = own ∨ ∀ g, own' = some g → w.heap.size ≤ g) ∧ Stay w w' [some r, own, some b] := by
  have hle := h.2.1.le
  have hm2 := h.2.2.2.2.1
  obtain ⟨k0, k1, k2⟩ := h.1.three_
  obtain ⟨n1, n2, n3, n4, n5, n6, n7, n8⟩ := h.2.2.2.2.2.2.2.1
  have q1 := popB r rs.length mo d (rs.length : Nat) (bcells rs) w.drew (h.drewN 1).2.1 (by omega) (bcells_one _) rs.length (by simp)
  go_enter Tryz.func112, Tryz.ntmps112
  go_upto_region 0 with (fail)
  refine CalmP.hideN (fun K0 hQ => ?_)
  refine wp_region_held_drew (S := (fun W : World => W.cell? ⟨s, 0, none⟩ = some (.pointer (some ⟨r, 0, none⟩)) ∧ W.cell? ⟨s, 2, none⟩ = some (.pointer (some ⟨b, 0, none⟩)))) (by kernel_rfl) ⟨k0, k2⟩ (fun hHeld => ?_)
  refine wpAnyH_take (i := 0) (v := ?_) rfl (by kernel_rfl) (by kernel_rfl) (by kernel_rfl) CalmP.onlyN_panic (Or.inl ⟨by kernel_rfl, ?_⟩) (by assumption) ?_
  rotate_left
  · (intro w_ hSw; (try dsimp only at hSw); obtain ⟨k0_, k2_⟩ := hSw; go_simp; try with_reducible rfl)
  try simp only [List.getElem_toArray, List.getElem_cons_succ, List.getElem_cons_zero, Act.put, List.setIfInBounds_toArray, List.set_cons_zero, List.set_cons_succ]
  refine wpAnyH_take (i := 1) (v := ?_) rfl (by kernel_rfl) (by kernel_rfl) (by kernel_rfl) CalmP.onlyN_panic (Or.inl ⟨by kernel_rfl, ?_⟩) (by assumption) ?_
  rotate_left
  · (intro w_ hSw; (try dsimp only at hSw); obtain ⟨k0_, k2_⟩ := hSw; go_simp; try with_reducible rfl)
  try simp only [List.getElem_toArray, List.getElem_cons_succ, List.getElem_cons_zero, Act.put, List.setIfInBounds_toArray, List.set_cons_zero, List.set_cons_succ]
  refine wpAnyH_take (i := 2) (v := ?_) rfl (by kernel_rfl) (by kernel_rfl) (by kernel_rfl) CalmP.onlyN_panic (Or.inl ⟨by kernel_rfl, ?_⟩) (by assumption) ?_
  rotate_left
  · (intro w_ hSw; (try dsimp only at hSw); obtain ⟨k0_, k2_⟩ := hSw; go_simp; try with_reducible rfl)
  try simp only [List.getElem_toArray, List.getElem_cons_succ, List.getElem_cons_zero, Act.put, List.setIfInBounds_toArray, List.set_cons_zero, List.set_cons_succ]
  refine wpAnyH_take (i := 3) (v := ?_) rfl (by kernel_rfl) (by kernel_rfl) (by kernel_rfl) CalmP.onlyN_panic (Or.inl ⟨by kernel_rfl, ?_⟩) (by assumption) ?_
  rotate_left
  · (intro w_ hSw; (try dsimp only at hSw); obtain ⟨k0_, k2_⟩ := hSw; go_simp; try with_reducible rfl)
  try simp only [List.getElem_toArray, List.getElem_cons_succ, List.getElem_cons_zero, Act.put, List.setIfInBounds_toArray, List.set_cons_zero, List.set_cons_succ]
  refine wpAnyH_take (i := 4) (v := ?_) rfl (by kernel_rfl) (by kernel_rfl) (by kernel_rfl) CalmP.onlyN_panic (Or.inl ⟨by kernel_rfl, ?_⟩) (by assumption) ?_
  rotate_left
  · (intro w_ hSw; (try dsimp only at hSw); obtain ⟨k0_, k2_⟩ := hSw; go_simp; try with_reducible rfl)
  try simp only [List.getElem_toArray, List.getElem_cons_succ, List.getElem_cons_zero, Act.put, List.setIfInBounds_toArray, List.set_cons_zero, List.set_cons_succ]
  refine wpAnyH_take (i := 5) (v := ?_) rfl (by kernel_rfl) (by kernel_rfl) (by kernel_rfl) CalmP.onlyN_panic (Or.inl ⟨by kernel_rfl, ?_⟩) (by assumption) ?_
  rotate_left
  · (intro w_ hSw; (try dsimp only at hSw); obtain ⟨k0_, k2_⟩ := hSw; go_simp; try with_reducible rfl)
  try simp only [List.getElem_toArray, List.getElem_cons_succ, List.getElem_cons_zero, Act.put, List.setIfInBounds_toArray, List.set_cons_zero, List.set_cons_succ]
  refine wpAnyH_take (i := 6) (v := ?_) rfl (by kernel_rfl) (by kernel_rfl) (by kernel_rfl) CalmP.onlyN_panic (Or.inl ⟨by kernel_rfl, ?_⟩) (by assumption) ?_
  rotate_left
  · (intro w_ hSw; (try dsimp only at hSw); obtain ⟨k0_, k2_⟩ := hSw; go_simp; try with_reducible rfl)
  try simp only [List.getElem_toArray, List.getElem_cons_succ, List.getElem_cons_zero, Act.put, List.setIfInBounds_toArray, List.set_cons_zero, List.set_cons_succ]
  refine wpAnyH_take (i := 7) (v := ?_) rfl (by kernel_rfl) (by kernel_rfl) (by kernel_rfl) CalmP.onlyN_panic (Or.inl ⟨by kernel_rfl, ?_⟩) (by assumption) ?_
  rotate_left
  · (intro w_ hSw; (try dsimp only at hSw); obtain ⟨k0_, k2_⟩ := hSw; go_simp; try with_reducible rfl)
  try simp only [List.getElem_toArray, List.getElem_cons_succ, List.getElem_cons_zero, Act.put, List.setIfInBounds_toArray, List.set_cons_zero, List.set_cons_succ]
  refine wpAnyH_take (i := 8) (v := ?_) rfl (by kernel_rfl) (by kernel_rfl) (by kernel_rfl) CalmP.onlyN_panic (Or.inl ⟨by kernel_rfl, ?_⟩) (by assumption) ?_
  rotate_left
  · (intro w_ hSw; (try dsimp only at hSw); obtain ⟨k0_, k2_⟩ := hSw; go_simp; try with_reducible rfl)
  try simp only [List.getElem_toArray, List.getElem_cons_succ, List.getElem_cons_zero, Act.put, List.setIfInBounds_toArray, List.set_cons_zero, List.set_cons_succ]
  refine wpAnyH_take (i := 9) (v := ?_) rfl (by kernel_rfl) (by kernel_rfl) (by kernel_rfl) CalmP.onlyN_panic (Or.inl ⟨by kernel_rfl, ?_⟩) (by assumption) ?_
  rotate_left
  · (intro w_ hSw; (try dsimp only at hSw); obtain ⟨k0_, k2_⟩ := hSw; go_simp; try with_reducible rfl)
  try simp only [List.getElem_toArray, List.getElem_cons_succ, List.getElem_cons_zero, Act.put, List.setIfInBounds_toArray, List.set_cons_zero, List.set_cons_succ]
  refine wpAnyH_take (i := 10) (v := ?_) rfl (by kernel_rfl) (by kernel_rfl) (by kernel_rfl) CalmP.onlyN_panic (Or.inl ⟨by kernel_rfl, ?_⟩) (by assumption) ?_
  rotate_left
  · (intro w_ hSw; (try dsimp only at hSw); obtain ⟨k0_, k2_⟩ := hSw; go_simp; try with_reducible rfl)
  try simp only [List.getElem_toArray, List.getElem_cons_succ, List.getElem_cons_zero, Act.put, List.setIfInBounds_toArray, List.set_cons_zero, List.set_cons_succ]
  refine wpAnyH_take (i := 11) (v := ?_) rfl (by kernel_rfl) (by kernel_rfl) (by kernel_rfl) CalmP.onlyN_panic (Or.inl ⟨by kernel_rfl, ?_⟩) (by assumption) ?_
  rotate_left
  · (intro w_ hSw; (try dsimp only at hSw); obtain ⟨k0_, k2_⟩ := hSw; go_simp; try with_reducible rfl)
  try simp only [List.getElem_toArray, List.getElem_cons_succ, List.getElem_cons_zero, Act.put, List.setIfInBounds_toArray, List.set_cons_zero, List.set_cons_succ]
  refine wpAnyH_ready (rs := [12]) (by kernel_rfl) (by simp) ?_
  refine AllReadyH.cons rfl (fun K_ hK => ?_) AllReadyH.nil
  go_simp
  refine (lenB r _ mo d _ _ (h.drewN 1).2.1).mono ?_
  rintro e V1 ⟨rfl, rfl⟩
  refine hK.out _ _ ⟨k0, k2⟩ (fun hHeld => ?_)
  clear hK K_
  try simp only [List.getElem_toArray, List.getElem_cons_succ, List.getElem_cons_zero, Act.put, List.setIfInBounds_toArray, List.set_cons_zero, List.set_cons_succ]
  refine wpAnyH_ready (rs := [13]) (by kernel_rfl) (by simp) ?_
  refine AllReadyH.cons rfl (fun K_ hK => ?_) AllReadyH.nil
  go_simp
  refine q1.mono ?_
  rintro e V2 ⟨A2, c2, rfl, o2, r2, g2⟩
  have k0b := (Box.three_ ((h.drewN 1).1.grown_ g2 (fun e => h.2.2.1 (Option.some.inj e).symm))).1
  have k2b := (Box.three_ ((h.drewN 1).1.grown_ g2 (fun e => h.2.2.1 (Option.some.inj e).symm))).2.2
  refine hK.out _ _ ⟨k0b, k2b⟩ (fun hHeld => ?_)
  clear hK K_
  try simp only [List.getElem_toArray, List.getElem_cons_succ, List.getElem_cons_zero, Act.put, List.setIfInBounds_toArray, List.set_cons_zero, List.set_cons_succ]
  refine wpAnyH_ready (rs := [14]) (by kernel_rfl) (by simp) ?_
  refine AllReadyH.cons rfl (fun K_ hK => ?_) AllReadyH.nil
  go_simp
  have hb2 := ((h.drewN 1).2.2.2.2.2.1).grown g2 (fun e => n2 (Option.some.inj e).symm) (.inr n7)
  have rd2 := Rd.of_own o2
  rw [Nat.mul_one, bcells_take, List.take_length] at rd2
  refine (bodyfeedW_any b own 1 left _ bs.length bs V2 hb2 (by decide) A2 rs.length c2 _ rs rd2 (by omega)).mono ?_
  rintro e V3 ⟨rfl, own', hb3, hown, V4, g4, g5⟩
  have st : Stay w V3 [some r, own, some b] := (Stay.of_grown (grown_trans (grown_of_below (below_drewN (k := 1) (Below.refl _ _))) g2)).trans ((Stay.of_grown g4).trans (Stay.of_grown g5))
  have hs3 := Box.stay h.1 st (by simp; exact ⟨fun e => h.2.2.1 e, fun e => n6 e.symm, fun e => n1 e.symm⟩)
  refine hK.out _ _ ⟨hs3.three_.1, hs3.three_.2.2⟩ (fun hHeld => ?_)
  clear hK K_
  try simp only [List.getElem_toArray, List.getElem_cons_succ, List.getElem_cons_zero, Act.put, List.setIfInBounds_toArray, List.set_cons_zero, List.set_cons_succ]
  refine wpAnyH_done (by kernel_rfl) ?_ _
  refine CalmP.onlyN_here (hQ.out _ _ ?_)
  clear hQ K0
  have k1c := hs3.three_.2.1
  go_wp2_with fail
  go_end0
  rw [Nat.mul_one, Nat.sub_self, bcells_drop, List.drop_length] at r2
  have hr4 : IsRing V3 103 1 r 0 mo d [] := by
    have e1 : V4.heap[r]? = V2.heap[r]? := g4.block r r2.lt (fun e => n7 e.symm)
    have e2 : V3.heap[r]? = V4.heap[r]? := g5.block r (Nat.lt_of_lt_of_le r2.lt g4.size) (fun e => n2 (Option.some.inj e).symm)
    exact ring_empty r2 (e2.trans e1) (Nat.le_trans g4.size g5.size)
  have hsz2 : w.heap.size ≤ V2.heap.size := g2.size
  have hin := h.2.2.2.2.2.1.lt
  have own_ne : ∀ x, x < w.heap.size → own ≠ some x → own' ≠ some x := fun x hx hne e => by
    rcases hown with rfl | hown
    · exact hne e
    · have := hown x e; omega
  refine ⟨rfl, own', ⟨hs3, hr4, h.2.2.1, h.2.2.2.1, hm2, by rw [List.length_append]; exact hb3, Box.stay h.2.2.2.2.2.2.1 st (by simp; exact ⟨fun e => n4 e, fun e => n8 e.symm, fun e => n5 e⟩), ⟨n1, n2, n3, n4, n5, own_ne s h.1.1 n6, own_ne r h.2.1.lt n7, own_ne cb h.2.2.2.2.2.2.1.1 n8⟩, by rw [List.length_append]; omega⟩, ?_, st⟩
  rcases hown with hown | hown
  · exact .inl hown
  · exact .inr (fun g e => Nat.le_trans hsz2 (hown g e))
end Go.Proofs.YtijlaclngibekaaGreatDoor

/- link.Side's over, Take and Begin, with a body of a length. -/
namespace Go.Proofs.YtijlaclngibekaaGreatDoor
open Go.RowKit
set_option linter.unusedVariables false
set_option linter.unusedSimpArgs false

theorem Stay.mono {w w' : World} {S T : List (Option Nat)} (h : Stay w w' S) (hst : ∀ k, some k ∈ S → some k ∈ T) : Stay w w' T :=
  ⟨h.1, h.2.1, h.2.2.1, h.2.2.2.1, fun k hk hn => h.2.2.2.2 k hk (fun hm => hn (hst k hm))⟩
set_option maxRecDepth 100000 in
set_option maxHeartbeats 3200000 in
/-- What stands behind a body that is over: the very row. -/
theorem bodyrestV_any (b : Nat) (own : Option Nat) (kind left : Int) (p : Value) (n : Nat) (bs : List UInt8) (ended : Bool) (w : World) (h : IsBodyW w b own kind left p n bs ended) (hk : kind ≠ 2) (hov : overB kind left n ended = true) :
    Calls Tryz.prog 154 #[.pointer (some ⟨b, 0, none⟩)] w fun e w' => ∃ A c, e = .returned (.slice A n c) ∧ Ow w' 0 1 (.slice A n c) n (bcells bs) ∧ (Value.slice A n c).ownBlock = own ∧ w.grownBy w' (some b) := by
  have ho := over_any b 0 kind left p n bs ended w h.plain
  rw [hov] at ho
  obtain ⟨A, c, hx, hi, hown, hne⟩ := h
  have hk' : (kind == 2) = false := by simpa using hk
  obtain ⟨k0, k1, k2, k3, k4⟩ := hx.five
  obtain ⟨f0, f1, f2, f3, f4⟩ := hx.free5
  have hi2 := hi.store_far (a := ⟨b, 2, none⟩) (by rw [hown]; exact hne) (.slice none 0 0)
  have g2 := grown_set (World.grownBy.refl w (some b)) 2 (.slice none 0 0)
  clear hk hov hx
  go_enter Tryz.func154, Tryz.ntmps154
  go_wp2_with fail
  refine ho.mono ?_
  rintro e w1 ⟨rfl, rfl⟩
  go_wp2_with fail
  go_ret
  exact ⟨A, c, rfl, hi2, hown, g2⟩
set_option maxRecDepth 100000 in
set_option maxHeartbeats 3200000 in
theorem linkover_any (s r mo : Nat) (d : Option Nat) (b : Nat) (own : Option Nat) (left : Int) (cb : Nat) (bs : List UInt8) (w : World) (h : IsSideB w s r mo d [] b own left cb bs) (hl : left = 0) (hsm : bs.length ≤ mo) :
    Calls Tryz.prog 114 #[.pointer (some ⟨s, 0, none⟩)] w fun e w' => e = .returned (.tuple #[]) ∧ ∃ d', IsSide w' s r mo false d' bs ∧ (d' = d ∨ ∀ g, d' = some g → w.heap.size ≤ g) ∧ Stay w w' [some b, some s, some r] := by
  have hm2 := h.2.2.2.2.1
  obtain ⟨k0, k1, k2⟩ := h.1.three_
  obtain ⟨n1, n2, n3, n4, n5, n6, n7, n8⟩ := h.2.2.2.2.2.2.2.1
  have hr := h.2.1
  have hsr := h.2.2.1
  have hb65 := h.2.2.2.2.2.2.2.2
  have q1 := bodyrestV_any b own 1 left _ bs.length bs false w h.2.2.2.2.2.1 (by decide) (by rw [hl]; rfl)
  go_enter Tryz.func114, Tryz.ntmps114
  go_wp2_with fail
  refine q1.mono ?_
  rintro e w1 ⟨A, c, rfl, ho, hown, g1⟩
  have hx1 := h.1.grown_ g1 (fun e => n1 (Option.some.inj e))
  obtain ⟨j0, j1, j2⟩ := hx1.three_
  have f2 := (hx1.2 2 _ rfl).2
  have hsl := hx1.1
  have hx2 := hx1.set (k := 2) (x := .pointer none) (by simp)
  simp only [List.set_cons_succ, List.set_cons_zero] at hx2
  have g2 := grown_set (World.grownBy.refl w1 (some s)) 2 (.pointer none)
  have ho2 := ho.store_far (a := ⟨s, 2, none⟩) (by rw [hown]; exact n6) (.pointer none)
  have hr2 : IsRing (w1.setCell ⟨s, 2, none⟩ (.pointer none)) 103 1 r 0 mo d [] := by
    have e1 : w1.heap[r]? = w.heap[r]? := g1.block r hr.lt (fun e => n2 (Option.some.inj e).symm)
    have e2 := g2.block r (Nat.lt_of_lt_of_le hr.lt g1.size) (fun e => hsr (Option.some.inj e).symm)
    exact ring_empty hr (e2.trans e1) (Nat.le_trans g1.size g2.size)
  clear k0 k1 k2 q1
  go_upto_region 2 with (fail)
  generalize w1.setCell ⟨s, 2, none⟩ (.pointer none) = w2 at hx2 g2 ho2 hr2 ⊢
  obtain ⟨i0, i1, i2⟩ := hx2.three_
  have hnc : bs.length ≤ c := by obtain ⟨A', c', hv, h1, h2⟩ := ho2.shape; cases hv; exact h1
  have q3 := pushB r 0 mo d [] (bcells bs) A bs.length c w2.heap.size w2 hr2 (by omega) (by simp) ho2.rd hnc (by omega) (bcells_one _) (Nat.le_refl _) bs.length (by omega)
  clear j0 j1 j2 hx1 f2
  go_wp2_with fail
  refine q3.mono ?_
  rintro e w3 ⟨rfl, ⟨d', hr3, hd3⟩, g3⟩
  go_wp2_with fail
  go_end0
  rw [List.nil_append, Nat.mul_one, bcells_take, List.take_length, Nat.zero_add] at hr3
  have hsz : w.heap.size ≤ w2.heap.size := Nat.le_trans g1.size g2.size
  refine ⟨rfl, d', ⟨hx2.grown_ g3 (fun e => hsr (Option.some.inj e).symm), hr3, hsr, ?_, hm2⟩, ?_, (Stay.of_grown g1).trans ((Stay.of_grown g2).trans (Stay.of_grown g3))⟩
  · rcases hd3 with hd3 | hd3
    · rw [hd3]; exact h.2.2.2.1
    · intro e
      have h4 := hd3 s e
      have h5 := hx2.1
      omega
  · rcases hd3 with hd3 | hd3
    · exact .inl hd3
    · exact .inr (fun g e => Nat.le_trans hsz (hd3 g e))
theorem take8 {left : Int} {n : Nat} {x : Int} (h : takeE 1 left n x false = 8) : takeN 1 left n x = 0 ∧ left = 0 := by
  unfold takeE at h
  split at h
  · cases h
  · split at h
    · cases h
    · rename_i h1 h2
      have hk : takeN 1 left n x = 0 := by
        rcases Nat.eq_zero_or_pos (takeN 1 left n x) with h0 | h0
        · exact h0
        · exact absurd (.inl h0) h2
      refine ⟨hk, ?_⟩
      have h3 : ¬ overB 1 (takeLeft 1 left (takeN 1 left n x)) (n - takeN 1 left n x) false = false := fun e => h2 (.inr e)
      rw [hk] at h3
      unfold overB mostB takeLeft at h3
      simp at h3
      exact h3
theorem takeE_is (left : Int) (n : Nat) (x : Int) : takeE 1 left n x false = 0 ∨ takeE 1 left n x false = 5 ∨ takeE 1 left n x false = 8 := by
  unfold takeE
  split
  · exact .inl rfl
  · split
    · exact .inr (.inl rfl)
    · exact .inr (.inr rfl)
set_option maxRecDepth 100000 in
set_option maxHeartbeats 3200000 in
theorem linktakeB_any (s r mo : Nat) (d : Option Nat) (rs : List UInt8) (b : Nat) (own : Option Nat) (left : Int) (cb : Nat) (bs : List UInt8) (x : Int) (w : World) (h : IsSideB w s r mo d rs b own left cb bs) (hsm : rs.length + bs.length ≤ mo) (hl0 : 0 ≤ left) (hl1 : left ≤ 9223372036854775807) :
    Calls Tryz.prog 83 #[.pointer (some ⟨s, 0, none⟩), .int .i64 x] w fun e w' => ∃ A c N K E, N = (bs ++ rs).length ∧ K = takeN 1 left N x ∧ E = takeE 1 left N x false ∧ e = .returned (.tuple #[.slice A (if E = 8 then 0 else K) c, .int .i64 (E : Nat)]) ∧
      Rd w' w'.heap.size 1 A (if E = 8 then 0 else K) (bcells ((bs ++ rs).take (if E = 8 then 0 else K))) ∧ Stay w w' [some r, own, some b, some s] ∧
      (E = 8 → ∃ d', IsSide w' s r mo false d' (bs ++ rs) ∧ (d' = d ∨ ∀ g, d' = some g → w.heap.size ≤ g)) ∧
      (E ≠ 8 → ∃ own', IsSideB w' s r mo d [] b own' (left - K) cb ((bs ++ rs).drop K) ∧ (∀ g, own' = some g → w.heap.size ≤ g)) := by
  obtain ⟨k0, k1, k2⟩ := h.1.three_
  have hm2 := h.2.2.2.2.1
  have q1 := linkpour_any s r mo d rs b own left cb bs w h hsm
  obtain ⟨al, hal⟩ : ∃ al, al = bs ++ rs := ⟨_, rfl⟩
  have hlen : al.length ≤ mo := by rw [hal, List.length_append]; omega
  rw [← hal] at q1 ⊢
  clear hal
  obtain ⟨N, hN⟩ : ∃ N, N = al.length := ⟨_, rfl⟩
  obtain ⟨K, hK⟩ : ∃ K, K = takeN 1 left N x := ⟨_, rfl⟩
  obtain ⟨E, hE⟩ : ∃ E, E = takeE 1 left N x false := ⟨_, rfl⟩
  have h8 : E = 8 → K = 0 ∧ left = 0 := fun e => by rw [hK]; exact take8 (by rw [← hE]; exact e)
  have hEs := takeE_is left N x
  rw [← hE] at hEs
  have H8 := hide h8
  have q2 := fun (own' : Option Nat) (W : World) (hb : IsSideB W s r mo d [] b own' left cb al) => bodytakeW_any b 0 1 left _ N al false x W (by rw [hN]; exact hb.2.2.2.2.2.1.plain) (by decide) hl0 hl1 (by omega) (Nat.zero_le _)
  simp only [← hK, ← hE] at q2
  have HN := hide hN
  have HK := hide hK
  have HE := hide hE
  clear hN hK hE h8
  go_enter Tryz.func83, Tryz.ntmps83
  go_wp2_with fail
  refine q1.mono ?_
  rintro e w1 ⟨rfl, own1, hs1, ho1, st1⟩
  obtain ⟨j0, j1, j2⟩ := hs1.1.three_
  clear q1 k0 k1 k2
  go_wp2_with fail
  refine (q2 own1 w1 hs1).mono ?_
  rintro e w2 ⟨A, c, rfl, rd2, ⟨own2, hb2, ho2⟩, g2⟩
  obtain ⟨n1, n2, n3, n4, n5, n6, n7, n8⟩ := hs1.2.2.2.2.2.2.2.1
  have hx2 := hs1.1.grown_ g2 (fun e => n1 (Option.some.inj e))
  have hr2 : IsRing w2 103 1 r 0 mo d [] := ring_empty hs1.2.1 (g2.block r hs1.2.1.lt (fun e => n2 (Option.some.inj e).symm)) g2.size
  have hc2 := hs1.2.2.2.2.2.2.1.grown_ g2 (fun e => n5 (Option.some.inj e).symm)
  have hKN : K ≤ N := by rw [HK.out]; unfold takeN; omega
  have hdl : (al.drop K).length = N - K := by rw [List.length_drop, HN.out]
  have own_ne : ∀ y, y < w1.heap.size → own2 ≠ some y := fun y hy e => by have := ho2 y e; omega
  have hs2 : IsSideB w2 s r mo d [] b own2 (takeLeft 1 left K) cb (al.drop K) :=
    ⟨hx2, hr2, hs1.2.2.1, hs1.2.2.2.1, hm2, by rw [hdl]; exact hb2, hc2, ⟨n1, n2, n3, n4, n5, own_ne s hs1.1.1, own_ne r hs1.2.1.lt, own_ne cb hs1.2.2.2.2.2.2.1.1⟩, by have := HN.out; rw [hdl]; omega⟩
  have st2 : Stay w w2 [some r, own, some b, some b] := st1.trans (Stay.of_grown g2)
  have hz2 : w.heap.size ≤ w1.heap.size := st1.2.2.2.1
  have hlt : takeLeft 1 left K = left - K := rfl
  clear q2 j0 j1 j2 hb2 hc2 hr2
  by_cases e8 : E = 8
  · obtain ⟨rfl, rfl⟩ := H8.out e8
    subst e8
    have q4 := linkover_any s r mo d b own2 _ cb _ w2 hs2 (by decide) (by have := HN.out; rw [hdl]; omega)
    rw [List.drop_zero] at q4
    clear hs2
    go_wp2_with fail
    refine q4.mono ?_
    rintro e w3 ⟨rfl, d', hs3, hd3, st3⟩
    go_wp2_with fail
    go_ret2
    refine ⟨A, c, N, 0, 8, HN.out, HK.out, HE.out, rfl, Rd.nil_, (st2.trans st3).mono (by intro k hk; simp only [List.mem_append, List.mem_cons, List.not_mem_nil, or_false] at hk ⊢; rcases hk with (h | h | h | h) | (h | h | h) <;> simp [h]), fun _ => ⟨d', hs3, hd3.imp id (fun hh g e => Nat.le_trans (Nat.le_trans hz2 g2.size) (hh g e))⟩, fun e => absurd rfl e⟩
  · rw [hlt] at hs2
    obtain ⟨i0, i1, i2⟩ := hs2.1.three_
    have stf : Stay w w2 [some r, own, some b, some s] := st2.mono (by intro k hk; simp only [List.mem_cons, List.not_mem_nil, or_false] at hk ⊢; rcases hk with h | h | h | h <;> simp [h])
    have ho2' : ∀ g, own2 = some g → w.heap.size ≤ g := fun g e => Nat.le_trans hz2 (ho2 g e)
    rw [if_neg e8] at rd2 ⊢
    have hE8 : ((E : Int) == 8) = false := by rw [beq_eq_false_iff_ne]; omega
    have FIN : ∃ A' c' N' K' E', N' = al.length ∧ K' = takeN 1 left N' x ∧ E' = takeE 1 left N' x false ∧ Ending.returned (.tuple #[.slice A K c, .int .i64 (E : Nat)]) = .returned (.tuple #[.slice A' (if E' = 8 then 0 else K') c', .int .i64 (E' : Nat)]) ∧
        Rd w2 w2.heap.size 1 A' (if E' = 8 then 0 else K') (bcells (al.take (if E' = 8 then 0 else K'))) ∧ Stay w w2 [some r, own, some b, some s] ∧
        (E' = 8 → ∃ d', IsSide w2 s r mo false d' al ∧ (d' = d ∨ ∀ g, d' = some g → w.heap.size ≤ g)) ∧
        (E' ≠ 8 → ∃ own', IsSideB w2 s r mo d [] b own' (left - K') cb (al.drop K') ∧ (∀ g, own' = some g → w.heap.size ≤ g)) :=
      ⟨A, c, N, K, E, HN.out, HK.out, HE.out, by rw [if_neg e8], by rw [if_neg e8]; exact rd2, stf, fun e => absurd e e8, fun _ => ⟨own2, hs2, ho2'⟩⟩
    have HF := hide FIN
    clear FIN hs2 rd2 st1 st2 stf g2 hx2 hs1 ho1 ho2 ho2' own_ne
    rcases hEs with rfl | rfl | rfl
    · go_wp2_with fail
      go_ret2
      exact HF.out
    · by_cases hK0 : K = 0
      · subst hK0
        go_wp2_with fail
        go_ret2
        exact HF.out
      · have hK0' : ((K : Int) == 0) = false := by rw [beq_eq_false_iff_ne]; omega
        clear hK0
        go_wp2_with fail
        go_ret2
        exact HF.out
    · exact absurd rfl e8
set_option maxRecDepth 100000 in
set_option maxHeartbeats 3200000 in
theorem bodynewD_any (kind left : Int) (w : World) : Calls Tryz.prog 148 #[.agg #[.int .i64 kind, .int .i64 left]] w fun e w' => ∃ b cb, e = .returned (.pointer (some ⟨b, 0, none⟩)) ∧ IsBodyW w' b none kind (max left 0) (.pointer (some ⟨cb, 0, none⟩)) 0 [] false ∧ Box w' cb dec0 ∧ w.heap.size ≤ b ∧ w.heap.size ≤ cb ∧ cb ≠ b ∧ Below w.heap.size w w' := by
  have bx := Box.new w #[.int .i64 kind, .int .i64 left] 67
  have t0 : Below w.heap.size w (w.alloc (.cells #[.int .i64 kind, .int .i64 left] 67)) := (Below.refl _ _).alloc (Nat.le_refl _) _
  obtain ⟨k0, k1⟩ := Box.two bx
  go_enter Tryz.func148, Tryz.ntmps148
  go_upto_region 1 with (fail)
  generalize w.alloc _ = w0 at k0 k1 t0 bx ⊢
  have ck : ∀ (W W' : World) (b o : Nat) (v : Value), W.cell? ⟨b, o, none⟩ = some v → Below W.heap.size W W' → W'.cell? ⟨b, o, none⟩ = some v := fun W W' b o v h hb =>
    (hb.cell (p := ⟨b, o, none⟩) (World.block_lt_of_cell? W _ h)).trans h
  go_region_held3 (fun w' => w'.cell? ⟨w.heap.size, 0, none⟩ = some (.int .i64 kind) ∧ w'.cell? ⟨w.heap.size, 1, none⟩ = some (.int .i64 left) ∧ Below w.heap.size w w')
    (first | exact ⟨k0, k1, below_drewN (k := 1) t0⟩ | exact ⟨ck w0.drew _ _ _ _ k0 k12, ck w0.drew _ _ _ _ k1 k12, (below_drewN (k := 1) t0).trans (k12.mono t0.size)⟩ | (have tt := (below_drewN (k := 1) t0).trans (k12.mono t0.size); exact ⟨cell_past _ _ (ck w0.drew _ _ _ _ k0 k12), cell_past _ _ (ck w0.drew _ _ _ _ k1 k12), tt.alloc tt.size _⟩) | assumption)
    (first | (go_at_call 192; refine (chunknew_any _).mono ?_; rintro e w12 ⟨rfl, x12, k12⟩))
  all_goals
    have tt := (below_drewN (k := 1) t0).trans (k12.mono t0.size)
    go_wp2
    go_ret
    have x12' : Box w12 w0.heap.size dec0 := x12
    have hlt := x12'.1
    exact ⟨w12.heap.size, w0.heap.size, rfl, ⟨none, 0, Box.new w12 #[.int .i64 kind, .int .i64 (max left 0), .slice none 0 0, .pointer (some ⟨w0.heap.size, 0, none⟩), .bool false] 132, Ow.nil_, by simp [Value.ownBlock], by simp⟩, x12'.below ((Below.refl _ _).alloc (Nat.le_refl _) _), tt.size, t0.size, by omega, tt.alloc tt.size _⟩

set_option maxRecDepth 100000 in
set_option maxHeartbeats 3200000 in
theorem linkbegin_any (s r mo : Nat) (d : Option Nat) (rs : List UInt8) (left : Int) (w : World) (h : IsSide w s r mo false d rs) :
    Calls Tryz.prog 111 #[.pointer (some ⟨s, 0, none⟩), .agg #[.int .i64 1, .int .i64 left]] w fun e w' => e = .returned (.tuple #[]) ∧ ∃ b cb, IsSideB w' s r mo d rs b none (max left 0) cb [] ∧ w.heap.size ≤ b ∧ w.heap.size ≤ cb ∧ Stay w w' [some s] := by
  have ta : Below w.heap.size w (w.alloc (.cells #[.int .i64 1, .int .i64 left] 67)) := (Below.refl _ _).alloc (Nat.le_refl _) _
  have bx := Box.new w #[.int .i64 1, .int .i64 left] 67
  obtain ⟨x0, x1⟩ := bx.two
  have hsl := h.1.1
  have hrl := h.2.1.lt
  have h0 := h.below ta
  go_enter Tryz.func111, Tryz.ntmps111
  go_upto_region 1 with (fail)
  generalize w.alloc (.cells #[.int .i64 1, .int .i64 left] 67) = w0 at ta x0 x1 h0 ⊢
  clear bx
  go_wp2_with fail
  refine (bodynewD_any 1 left w0).mono ?_
  rintro e w1 ⟨b, cb, rfl, hb, hc, hb1, hc1, hne, b1⟩
  have h1 := h0.below b1
  obtain ⟨k0, k1, k2⟩ := h1.1.three_
  have f2 := (h1.1.2 2 _ rfl).2
  have hsl1 := h1.1.1
  have hx2 := h1.1.set (k := 2) (x := .pointer (some ⟨b, 0, none⟩)) (by simp)
  simp only [List.set_cons_succ, List.set_cons_zero] at hx2
  have g2 := grown_set (World.grownBy.refl w1 (some s)) 2 (.pointer (some ⟨b, 0, none⟩))
  have hr2 := h1.2.1.grown g2 (fun e => h.2.2.1 (Option.some.inj e)) (.inr (fun e => h.2.2.2.1 e.symm))
  have z0 := ta.size
  have hbs : b ≠ s := by omega
  have hcs : cb ≠ s := by omega
  have hb2 := hb.grown g2 (fun e => hbs (Option.some.inj e).symm) (.inl rfl)
  have hc2 := hc.grown_ g2 (fun e => hcs (Option.some.inj e).symm)
  have st : Stay w (w1.setCell ⟨s, 2, none⟩ (.pointer (some ⟨b, 0, none⟩))) [some s] := (Stay.of_grown (grown_trans (grown_of_below (ta.trans (b1.mono ta.size))) g2))
  go_wp2_with fail
  go_end0
  exact ⟨rfl, b, cb, ⟨hx2, hr2, h.2.2.1, h.2.2.2.1, h.2.2.2.2, hb2, hc2, ⟨hbs, by omega, hcs, by omega, hne, by simp, by simp, by simp⟩, by simp⟩, by omega, by omega, st⟩
end Go.Proofs.YtijlaclngibekaaGreatDoor

/- link.Side's End, and a side beside a row of another's that changes. -/
namespace Go.Proofs.YtijlaclngibekaaGreatDoor
open Go.RowKit
set_option linter.unusedVariables false
set_option linter.unusedSimpArgs false

set_option maxRecDepth 100000 in
set_option maxHeartbeats 800000 in
theorem linkend_any (s r mo : Nat) (d : Option Nat) (bs : List UInt8) (w : World) (h : IsSide w s r mo false d bs) :
    Calls Tryz.prog 32 #[.pointer (some ⟨s, 0, none⟩)] w fun e w' => e = .returned (.tuple #[]) ∧ IsSide w' s r mo true d bs ∧ w.grownBy w' (some s) := by
  obtain ⟨k0, k1, k2⟩ := h.1.three_
  have hsl := h.1.1
  have f1 := (h.1.2 1 _ rfl).2
  have hx2 := h.1.set (k := 1) (x := .bool true) (by simp)
  simp only [List.set_cons_succ, List.set_cons_zero] at hx2
  have g2 := grown_set (World.grownBy.refl w (some s)) 1 (.bool true)
  have hr2 := h.2.1.grown g2 (fun e => h.2.2.1 (Option.some.inj e)) (.inr (fun e => h.2.2.2.1 e.symm))
  go_enter Tryz.func32, Tryz.ntmps32
  go_wp2_with fail
  go_end0
  exact ⟨rfl, ⟨hx2, hr2, h.2.2⟩, g2⟩
theorem side_far_ {w w' : World} {s r mo g : Nat} {ended : Bool} {d : Option Nat} {bs : List UInt8} (h : IsSide w s r mo ended d bs) {row : Option Nat} (hg : w.grownBy w' row) (h1 : row ≠ some s) (h2 : row ≠ some r) (h3 : row = none ∨ row ≠ d) : IsSide w' s r mo ended d bs :=
  ⟨h.1.grown_ hg h1, h.2.1.grown hg h2 h3, h.2.2⟩
theorem sideB_far_ {w w' : World} {s r mo : Nat} {d : Option Nat} {rs : List UInt8} {b : Nat} {own : Option Nat} {left : Int} {cb : Nat} {bs : List UInt8} (h : IsSideB w s r mo d rs b own left cb bs) {row : Option Nat} (hg : w.grownBy w' row)
    (h1 : row ≠ some s) (h2 : row ≠ some r) (h3 : row = none ∨ row ≠ d) (h4 : row ≠ some b) (h5 : row ≠ some cb) (h6 : own = none ∨ own ≠ row) : IsSideB w' s r mo d rs b own left cb bs := by
  obtain ⟨k1, k2, k3, k4, k5, k6, k7, k8⟩ := h
  exact ⟨k1.grown_ hg h1, k2.grown hg h2 h3, k3, k4, k5, k6.grown hg h4 h6, k7.grown_ hg h5, k8⟩
end Go.Proofs.YtijlaclngibekaaGreatDoor
