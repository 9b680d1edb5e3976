/- link.Side without a body: contracts. -/
import Derived.Test.YtijlaclngibekaaGreatDoorKRingG
import Derived.Test.YtijlaclngibekaaGreatDoorKTrimG
import Derived.Test.YtijlaclngibekaaGreatDoorKBase
import Derived.Test.YtijlaclngibekaaGreatDoorKCalm
import Derived.Deep.RegionHeld3
import Derived.Deep.DeepCutAuto
import Derived.Deep.CutBlock
import Derived.OwnWalk
namespace Go.Proofs.YtijlaclngibekaaGreatDoor
open Go.RowKit
set_option linter.unusedVariables false
set_option linter.unusedSimpArgs false

/-- A side in block s, its ring in block r, no body. -/
def IsSide (w : World) (s r mo : Nat) (ended : Bool) (d : Option Nat) (bs : List UInt8) : Prop :=
  Box w s [.pointer (some ⟨r, 0, none⟩), .bool ended, .pointer none] ∧ IsRing w 103 1 r bs.length mo d (bcells bs) ∧ s ≠ r ∧ d ≠ some s ∧ mo ≤ 65536
theorem Box.grown_ {w w' : World} {g : Nat} {cs : List Value} {row : Option Nat} (h : Box w g cs) (hg : w.grownBy w' row) (hne : row ≠ some g) : Box w' g cs := by
  have hb : w'.heap[g]? = w.heap[g]? := hg.block g h.1 (fun e => hne e.symm)
  exact ⟨Nat.lt_of_lt_of_le h.1 hg.size, fun j u hu => ⟨(World.cell?_of_block (a := ⟨g, j, none⟩) hb).trans (h.2 j u hu).1, (World.frozen?_of_block (a := ⟨g, j, none⟩) hb).trans (h.2 j u hu).2⟩⟩
theorem Box.three_ {w : World} {g : Nat} {a b c : Value} (h : Box w g [a, b, c]) : w.cell? ⟨g, 0, none⟩ = some a ∧ w.cell? ⟨g, 1, none⟩ = some b ∧ w.cell? ⟨g, 2, none⟩ = some c := ⟨(h.2 0 a rfl).1, (h.2 1 b rfl).1, (h.2 2 c rfl).1⟩
theorem IsSide.below {w w' : World} {s r mo : Nat} {ended : Bool} {d : Option Nat} {bs : List UInt8} (h : IsSide w s r mo ended d bs) (hb : Below w.heap.size w w') : IsSide w' s r mo ended d bs :=
  ⟨h.1.below hb, h.2.1.below hb, h.2.2⟩
theorem IsSide.drewN {w : World} {s r mo : Nat} {ended : Bool} {d : Option Nat} {bs : List UInt8} (h : IsSide w s r mo ended d bs) (k : Nat) : IsSide (w.drewN k) s r mo ended d bs := h.below (below_drewN (Below.refl _ _))
theorem bcells_one1 (l : List UInt8) : ∀ u ∈ bcells l, u.oneCell' = true := bcells_one l
set_option maxHeartbeats 800000 in
theorem heldBodyNil (w : World) : Calls Tryz.prog 47 #[.pointer none] w fun e w' => e = .returned (.int .i64 0) ∧ w = w' := by
  go_enter Tryz.func47, Tryz.ntmps47
  go_wp2
  go_ret
  exact ⟨rfl, rfl⟩
def bufN (n : Int) : Nat := (min (max n 16384) 65536).toNat
set_option maxRecDepth 100000 in
set_option maxHeartbeats 3200000 in
theorem linknew_any (n : Int) (w : World) :
    Calls Tryz.prog 27 #[.int .i64 n] w fun e w' => ∃ s r, e = .returned (.pointer (some ⟨s, 0, none⟩)) ∧ IsSide w' s r (bufN n) false none [] ∧ w.heap.size ≤ s ∧ w.heap.size ≤ r ∧ Below w.heap.size w w' := by
  obtain ⟨m, hm⟩ : ∃ m : Nat, m = bufN n := ⟨_, rfl⟩
  have hm2 : min (max n 16384) 65536 = (m : Int) := by
    rw [hm]; unfold bufN; omega
  have q1 := newB m w
  have hmo : most (m : Int) = m := by unfold most; rw [hm]; unfold bufN; omega
  have hm3 : m ≤ 65536 := by rw [hm]; unfold bufN; omega
  rw [hmo] at q1
  rw [← hm]
  clear hmo hm
  go_enter Tryz.func27, Tryz.ntmps27
  go_wp2_with fail
  refine q1.mono ?_
  rintro e w1 ⟨rfl, r1, b1⟩
  go_wp2_with fail
  go_ret
  have hlt := r1.lt
  refine ⟨w1.heap.size, w.heap.size, rfl, ⟨Box.new w1 #[.pointer (some ⟨w.heap.size, 0, none⟩), .bool false, .pointer none] 101, r1.below ((Below.refl _ _).alloc (Nat.le_refl _) _), by omega, by simp, hm3⟩, b1.size, Nat.le_refl _, b1.alloc b1.size _⟩
/-! ### printed by gen/link.py -/
set_option maxRecDepth 100000 in
set_option maxHeartbeats 3200000 in
theorem linkheld_any (s r mo : Nat) (ended : Bool) (d : Option Nat) (bs : List UInt8) (w : World) (h : IsSide w s r mo ended d bs) :
    Calls Tryz.prog 25 #[.pointer (some ⟨s, 0, none⟩)] w fun e w' => e = .returned (.int .i64 (bs.length : Nat)) ∧ ∃ k, w' = w.drewN k := by
  have hmo := h.2.1.le
  have hm2 := h.2.2.2.2
  have hw1 : IntKind.i64.wrap (bs.length : Int) = (bs.length : Int) := by rw [IntKind.wrap_i64]; omega
  go_enter Tryz.func25, Tryz.ntmps25
  go_wp2_with fail
  go_upto_region 3 with (fail)
  refine CalmP.hideN (fun K0 hQ => ?_)
  refine wp_region_held_drew (S := (fun W : World => IsSide W s r mo ended d bs)) (by kernel_rfl) (h.drewN 1) (fun hHeld => ?_)
  refine wpAnyH_take (i := 0) (v := ?_) rfl (by kernel_rfl) (by kernel_rfl) (by kernel_rfl) CalmP.onlyN_panic (Or.inl ⟨by kernel_rfl, ?_⟩) (by assumption) ?_
  rotate_left
  · (intro w_ hSw; (try dsimp only at hSw); obtain ⟨k0_, k1_, k2_⟩ := hSw.1.three_; go_simp; try with_reducible rfl)
  try simp only [List.getElem_toArray, List.getElem_cons_succ, List.getElem_cons_zero, Act.put, List.setIfInBounds_toArray, List.set_cons_zero, List.set_cons_succ]
  refine wpAnyH_take (i := 1) (v := ?_) rfl (by kernel_rfl) (by kernel_rfl) (by kernel_rfl) CalmP.onlyN_panic (Or.inl ⟨by kernel_rfl, ?_⟩) (by assumption) ?_
  rotate_left
  · (intro w_ hSw; (try dsimp only at hSw); obtain ⟨k0_, k1_, k2_⟩ := hSw.1.three_; go_simp; try with_reducible rfl)
  try simp only [List.getElem_toArray, List.getElem_cons_succ, List.getElem_cons_zero, Act.put, List.setIfInBounds_toArray, List.set_cons_zero, List.set_cons_succ]
  refine wpAnyH_take (i := 2) (v := ?_) rfl (by kernel_rfl) (by kernel_rfl) (by kernel_rfl) CalmP.onlyN_panic (Or.inl ⟨by kernel_rfl, ?_⟩) (by assumption) ?_
  rotate_left
  · (intro w_ hSw; (try dsimp only at hSw); obtain ⟨k0_, k1_, k2_⟩ := hSw.1.three_; go_simp; try with_reducible rfl)
  try simp only [List.getElem_toArray, List.getElem_cons_succ, List.getElem_cons_zero, Act.put, List.setIfInBounds_toArray, List.set_cons_zero, List.set_cons_succ]
  refine wpAnyH_take (i := 3) (v := ?_) rfl (by kernel_rfl) (by kernel_rfl) (by kernel_rfl) CalmP.onlyN_panic (Or.inl ⟨by kernel_rfl, ?_⟩) (by assumption) ?_
  rotate_left
  · (intro w_ hSw; (try dsimp only at hSw); obtain ⟨k0_, k1_, k2_⟩ := hSw.1.three_; go_simp; try with_reducible rfl)
  try simp only [List.getElem_toArray, List.getElem_cons_succ, List.getElem_cons_zero, Act.put, List.setIfInBounds_toArray, List.set_cons_zero, List.set_cons_succ]
  refine wpAnyH_take (i := 5) (v := ?_) rfl (by kernel_rfl) (by kernel_rfl) (by kernel_rfl) CalmP.onlyN_panic (Or.inl ⟨by kernel_rfl, ?_⟩) (by assumption) ?_
  rotate_left
  · (intro w_ hSw; (try dsimp only at hSw); obtain ⟨k0_, k1_, k2_⟩ := hSw.1.three_; go_simp; try with_reducible rfl)
  try simp only [List.getElem_toArray, List.getElem_cons_succ, List.getElem_cons_zero, Act.put, List.setIfInBounds_toArray, List.set_cons_zero, List.set_cons_succ]
  refine wpAnyH_take (i := 6) (v := ?_) rfl (by kernel_rfl) (by kernel_rfl) (by kernel_rfl) CalmP.onlyN_panic (Or.inl ⟨by kernel_rfl, ?_⟩) (by assumption) ?_
  rotate_left
  · (intro w_ hSw; (try dsimp only at hSw); obtain ⟨k0_, k1_, k2_⟩ := hSw.1.three_; go_simp; try with_reducible rfl)
  try simp only [List.getElem_toArray, List.getElem_cons_succ, List.getElem_cons_zero, Act.put, List.setIfInBounds_toArray, List.set_cons_zero, List.set_cons_succ]
  refine wpAnyH_take (i := 7) (v := ?_) rfl (by kernel_rfl) (by kernel_rfl) (by kernel_rfl) CalmP.onlyN_panic (Or.inl ⟨by kernel_rfl, ?_⟩) (by assumption) ?_
  rotate_left
  · (intro w_ hSw; (try dsimp only at hSw); obtain ⟨k0_, k1_, k2_⟩ := hSw.1.three_; go_simp; try with_reducible rfl)
  try simp only [List.getElem_toArray, List.getElem_cons_succ, List.getElem_cons_zero, Act.put, List.setIfInBounds_toArray, List.set_cons_zero, List.set_cons_succ]
  refine wpAnyH_take (i := 8) (v := ?_) rfl (by kernel_rfl) (by kernel_rfl) (by kernel_rfl) CalmP.onlyN_panic (Or.inl ⟨by kernel_rfl, ?_⟩) (by assumption) ?_
  rotate_left
  · (intro w_ hSw; (try dsimp only at hSw); obtain ⟨k0_, k1_, k2_⟩ := hSw.1.three_; go_simp; try with_reducible rfl)
  try simp only [List.getElem_toArray, List.getElem_cons_succ, List.getElem_cons_zero, Act.put, List.setIfInBounds_toArray, List.set_cons_zero, List.set_cons_succ]
  refine CalmP.take_calm (i := 4) (v := .int .i64 (bs.length : Nat)) rfl (by kernel_rfl) (by kernel_rfl) (by kernel_rfl) CalmP.onlyN_panic (Or.inl ⟨by kernel_rfl, ?_⟩) (by assumption) ?_
  · (intro w_ hSw; (try dsimp only at hSw); go_simp; exact (lenB r _ mo d _ w_ hSw.2.1).mono (fun e w' h => ⟨h.1, h.2.symm⟩))
  try simp only [List.getElem_toArray, List.getElem_cons_succ, List.getElem_cons_zero, Act.put, List.setIfInBounds_toArray, List.set_cons_zero, List.set_cons_succ]
  refine CalmP.take_calm (i := 9) (v := .int .i64 0) rfl (by kernel_rfl) (by kernel_rfl) (by kernel_rfl) CalmP.onlyN_panic (Or.inl ⟨by kernel_rfl, ?_⟩) (by assumption) ?_
  · (intro w_ hSw; (try dsimp only at hSw); go_simp; exact (heldBodyNil w_).mono (fun e w' h => ⟨h.1, h.2.symm⟩))
  try simp only [List.getElem_toArray, List.getElem_cons_succ, List.getElem_cons_zero, Act.put, List.setIfInBounds_toArray, List.set_cons_zero, List.set_cons_succ]
  refine wpAnyH_take (i := 10) (v := ?_) rfl (by kernel_rfl) (by kernel_rfl) (by kernel_rfl) CalmP.onlyN_panic (Or.inl ⟨by kernel_rfl, ?_⟩) (by assumption) ?_
  rotate_left
  · (intro w_ hSw; (try dsimp only at hSw); obtain ⟨k0_, k1_, k2_⟩ := hSw.1.three_; go_simp; try with_reducible rfl)
  try simp only [List.getElem_toArray, List.getElem_cons_succ, List.getElem_cons_zero, Act.put, List.setIfInBounds_toArray, List.set_cons_zero, List.set_cons_succ]
  refine wpAnyH_take (i := 11) (v := ?_) rfl (by kernel_rfl) (by kernel_rfl) (by kernel_rfl) CalmP.onlyN_panic (Or.inl ⟨by kernel_rfl, ?_⟩) (by assumption) ?_
  rotate_left
  · (intro w_ hSw; (try dsimp only at hSw); obtain ⟨k0_, k1_, k2_⟩ := hSw.1.three_; go_simp; try with_reducible rfl)
  try simp only [List.getElem_toArray, List.getElem_cons_succ, List.getElem_cons_zero, Act.put, List.setIfInBounds_toArray, List.set_cons_zero, List.set_cons_succ]
  refine wpAnyH_done (by kernel_rfl) ?_ _
  refine CalmP.onlyN_here (hQ.out _ _ ?_)
  clear hQ K0
  go_wp2_with fail
  go_ret
  exact ⟨rfl, 1, rfl⟩
set_option maxRecDepth 100000 in
set_option maxHeartbeats 3200000 in
theorem linkmost_any (s r mo : Nat) (ended : Bool) (d : Option Nat) (bs : List UInt8) (w : World) (h : IsSide w s r mo ended d bs) :
    Calls Tryz.prog 52 #[.pointer (some ⟨s, 0, none⟩)] w fun e w' => e = .returned (.int .i64 (mo : Nat)) ∧ ∃ k, w' = w.drewN k := by
  have hmo := h.2.1.le
  have hm2 := h.2.2.2.2
  have hw1 : IntKind.i64.wrap ((bs.length : Int) + ((mo : Int) - (bs.length : Int))) = (mo : Int) := by rw [IntKind.wrap_i64]; omega
  have hs1 : (bs.length : Int) + ((mo : Int) - (bs.length : Int)) = (mo : Int) := by omega
  have hw2 : IntKind.i64.wrap (mo : Int) = (mo : Int) := by rw [IntKind.wrap_i64]; omega
  go_enter Tryz.func52, Tryz.ntmps52
  go_wp2_with fail
  go_upto_region 1 with (fail)
  refine CalmP.hideN (fun K0 hQ => ?_)
  refine wp_region_held_drew (S := (fun W : World => IsSide W s r mo ended d bs)) (by kernel_rfl) (h.drewN 1) (fun hHeld => ?_)
  refine wpAnyH_take (i := 0) (v := ?_) rfl (by kernel_rfl) (by kernel_rfl) (by kernel_rfl) CalmP.onlyN_panic (Or.inl ⟨by kernel_rfl, ?_⟩) (by assumption) ?_
  rotate_left
  · (intro w_ hSw; (try dsimp only at hSw); obtain ⟨k0_, k1_, k2_⟩ := hSw.1.three_; go_simp; try with_reducible rfl)
  try simp only [List.getElem_toArray, List.getElem_cons_succ, List.getElem_cons_zero, Act.put, List.setIfInBounds_toArray, List.set_cons_zero, List.set_cons_succ]
  refine wpAnyH_take (i := 1) (v := ?_) rfl (by kernel_rfl) (by kernel_rfl) (by kernel_rfl) CalmP.onlyN_panic (Or.inl ⟨by kernel_rfl, ?_⟩) (by assumption) ?_
  rotate_left
  · (intro w_ hSw; (try dsimp only at hSw); obtain ⟨k0_, k1_, k2_⟩ := hSw.1.three_; go_simp; try with_reducible rfl)
  try simp only [List.getElem_toArray, List.getElem_cons_succ, List.getElem_cons_zero, Act.put, List.setIfInBounds_toArray, List.set_cons_zero, List.set_cons_succ]
  refine wpAnyH_take (i := 2) (v := ?_) rfl (by kernel_rfl) (by kernel_rfl) (by kernel_rfl) CalmP.onlyN_panic (Or.inl ⟨by kernel_rfl, ?_⟩) (by assumption) ?_
  rotate_left
  · (intro w_ hSw; (try dsimp only at hSw); obtain ⟨k0_, k1_, k2_⟩ := hSw.1.three_; go_simp; try with_reducible rfl)
  try simp only [List.getElem_toArray, List.getElem_cons_succ, List.getElem_cons_zero, Act.put, List.setIfInBounds_toArray, List.set_cons_zero, List.set_cons_succ]
  refine wpAnyH_take (i := 3) (v := ?_) rfl (by kernel_rfl) (by kernel_rfl) (by kernel_rfl) CalmP.onlyN_panic (Or.inl ⟨by kernel_rfl, ?_⟩) (by assumption) ?_
  rotate_left
  · (intro w_ hSw; (try dsimp only at hSw); obtain ⟨k0_, k1_, k2_⟩ := hSw.1.three_; go_simp; try with_reducible rfl)
  try simp only [List.getElem_toArray, List.getElem_cons_succ, List.getElem_cons_zero, Act.put, List.setIfInBounds_toArray, List.set_cons_zero, List.set_cons_succ]
  refine wpAnyH_take (i := 5) (v := ?_) rfl (by kernel_rfl) (by kernel_rfl) (by kernel_rfl) CalmP.onlyN_panic (Or.inl ⟨by kernel_rfl, ?_⟩) (by assumption) ?_
  rotate_left
  · (intro w_ hSw; (try dsimp only at hSw); obtain ⟨k0_, k1_, k2_⟩ := hSw.1.three_; go_simp; try with_reducible rfl)
  try simp only [List.getElem_toArray, List.getElem_cons_succ, List.getElem_cons_zero, Act.put, List.setIfInBounds_toArray, List.set_cons_zero, List.set_cons_succ]
  refine wpAnyH_take (i := 6) (v := ?_) rfl (by kernel_rfl) (by kernel_rfl) (by kernel_rfl) CalmP.onlyN_panic (Or.inl ⟨by kernel_rfl, ?_⟩) (by assumption) ?_
  rotate_left
  · (intro w_ hSw; (try dsimp only at hSw); obtain ⟨k0_, k1_, k2_⟩ := hSw.1.three_; go_simp; try with_reducible rfl)
  try simp only [List.getElem_toArray, List.getElem_cons_succ, List.getElem_cons_zero, Act.put, List.setIfInBounds_toArray, List.set_cons_zero, List.set_cons_succ]
  refine wpAnyH_take (i := 7) (v := ?_) rfl (by kernel_rfl) (by kernel_rfl) (by kernel_rfl) CalmP.onlyN_panic (Or.inl ⟨by kernel_rfl, ?_⟩) (by assumption) ?_
  rotate_left
  · (intro w_ hSw; (try dsimp only at hSw); obtain ⟨k0_, k1_, k2_⟩ := hSw.1.three_; go_simp; try with_reducible rfl)
  try simp only [List.getElem_toArray, List.getElem_cons_succ, List.getElem_cons_zero, Act.put, List.setIfInBounds_toArray, List.set_cons_zero, List.set_cons_succ]
  refine wpAnyH_take (i := 8) (v := ?_) rfl (by kernel_rfl) (by kernel_rfl) (by kernel_rfl) CalmP.onlyN_panic (Or.inl ⟨by kernel_rfl, ?_⟩) (by assumption) ?_
  rotate_left
  · (intro w_ hSw; (try dsimp only at hSw); obtain ⟨k0_, k1_, k2_⟩ := hSw.1.three_; go_simp; try with_reducible rfl)
  try simp only [List.getElem_toArray, List.getElem_cons_succ, List.getElem_cons_zero, Act.put, List.setIfInBounds_toArray, List.set_cons_zero, List.set_cons_succ]
  refine CalmP.take_calm (i := 4) (v := .int .i64 (bs.length : Nat)) rfl (by kernel_rfl) (by kernel_rfl) (by kernel_rfl) CalmP.onlyN_panic (Or.inl ⟨by kernel_rfl, ?_⟩) (by assumption) ?_
  · (intro w_ hSw; (try dsimp only at hSw); go_simp; exact (lenB r _ mo d _ w_ hSw.2.1).mono (fun e w' h => ⟨h.1, h.2.symm⟩))
  try simp only [List.getElem_toArray, List.getElem_cons_succ, List.getElem_cons_zero, Act.put, List.setIfInBounds_toArray, List.set_cons_zero, List.set_cons_succ]
  refine wpAnyH_ready (rs := [9]) (by kernel_rfl) (by simp) ?_
  refine AllReadyH.cons rfl (fun K_ hK => ?_) AllReadyH.nil
  go_simp
  refine (roomB r _ mo d _ _ (h.drewN 1).2.1 (by have := h.2.2.2.2; omega)).mono ?_
  rintro e V1 ⟨rfl, kq, rfl⟩
  refine hK.out _ _ ((h.drewN 1).drewN kq) (fun hHeld => ?_)
  clear hK K_
  try simp only [List.getElem_toArray, List.getElem_cons_succ, List.getElem_cons_zero, Act.put, List.setIfInBounds_toArray, List.set_cons_zero, List.set_cons_succ]
  refine wpAnyH_take (i := 10) (v := ?_) rfl (by kernel_rfl) (by kernel_rfl) (by kernel_rfl) CalmP.onlyN_panic (Or.inl ⟨by kernel_rfl, ?_⟩) (by assumption) ?_
  rotate_left
  · (intro w_ hSw; (try dsimp only at hSw); obtain ⟨k0_, k1_, k2_⟩ := hSw.1.three_; go_simp; try with_reducible rfl)
  try simp only [List.getElem_toArray, List.getElem_cons_succ, List.getElem_cons_zero, Act.put, List.setIfInBounds_toArray, List.set_cons_zero, List.set_cons_succ]
  refine wpAnyH_take (i := 11) (v := ?_) rfl (by kernel_rfl) (by kernel_rfl) (by kernel_rfl) CalmP.onlyN_panic (Or.inl ⟨by kernel_rfl, ?_⟩) (by assumption) ?_
  rotate_left
  · (intro w_ hSw; (try dsimp only at hSw); obtain ⟨k0_, k1_, k2_⟩ := hSw.1.three_; go_simp; try with_reducible rfl)
  try simp only [List.getElem_toArray, List.getElem_cons_succ, List.getElem_cons_zero, Act.put, List.setIfInBounds_toArray, List.set_cons_zero, List.set_cons_succ]
  refine wpAnyH_done (by kernel_rfl) ?_ _
  refine CalmP.onlyN_here (hQ.out _ _ ?_)
  clear hQ K0
  go_wp2_with fail
  go_ret
  exact ⟨rfl, _, World.drewN_drewN _ _ _⟩
set_option maxRecDepth 100000 in
set_option maxHeartbeats 3200000 in
theorem linkfeed_any (s r mo : Nat) (d : Option Nat) (bs : List UInt8) (A : Option Addr) (n c B : Nat) (ys : List UInt8) (w : World) (h : IsSide w s r mo false d bs) (hy : Rd w B 1 A n (bcells ys)) (hB : B ≤ w.heap.size) (hn : n ≤ 9223372036854775807) (hnc : n ≤ c) :
    Calls Tryz.prog 31 #[.pointer (some ⟨s, 0, none⟩), .slice A n c] w fun e w' => e = .returned (.int .i64 (min n (mo - bs.length) : Nat)) ∧ ∃ d', IsSide w' s r mo false d' (bs ++ ys.take (min n (mo - bs.length))) ∧ (d' = d ∨ ∀ g, d' = some g → w.heap.size ≤ g) ∧ w.grownBy w' (some r) := by
  have hle := h.2.1.le
  have hm2 := h.2.2.2.2
  obtain ⟨k0, k1, k2⟩ := h.1.three_
  obtain ⟨p, hp⟩ : ∃ p, p = min n (mo - bs.length) := ⟨_, rfl⟩
  have hylen : ys.length = n := by have := hy.1; rw [bcells_length] at this; omega
  rw [← hp]
  have q1 := linkheld_any s r mo false d bs w h
  go_enter Tryz.func31, Tryz.ntmps31
  go_wp2_with fail
  refine q1.mono ?_
  rintro e w1 ⟨rfl, ka, rfl⟩
  have h1 := h.drewN ka
  have q2 := linkmost_any s r mo false d bs _ h1
  go_wp2_with fail
  refine q2.mono ?_
  rintro e w2 ⟨rfl, kb, hw2⟩
  have h2 : IsSide w2 s r mo false d bs := by rw [hw2]; exact h1.drewN kb
  have t2 : Below w.heap.size w w2 := by rw [hw2, World.drewN_drewN]; exact below_drewN (Below.refl _ _)
  clear q1 q2 hw2
  by_cases hfull : mo ≤ bs.length
  · obtain rfl : p = 0 := by omega
    have i1 : (mo : Int) ≤ (bs.length : Int) := by omega
    clear hp
    go_wp2_with fail
    go_ret
    exact ⟨rfl, d, by rw [List.take_zero, List.append_nil]; exact h2, .inl rfl, grown_of_below t2⟩
  · have i1 : ¬ (mo : Int) ≤ (bs.length : Int) := by omega
    have hsub : IntKind.i64.wrap ((mo : Int) - (bs.length : Int)) = (mo : Int) - (bs.length : Int) := by rw [IntKind.wrap_i64]; omega
    have hmin : min (n : Int) ((mo : Int) - (bs.length : Int)) = (p : Int) := by omega
    have hpn : p ≤ n := by omega
    have hpn' : (p : Int) ≤ (n : Int) := by omega
    have hpc : (p : Int) ≤ (c : Int) := by omega
    have hyF : Rd w2 B 1 A p (bcells (ys.take p)) := by
      have := (hy.below (t2.mono hB)).front hpn
      rw [Nat.mul_one, bcells_take] at this; exact this
    have hB2 : B ≤ w2.heap.size := Nat.le_trans hB t2.size
    have hpl : (ys.take p).length = p := by rw [List.length_take]; omega
    have hpp : p = min p (mo - bs.length) := by omega
    have HPP := hide hpp
    clear hp hpp
    go_upto_region 3 with (fail)
    refine CalmP.hideN (fun K0 hQ => ?_)
    refine wp_region_held_drew (S := (fun W : World => W.cell? ⟨s, 0, none⟩ = some (.pointer (some ⟨r, 0, none⟩)))) (by kernel_rfl) (show w2.drew.cell? ⟨s, 0, none⟩ = some (.pointer (some ⟨r, 0, none⟩)) from h2.1.three_.1) (fun hHeld => ?_)
    refine wpAnyH_take (i := 0) (v := ?_) rfl (by kernel_rfl) (by kernel_rfl) (by kernel_rfl) CalmP.onlyN_panic (Or.inl ⟨by kernel_rfl, ?_⟩) (by assumption) ?_
    rotate_left
    · (intro w_ hSw; (try dsimp only at hSw); go_simp; try with_reducible rfl)
    try simp only [List.getElem_toArray, List.getElem_cons_succ, List.getElem_cons_zero, Act.put, List.setIfInBounds_toArray, List.set_cons_zero, List.set_cons_succ]
    refine wpAnyH_take (i := 1) (v := ?_) rfl (by kernel_rfl) (by kernel_rfl) (by kernel_rfl) CalmP.onlyN_panic (Or.inl ⟨by kernel_rfl, ?_⟩) (by assumption) ?_
    rotate_left
    · (intro w_ hSw; (try dsimp only at hSw); go_simp; try with_reducible rfl)
    try simp only [List.getElem_toArray, List.getElem_cons_succ, List.getElem_cons_zero, Act.put, List.setIfInBounds_toArray, List.set_cons_zero, List.set_cons_succ]
    refine wpAnyH_take (i := 2) (v := ?_) rfl (by kernel_rfl) (by kernel_rfl) (by kernel_rfl) CalmP.onlyN_panic (Or.inl ⟨by kernel_rfl, ?_⟩) (by assumption) ?_
    rotate_left
    · (intro w_ hSw; (try dsimp only at hSw); go_simp; try with_reducible rfl)
    try simp only [List.getElem_toArray, List.getElem_cons_succ, List.getElem_cons_zero, Act.put, List.setIfInBounds_toArray, List.set_cons_zero, List.set_cons_succ]
    refine wpAnyH_take (i := 3) (v := ?_) rfl (by kernel_rfl) (by kernel_rfl) (by kernel_rfl) CalmP.onlyN_panic (Or.inl ⟨by kernel_rfl, ?_⟩) (by assumption) ?_
    rotate_left
    · (intro w_ hSw; (try dsimp only at hSw); go_simp; try with_reducible rfl)
    try simp only [List.getElem_toArray, List.getElem_cons_succ, List.getElem_cons_zero, Act.put, List.setIfInBounds_toArray, List.set_cons_zero, List.set_cons_succ]
    refine wpAnyH_take (i := 4) (v := ?_) rfl (by kernel_rfl) (by kernel_rfl) (by kernel_rfl) CalmP.onlyN_panic (Or.inl ⟨by kernel_rfl, ?_⟩) (by assumption) ?_
    rotate_left
    · (intro w_ hSw; (try dsimp only at hSw); go_simp; try with_reducible rfl)
    try simp only [List.getElem_toArray, List.getElem_cons_succ, List.getElem_cons_zero, Act.put, List.setIfInBounds_toArray, List.set_cons_zero, List.set_cons_succ]
    refine wpAnyH_take (i := 5) (v := ?_) rfl (by kernel_rfl) (by kernel_rfl) (by kernel_rfl) CalmP.onlyN_panic (Or.inl ⟨by kernel_rfl, ?_⟩) (by assumption) ?_
    rotate_left
    · (intro w_ hSw; (try dsimp only at hSw); go_simp; try with_reducible rfl)
    try simp only [List.getElem_toArray, List.getElem_cons_succ, List.getElem_cons_zero, Act.put, List.setIfInBounds_toArray, List.set_cons_zero, List.set_cons_succ]
    refine wpAnyH_take (i := 6) (v := ?_) rfl (by kernel_rfl) (by kernel_rfl) (by kernel_rfl) CalmP.onlyN_panic (Or.inl ⟨by kernel_rfl, ?_⟩) (by assumption) ?_
    rotate_left
    · (intro w_ hSw; (try dsimp only at hSw); go_simp; try with_reducible rfl)
    try simp only [List.getElem_toArray, List.getElem_cons_succ, List.getElem_cons_zero, Act.put, List.setIfInBounds_toArray, List.set_cons_zero, List.set_cons_succ]
    refine wpAnyH_take (i := 7) (v := ?_) rfl (by kernel_rfl) (by kernel_rfl) (by kernel_rfl) CalmP.onlyN_panic (Or.inl ⟨by kernel_rfl, ?_⟩) (by assumption) ?_
    rotate_left
    · (intro w_ hSw; (try dsimp only at hSw); go_simp; try with_reducible rfl)
    try simp only [List.getElem_toArray, List.getElem_cons_succ, List.getElem_cons_zero, Act.put, List.setIfInBounds_toArray, List.set_cons_zero, List.set_cons_succ]
    refine wpAnyH_take (i := 9) (v := ?_) rfl (by kernel_rfl) (by kernel_rfl) (by kernel_rfl) CalmP.onlyN_panic (Or.inl ⟨by kernel_rfl, ?_⟩) (by assumption) ?_
    rotate_left
    · (intro w_ hSw; (try dsimp only at hSw); go_simp; try with_reducible rfl)
    try simp only [List.getElem_toArray, List.getElem_cons_succ, List.getElem_cons_zero, Act.put, List.setIfInBounds_toArray, List.set_cons_zero, List.set_cons_succ]
    refine wpAnyH_ready (rs := [8]) (by kernel_rfl) (by simp) ?_
    refine AllReadyH.cons rfl (fun K_ hK => ?_) AllReadyH.nil
    go_simp
    refine (linkmost_any s r mo false d bs _ (h2.drewN 1)).mono ?_
    rintro e V1 ⟨rfl, kq, rfl⟩
    have hv0 := (h2.drewN 1).drewN kq
    have hv1 := h2.drewN (1 + kq)
    refine hK.out _ _ (hv0.1.three_.1) (fun hHeld => ?_)
    clear hK K_
    try simp only [List.getElem_toArray, List.getElem_cons_succ, List.getElem_cons_zero, Act.put, List.setIfInBounds_toArray, List.set_cons_zero, List.set_cons_succ]
    refine wpAnyH_ready (rs := [10]) (by kernel_rfl) (by simp) ?_
    refine AllReadyH.cons rfl (fun K_ hK => ?_) AllReadyH.nil
    go_simp
    refine (linkheld_any s r mo false d bs _ hv1).mono ?_
    rintro e V2 ⟨rfl, kr, rfl⟩
    have hv3 := hv1.drewN kr
    have hv2 := h2.drewN (1 + kq + kr)
    refine hK.out _ _ (hv3.1.three_.1) (fun hHeld => ?_)
    clear hK K_
    try simp only [List.getElem_toArray, List.getElem_cons_succ, List.getElem_cons_zero, Act.put, List.setIfInBounds_toArray, List.set_cons_zero, List.set_cons_succ]
    refine wpAnyH_take (i := 11) (v := ?_) rfl (by kernel_rfl) (by kernel_rfl) (by kernel_rfl) CalmP.onlyN_panic (Or.inl ⟨by kernel_rfl, ?_⟩) (by assumption) ?_
    rotate_left
    · (intro w_ hSw; (try dsimp only at hSw); go_simp; try with_reducible rfl)
    try simp only [List.getElem_toArray, List.getElem_cons_succ, List.getElem_cons_zero, Act.put, List.setIfInBounds_toArray, List.set_cons_zero, List.set_cons_succ]
    refine wpAnyH_take (i := 12) (v := ?_) rfl (by kernel_rfl) (by kernel_rfl) (by kernel_rfl) CalmP.onlyN_panic (Or.inl ⟨by kernel_rfl, ?_⟩) (by assumption) ?_
    rotate_left
    · (intro w_ hSw; (try dsimp only at hSw); go_simp; try with_reducible rfl)
    try simp only [List.getElem_toArray, List.getElem_cons_succ, List.getElem_cons_zero, Act.put, List.setIfInBounds_toArray, List.set_cons_zero, List.set_cons_succ]
    refine wpAnyH_take (i := 13) (v := ?_) rfl (by kernel_rfl) (by kernel_rfl) (by kernel_rfl) CalmP.onlyN_panic (Or.inl ⟨by kernel_rfl, ?_⟩) (by assumption) ?_
    rotate_left
    · (intro w_ hSw; (try dsimp only at hSw); go_simp; try with_reducible rfl)
    try simp only [List.getElem_toArray, List.getElem_cons_succ, List.getElem_cons_zero, Act.put, List.setIfInBounds_toArray, List.set_cons_zero, List.set_cons_succ]
    refine wpAnyH_ready (rs := [14]) (by kernel_rfl) (by simp) ?_
    refine AllReadyH.cons rfl (fun K_ hK => ?_) AllReadyH.nil
    go_simp
    refine (pushB r _ mo d _ (bcells (ys.take p)) A p c B (w2.drewN (1 + kq + kr)) hv2.2.1 (by omega) (bcells_one _) (hyF.below (below_drewN (k := 1 + kq + kr) (Below.refl _ _))) (by omega) (by omega) (bcells_one _) (by show B ≤ w2.heap.size; exact hB2) p HPP.out).mono ?_
    rintro e V3 ⟨rfl, ⟨d', hr3, hd3⟩, g3⟩
    have hb3 := hv2.1.grown_ g3 (by intro e; cases e; exact h.2.2.1 rfl)
    refine hK.out _ _ (hb3.three_.1) (fun hHeld => ?_)
    clear hK K_
    try simp only [List.getElem_toArray, List.getElem_cons_succ, List.getElem_cons_zero, Act.put, List.setIfInBounds_toArray, List.set_cons_zero, List.set_cons_succ]
    refine wpAnyH_take (i := 15) (v := ?_) rfl (by kernel_rfl) (by kernel_rfl) (by kernel_rfl) CalmP.onlyN_panic (Or.inl ⟨by kernel_rfl, ?_⟩) (by assumption) ?_
    rotate_left
    · (intro w_ hSw; (try dsimp only at hSw); go_simp; try with_reducible rfl)
    try simp only [List.getElem_toArray, List.getElem_cons_succ, List.getElem_cons_zero, Act.put, List.setIfInBounds_toArray, List.set_cons_zero, List.set_cons_succ]
    refine wpAnyH_done (by kernel_rfl) ?_ _
    refine CalmP.onlyN_here (hQ.out _ _ ?_)
    clear hQ K0
    go_wp2_with fail
    go_ret
    have hfin : bcells bs ++ (bcells (ys.take p)).take (p * 1) = bcells (bs ++ ys.take p) := by
      rw [Nat.mul_one, bcells_take, List.take_take, Nat.min_self, bcells_append]
    rw [hfin] at hr3
    have hln : (bs ++ ys.take p).length = bs.length + p := by rw [List.length_append, hpl]
    refine ⟨rfl, d', ⟨hb3, by rw [hln]; exact hr3, h.2.2.1, ?_, hm2⟩, ?_, ?_⟩
    · rcases hd3 with hd3 | hd3
      · rw [hd3]; exact h.2.2.2.1
      · intro e
        have h4 := hd3 s e
        have h5 : s < w2.heap.size := h2.1.1
        have h6 : w2.heap.size ≤ s := h4
        omega
    · rcases hd3 with hd3 | hd3
      · exact .inl hd3
      · exact .inr (fun g e => Nat.le_trans t2.size (hd3 g e))
    · exact grown_trans (grown_of_below (below_drewN (k := 1 + kq + kr) t2)) g3
end Go.Proofs.YtijlaclngibekaaGreatDoor

/- link.Side.Head, without a body. -/
namespace Go.Proofs.YtijlaclngibekaaGreatDoor
open Go.RowKit
set_option linter.unusedVariables false
set_option linter.unusedSimpArgs false

theorem end_take (bs : List UInt8) : endN (bs.take (min 16384 bs.length)) = endN bs ∧ endE (bs.take (min 16384 bs.length)) = endE bs := by
  have e : bs.take (min 16384 bs.length) = bs.take 16384 := by
    by_cases h : bs.length ≤ 16384
    · rw [Nat.min_eq_right h, List.take_length, List.take_of_length_le h]
    · rw [Nat.min_eq_left (by omega)]
  have hi : endI (bs.take 16384) = endI bs := by unfold endI; rw [List.take_take, Nat.min_self]
  rw [e]
  unfold endN endE
  rw [hi]
  refine ⟨rfl, ?_⟩
  split
  · rfl
  · rw [List.length_take]
    by_cases h : 16384 ≤ bs.length
    · rw [if_pos (by omega), if_pos h]
    · rw [if_neg (by omega), if_neg h]
theorem endN_le (bs : List UInt8) : endN bs ≤ bs.length := by
  unfold endN
  split
  · rename_i hi
    have := Lib.index_room (bs.take 16384) endL hi
    have e : (endL.length : Int) = 4 := rfl
    have h2 : endI bs + 4 ≤ ((bs.take 16384).length : Nat) := this
    rw [List.length_take] at h2
    omega
  · exact Nat.zero_le _
def hdE (bs : List UInt8) (ended : Bool) : Nat := if endE bs = 0 then 0 else if endE bs = 5 then (if ended then (if bs.length = 0 then 8 else 2) else 5) else endE bs
def hdO (bs : List UInt8) : List UInt8 := if endE bs = 0 then bs.take (endN bs) else []
theorem own_shape1 {w : World} {base e size n : Nat} {v : Value} {xs : List Value} (h : w.ownsRow base e size v n xs) : ∃ A c, v = .slice A n c ∧ n ≤ c ∧ (A = none → c = 0) := by
  rcases h.2 with ⟨rfl, rfl⟩ | ⟨g, cap, cur, rfl, h0, _, h1, h2, _⟩
  · exact ⟨none, 0, rfl, Nat.le_refl _, fun _ => rfl⟩
  · exact ⟨_, cap, rfl, h1, fun h => by cases h⟩
set_option maxRecDepth 100000 in
set_option maxHeartbeats 3200000 in
theorem linkhead_any (s r mo : Nat) (ended : Bool) (d : Option Nat) (bs : List UInt8) (mx : Int) (w : World) (h : IsSide w s r mo ended d bs) (hm : w.cell? ⟨1, 0, none⟩ = some (.int .i64 mx)) :
    Calls Tryz.prog 81 #[.pointer (some ⟨s, 0, none⟩)] w fun e w' => ∃ A c, e = .returned (.tuple #[.slice A (hdO bs).length c, .int .i64 (hdE bs ended : Nat)]) ∧
      Rd w' w'.heap.size 1 A (hdO bs).length (bcells (hdO bs)) ∧ IsSide w' s r mo ended d (bs.drop (hdO bs).length) ∧ w.grownBy w' (some r) := by
  have hle := h.2.1.le
  have hm2 := h.2.2.2.2
  have hmb : 1 < w.heap.size := World.block_lt_of_cell? w _ hm
  obtain ⟨k0, k1, k2⟩ := h.1.three_
  obtain ⟨m, hmd⟩ : ∃ m, m = min 16384 bs.length := ⟨_, rfl⟩
  have q1 := peekB r bs.length mo d 16384 (bcells bs) w h.2.1 (by omega) (bcells_one _) m (by omega)
  rw [Nat.mul_one, bcells_take] at q1
  obtain ⟨t1, t2⟩ := end_take bs
  rw [← hmd] at t1 t2
  have hNle := endN_le bs
  have hmB : m ≤ 100000 := by omega
  obtain ⟨N, hN⟩ : ∃ N, N = endN bs := ⟨_, rfl⟩
  obtain ⟨E, hE⟩ : ∃ E, E = endE bs := ⟨_, rfl⟩
  obtain ⟨rE, hrE⟩ : ∃ x, x = hdE bs ended := ⟨_, rfl⟩
  obtain ⟨rO, hrO⟩ : ∃ x, x = hdO bs := ⟨_, rfl⟩
  rw [← hrE, ← hrO]
  unfold hdE at hrE
  unfold hdO at hrO
  rw [← hE] at hrE hrO t2
  rw [← hN] at hrO t1 hNle
  have HRE := hide hrE
  have HRO := hide hrO
  have HT := hide hmd
  clear hN hE hrE hrO hmd
  obtain ⟨n, hn⟩ : ∃ n, n = bs.length := ⟨_, rfl⟩
  have HN := hide hn
  go_enter Tryz.func81, Tryz.ntmps81
  go_wp2_with fail
  refine q1.mono ?_
  rintro e w1 ⟨A1, c1, rfl, o1, hc1, hc2, b1⟩
  obtain ⟨A1', c1', he1, -, hA1⟩ := own_shape1 o1
  cases he1
  have q2 := headend_any A1 m c1 w1.heap.size (bs.take m) mx w1 (Rd.of_own o1) (Nat.le_refl _) hmB hc1 hA1 ((b1.cell (p := ⟨1, 0, none⟩) hmb).trans hm)
  rw [t1, t2] at q2
  have h1 := h.below b1
  clear q1 t1 t2 o1 hm k0 k1 k2 hA1 hc1 hc2
  go_wp2_with fail
  refine q2.mono ?_
  rintro e w2 ⟨rfl, b2⟩
  have h2 := h1.below b2
  have t2 := b1.trans (b2.mono b1.size)
  obtain ⟨k0, k1, k2⟩ := h2.1.three_
  clear q2 h1 b1 b2
  by_cases hE0 : E = 0
  · subst hE0
    have q3 := popB r bs.length mo d N (bcells bs) w2 h2.2.1 (by omega) (bcells_one _) N (by omega)
    rw [Nat.mul_one, bcells_take, bcells_drop] at q3
    go_wp2_with fail
    refine q3.mono ?_
    rintro e w3 ⟨A3, c3, rfl, o3, r3, g3⟩
    go_wp2_with fail
    go_ret2
    obtain rfl : rE = 0 := by rw [HRE.out]; simp
    obtain rfl : rO = bs.take N := by rw [HRO.out]; simp
    have hl : (bs.take N).length = N := by rw [List.length_take]; omega
    rw [hl]
    refine ⟨A3, c3, rfl, Rd.of_own o3, ⟨h2.1.grown_ g3 (by intro e; cases e; exact h.2.2.1 rfl), ?_, h.2.2⟩, grown_trans (grown_of_below t2) g3⟩
    rw [List.length_drop]; exact r3
  · have e0 : ((E : Int) == 0) = false := by rw [beq_eq_false_iff_ne]; omega
    obtain rfl : rO = [] := by rw [HRO.out, if_neg hE0]
    by_cases hE5 : E = 5
    · subst hE5
      rcases ended with _ | _
      · obtain rfl : rE = 5 := by rw [HRE.out]; rfl
        go_wp2_with fail
        go_ret2
        exact ⟨none, 0, rfl, Rd.nil_, h2, grown_of_below t2⟩
      · have q3 := lenB r _ mo d _ w2 h2.2.1
        by_cases hz : bs.length = 0
        · obtain rfl : rE = 8 := by rw [HRE.out]; simp [hz]
          have hz' : ((bs.length : Int) == 0) = true := by rw [beq_iff_eq]; omega
          go_wp2_with fail
          refine q3.mono ?_
          rintro e w3 ⟨rfl, rfl⟩
          go_wp2_with fail
          go_ret2
          exact ⟨none, 0, rfl, Rd.nil_, h2, grown_of_below t2⟩
        · obtain rfl : rE = 2 := by rw [HRE.out]; simp [hz]
          have hz' : ((bs.length : Int) == 0) = false := by rw [beq_eq_false_iff_ne]; omega
          go_wp2_with fail
          refine q3.mono ?_
          rintro e w3 ⟨rfl, rfl⟩
          go_wp2_with fail
          go_ret2
          exact ⟨none, 0, rfl, Rd.nil_, h2, grown_of_below t2⟩
    · have e5 : ((E : Int) == 5) = false := by rw [beq_eq_false_iff_ne]; omega
      obtain rfl : rE = E := by rw [HRE.out, if_neg hE0, if_neg hE5]
      go_wp2_with fail
      go_ret2
      exact ⟨none, 0, rfl, Rd.nil_, h2, grown_of_below t2⟩
end Go.Proofs.YtijlaclngibekaaGreatDoor
