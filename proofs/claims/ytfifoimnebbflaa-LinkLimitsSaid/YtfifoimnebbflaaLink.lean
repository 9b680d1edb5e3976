/- link.Side without a body: contracts. -/
import Derived.Test.YtfifoimnebbflaaRingB
import Derived.Test.YtfifoimnebbflaaHeadEndI
import Derived.Test.YtfifoimnebbflaaBoxA
import Derived.Test.YtfifoimnebbflaaCalm
import Derived.Deep.RegionHeld3
import Derived.Deep.DeepCutAuto
import Derived.Deep.CutBlock
namespace Go.Proofs.Ytfifoimnebbflaa
open Go.RowKit
set_option linter.unusedVariables false
set_option linter.unusedSimpArgs false

/-- A side in block s, its ring in block r, no body. -/
def IsSide (w : World) (s r mo : Nat) (ended : Bool) (d : Option Nat) (bs : List UInt8) : Prop :=
  Box w s [.pointer (some ⟨r, 0, none⟩), .bool ended, .pointer none] ∧ IsRing w 43 1 r bs.length mo d (bcells bs) ∧ s ≠ r ∧ d ≠ some s ∧ mo ≤ 65536
theorem Box.grown_ {w w' : World} {g : Nat} {cs : List Value} {row : Option Nat} (h : Box w g cs) (hg : w.grownBy w' row) (hne : row ≠ some g) : Box w' g cs := by
  have hb : w'.heap[g]? = w.heap[g]? := hg.block g h.1 (fun e => hne e.symm)
  exact ⟨Nat.lt_of_lt_of_le h.1 hg.size, fun j u hu => ⟨(World.cell?_of_block (a := ⟨g, j, none⟩) hb).trans (h.2 j u hu).1, (World.frozen?_of_block (a := ⟨g, j, none⟩) hb).trans (h.2 j u hu).2⟩⟩
theorem Box.three_ {w : World} {g : Nat} {a b c : Value} (h : Box w g [a, b, c]) : w.cell? ⟨g, 0, none⟩ = some a ∧ w.cell? ⟨g, 1, none⟩ = some b ∧ w.cell? ⟨g, 2, none⟩ = some c := ⟨(h.2 0 a rfl).1, (h.2 1 b rfl).1, (h.2 2 c rfl).1⟩
theorem IsSide.below {w w' : World} {s r mo : Nat} {ended : Bool} {d : Option Nat} {bs : List UInt8} (h : IsSide w s r mo ended d bs) (hb : Below w.heap.size w w') : IsSide w' s r mo ended d bs :=
  ⟨h.1.below hb, h.2.1.below hb, h.2.2⟩
theorem IsSide.drewN {w : World} {s r mo : Nat} {ended : Bool} {d : Option Nat} {bs : List UInt8} (h : IsSide w s r mo ended d bs) (k : Nat) : IsSide (w.drewN k) s r mo ended d bs := h.below (below_drewN (Below.refl _ _))
theorem bcells_one1 (l : List UInt8) : ∀ u ∈ bcells l, u.oneCell' = true := bcells_one l
set_option maxHeartbeats 800000 in
theorem heldBodyNil (w : World) : Calls Try.prog 16 #[.pointer none] w fun e w' => e = .returned (.int .i64 0) ∧ w = w' := by
  go_enter Try.func16, Try.ntmps16
  go_wp2
  go_ret
  exact ⟨rfl, rfl⟩
def bufN (n : Int) : Nat := (min (max n 16384) 65536).toNat
set_option maxRecDepth 100000 in
set_option maxHeartbeats 3200000 in
theorem linknew_any (n : Int) (w : World) :
    Calls Try.prog 4 #[.int .i64 n] w fun e w' => ∃ s r, e = .returned (.pointer (some ⟨s, 0, none⟩)) ∧ IsSide w' s r (bufN n) false none [] ∧ w.heap.size ≤ s ∧ w.heap.size ≤ r ∧ Below w.heap.size w w' := by
  obtain ⟨m, hm⟩ : ∃ m : Nat, m = bufN n := ⟨_, rfl⟩
  have hm2 : min (max n 16384) 65536 = (m : Int) := by
    rw [hm]; unfold bufN; omega
  have q1 := newB m w
  have hmo : most (m : Int) = m := by unfold most; rw [hm]; unfold bufN; omega
  have hm3 : m ≤ 65536 := by rw [hm]; unfold bufN; omega
  rw [hmo] at q1
  rw [← hm]
  clear hmo hm
  go_enter Try.func4, Try.ntmps4
  go_wp2_with fail
  refine q1.mono ?_
  rintro e w1 ⟨rfl, r1, b1⟩
  go_wp2_with fail
  go_ret
  have hlt := r1.lt
  refine ⟨w1.heap.size, w.heap.size, rfl, ⟨Box.new w1 #[.pointer (some ⟨w.heap.size, 0, none⟩), .bool false, .pointer none] 37, r1.below ((Below.refl _ _).alloc (Nat.le_refl _) _), by omega, by simp, hm3⟩, b1.size, Nat.le_refl _, b1.alloc b1.size _⟩
/-! ### printed by gen/link.py -/
set_option maxRecDepth 100000 in
set_option maxHeartbeats 3200000 in
theorem linkheld_any (s r mo : Nat) (ended : Bool) (d : Option Nat) (bs : List UInt8) (w : World) (h : IsSide w s r mo ended d bs) :
    Calls Try.prog 8 #[.pointer (some ⟨s, 0, none⟩)] w fun e w' => e = .returned (.int .i64 (bs.length : Nat)) ∧ ∃ k, w' = w.drewN k := by
  have hmo := h.2.1.le
  have hm2 := h.2.2.2.2
  have hw1 : IntKind.i64.wrap (bs.length : Int) = (bs.length : Int) := by rw [IntKind.wrap_i64]; omega
  go_enter Try.func8, Try.ntmps8
  go_wp2_with fail
  go_upto_region 3 with (fail)
  refine CalmP.hideN (fun K0 hQ => ?_)
  refine wp_region_held_drew (S := (fun W : World => IsSide W s r mo ended d bs)) (by kernel_rfl) (h.drewN 1) (fun hHeld => ?_)
  refine wpAnyH_take (i := 0) (v := ?_) rfl (by kernel_rfl) (by kernel_rfl) (by kernel_rfl) CalmP.onlyN_panic (Or.inl ⟨by kernel_rfl, ?_⟩) (by assumption) ?_
  rotate_left
  · (intro w_ hSw; (try dsimp only at hSw); obtain ⟨k0_, k1_, k2_⟩ := hSw.1.three_; go_simp; try with_reducible rfl)
  try simp only [List.getElem_toArray, List.getElem_cons_succ, List.getElem_cons_zero, Act.put, List.setIfInBounds_toArray, List.set_cons_zero, List.set_cons_succ]
  refine wpAnyH_take (i := 1) (v := ?_) rfl (by kernel_rfl) (by kernel_rfl) (by kernel_rfl) CalmP.onlyN_panic (Or.inl ⟨by kernel_rfl, ?_⟩) (by assumption) ?_
  rotate_left
  · (intro w_ hSw; (try dsimp only at hSw); obtain ⟨k0_, k1_, k2_⟩ := hSw.1.three_; go_simp; try with_reducible rfl)
  try simp only [List.getElem_toArray, List.getElem_cons_succ, List.getElem_cons_zero, Act.put, List.setIfInBounds_toArray, List.set_cons_zero, List.set_cons_succ]
  refine wpAnyH_take (i := 2) (v := ?_) rfl (by kernel_rfl) (by kernel_rfl) (by kernel_rfl) CalmP.onlyN_panic (Or.inl ⟨by kernel_rfl, ?_⟩) (by assumption) ?_
  rotate_left
  · (intro w_ hSw; (try dsimp only at hSw); obtain ⟨k0_, k1_, k2_⟩ := hSw.1.three_; go_simp; try with_reducible rfl)
  try simp only [List.getElem_toArray, List.getElem_cons_succ, List.getElem_cons_zero, Act.put, List.setIfInBounds_toArray, List.set_cons_zero, List.set_cons_succ]
  refine wpAnyH_take (i := 3) (v := ?_) rfl (by kernel_rfl) (by kernel_rfl) (by kernel_rfl) CalmP.onlyN_panic (Or.inl ⟨by kernel_rfl, ?_⟩) (by assumption) ?_
  rotate_left
  · (intro w_ hSw; (try dsimp only at hSw); obtain ⟨k0_, k1_, k2_⟩ := hSw.1.three_; go_simp; try with_reducible rfl)
  try simp only [List.getElem_toArray, List.getElem_cons_succ, List.getElem_cons_zero, Act.put, List.setIfInBounds_toArray, List.set_cons_zero, List.set_cons_succ]
  refine wpAnyH_take (i := 5) (v := ?_) rfl (by kernel_rfl) (by kernel_rfl) (by kernel_rfl) CalmP.onlyN_panic (Or.inl ⟨by kernel_rfl, ?_⟩) (by assumption) ?_
  rotate_left
  · (intro w_ hSw; (try dsimp only at hSw); obtain ⟨k0_, k1_, k2_⟩ := hSw.1.three_; go_simp; try with_reducible rfl)
  try simp only [List.getElem_toArray, List.getElem_cons_succ, List.getElem_cons_zero, Act.put, List.setIfInBounds_toArray, List.set_cons_zero, List.set_cons_succ]
  refine wpAnyH_take (i := 6) (v := ?_) rfl (by kernel_rfl) (by kernel_rfl) (by kernel_rfl) CalmP.onlyN_panic (Or.inl ⟨by kernel_rfl, ?_⟩) (by assumption) ?_
  rotate_left
  · (intro w_ hSw; (try dsimp only at hSw); obtain ⟨k0_, k1_, k2_⟩ := hSw.1.three_; go_simp; try with_reducible rfl)
  try simp only [List.getElem_toArray, List.getElem_cons_succ, List.getElem_cons_zero, Act.put, List.setIfInBounds_toArray, List.set_cons_zero, List.set_cons_succ]
  refine wpAnyH_take (i := 7) (v := ?_) rfl (by kernel_rfl) (by kernel_rfl) (by kernel_rfl) CalmP.onlyN_panic (Or.inl ⟨by kernel_rfl, ?_⟩) (by assumption) ?_
  rotate_left
  · (intro w_ hSw; (try dsimp only at hSw); obtain ⟨k0_, k1_, k2_⟩ := hSw.1.three_; go_simp; try with_reducible rfl)
  try simp only [List.getElem_toArray, List.getElem_cons_succ, List.getElem_cons_zero, Act.put, List.setIfInBounds_toArray, List.set_cons_zero, List.set_cons_succ]
  refine wpAnyH_take (i := 8) (v := ?_) rfl (by kernel_rfl) (by kernel_rfl) (by kernel_rfl) CalmP.onlyN_panic (Or.inl ⟨by kernel_rfl, ?_⟩) (by assumption) ?_
  rotate_left
  · (intro w_ hSw; (try dsimp only at hSw); obtain ⟨k0_, k1_, k2_⟩ := hSw.1.three_; go_simp; try with_reducible rfl)
  try simp only [List.getElem_toArray, List.getElem_cons_succ, List.getElem_cons_zero, Act.put, List.setIfInBounds_toArray, List.set_cons_zero, List.set_cons_succ]
  refine CalmP.take_calm (i := 4) (v := .int .i64 (bs.length : Nat)) rfl (by kernel_rfl) (by kernel_rfl) (by kernel_rfl) CalmP.onlyN_panic (Or.inl ⟨by kernel_rfl, ?_⟩) (by assumption) ?_
  · (intro w_ hSw; (try dsimp only at hSw); go_simp; exact (lenB r _ mo d _ w_ hSw.2.1).mono (fun e w' h => ⟨h.1, h.2.symm⟩))
  try simp only [List.getElem_toArray, List.getElem_cons_succ, List.getElem_cons_zero, Act.put, List.setIfInBounds_toArray, List.set_cons_zero, List.set_cons_succ]
  refine CalmP.take_calm (i := 9) (v := .int .i64 0) rfl (by kernel_rfl) (by kernel_rfl) (by kernel_rfl) CalmP.onlyN_panic (Or.inl ⟨by kernel_rfl, ?_⟩) (by assumption) ?_
  · (intro w_ hSw; (try dsimp only at hSw); go_simp; exact (heldBodyNil w_).mono (fun e w' h => ⟨h.1, h.2.symm⟩))
  try simp only [List.getElem_toArray, List.getElem_cons_succ, List.getElem_cons_zero, Act.put, List.setIfInBounds_toArray, List.set_cons_zero, List.set_cons_succ]
  refine wpAnyH_take (i := 10) (v := ?_) rfl (by kernel_rfl) (by kernel_rfl) (by kernel_rfl) CalmP.onlyN_panic (Or.inl ⟨by kernel_rfl, ?_⟩) (by assumption) ?_
  rotate_left
  · (intro w_ hSw; (try dsimp only at hSw); obtain ⟨k0_, k1_, k2_⟩ := hSw.1.three_; go_simp; try with_reducible rfl)
  try simp only [List.getElem_toArray, List.getElem_cons_succ, List.getElem_cons_zero, Act.put, List.setIfInBounds_toArray, List.set_cons_zero, List.set_cons_succ]
  refine wpAnyH_take (i := 11) (v := ?_) rfl (by kernel_rfl) (by kernel_rfl) (by kernel_rfl) CalmP.onlyN_panic (Or.inl ⟨by kernel_rfl, ?_⟩) (by assumption) ?_
  rotate_left
  · (intro w_ hSw; (try dsimp only at hSw); obtain ⟨k0_, k1_, k2_⟩ := hSw.1.three_; go_simp; try with_reducible rfl)
  try simp only [List.getElem_toArray, List.getElem_cons_succ, List.getElem_cons_zero, Act.put, List.setIfInBounds_toArray, List.set_cons_zero, List.set_cons_succ]
  refine wpAnyH_done (by kernel_rfl) ?_ _
  refine CalmP.onlyN_here (hQ.out _ _ ?_)
  clear hQ K0
  go_wp2_with fail
  go_ret
  exact ⟨rfl, 1, rfl⟩
set_option maxRecDepth 100000 in
set_option maxHeartbeats 3200000 in
theorem linkmost_any (s r mo : Nat) (ended : Bool) (d : Option Nat) (bs : List UInt8) (w : World) (h : IsSide w s r mo ended d bs) :
    Calls Try.prog 10 #[.pointer (some ⟨s, 0, none⟩)] w fun e w' => e = .returned (.int .i64 (mo : Nat)) ∧ ∃ k, w' = w.drewN k := by
  have hmo := h.2.1.le
  have hm2 := h.2.2.2.2
  have hw1 : IntKind.i64.wrap ((bs.length : Int) + ((mo : Int) - (bs.length : Int))) = (mo : Int) := by rw [IntKind.wrap_i64]; omega
  have hs1 : (bs.length : Int) + ((mo : Int) - (bs.length : Int)) = (mo : Int) := by omega
  have hw2 : IntKind.i64.wrap (mo : Int) = (mo : Int) := by rw [IntKind.wrap_i64]; omega
  go_enter Try.func10, Try.ntmps10
  go_wp2_with fail
  go_upto_region 1 with (fail)
  refine CalmP.hideN (fun K0 hQ => ?_)
  refine wp_region_held_drew (S := (fun W : World => IsSide W s r mo ended d bs)) (by kernel_rfl) (h.drewN 1) (fun hHeld => ?_)
  refine wpAnyH_take (i := 0) (v := ?_) rfl (by kernel_rfl) (by kernel_rfl) (by kernel_rfl) CalmP.onlyN_panic (Or.inl ⟨by kernel_rfl, ?_⟩) (by assumption) ?_
  rotate_left
  · (intro w_ hSw; (try dsimp only at hSw); obtain ⟨k0_, k1_, k2_⟩ := hSw.1.three_; go_simp; try with_reducible rfl)
  try simp only [List.getElem_toArray, List.getElem_cons_succ, List.getElem_cons_zero, Act.put, List.setIfInBounds_toArray, List.set_cons_zero, List.set_cons_succ]
  refine wpAnyH_take (i := 1) (v := ?_) rfl (by kernel_rfl) (by kernel_rfl) (by kernel_rfl) CalmP.onlyN_panic (Or.inl ⟨by kernel_rfl, ?_⟩) (by assumption) ?_
  rotate_left
  · (intro w_ hSw; (try dsimp only at hSw); obtain ⟨k0_, k1_, k2_⟩ := hSw.1.three_; go_simp; try with_reducible rfl)
  try simp only [List.getElem_toArray, List.getElem_cons_succ, List.getElem_cons_zero, Act.put, List.setIfInBounds_toArray, List.set_cons_zero, List.set_cons_succ]
  refine wpAnyH_take (i := 2) (v := ?_) rfl (by kernel_rfl) (by kernel_rfl) (by kernel_rfl) CalmP.onlyN_panic (Or.inl ⟨by kernel_rfl, ?_⟩) (by assumption) ?_
  rotate_left
  · (intro w_ hSw; (try dsimp only at hSw); obtain ⟨k0_, k1_, k2_⟩ := hSw.1.three_; go_simp; try with_reducible rfl)
  try simp only [List.getElem_toArray, List.getElem_cons_succ, List.getElem_cons_zero, Act.put, List.setIfInBounds_toArray, List.set_cons_zero, List.set_cons_succ]
  refine wpAnyH_take (i := 3) (v := ?_) rfl (by kernel_rfl) (by kernel_rfl) (by kernel_rfl) CalmP.onlyN_panic (Or.inl ⟨by kernel_rfl, ?_⟩) (by assumption) ?_
  rotate_left
  · (intro w_ hSw; (try dsimp only at hSw); obtain ⟨k0_, k1_, k2_⟩ := hSw.1.three_; go_simp; try with_reducible rfl)
  try simp only [List.getElem_toArray, List.getElem_cons_succ, List.getElem_cons_zero, Act.put, List.setIfInBounds_toArray, List.set_cons_zero, List.set_cons_succ]
  refine wpAnyH_take (i := 5) (v := ?_) rfl (by kernel_rfl) (by kernel_rfl) (by kernel_rfl) CalmP.onlyN_panic (Or.inl ⟨by kernel_rfl, ?_⟩) (by assumption) ?_
  rotate_left
  · (intro w_ hSw; (try dsimp only at hSw); obtain ⟨k0_, k1_, k2_⟩ := hSw.1.three_; go_simp; try with_reducible rfl)
  try simp only [List.getElem_toArray, List.getElem_cons_succ, List.getElem_cons_zero, Act.put, List.setIfInBounds_toArray, List.set_cons_zero, List.set_cons_succ]
  refine wpAnyH_take (i := 6) (v := ?_) rfl (by kernel_rfl) (by kernel_rfl) (by kernel_rfl) CalmP.onlyN_panic (Or.inl ⟨by kernel_rfl, ?_⟩) (by assumption) ?_
  rotate_left
  · (intro w_ hSw; (try dsimp only at hSw); obtain ⟨k0_, k1_, k2_⟩ := hSw.1.three_; go_simp; try with_reducible rfl)
  try simp only [List.getElem_toArray, List.getElem_cons_succ, List.getElem_cons_zero, Act.put, List.setIfInBounds_toArray, List.set_cons_zero, List.set_cons_succ]
  refine wpAnyH_take (i := 7) (v := ?_) rfl (by kernel_rfl) (by kernel_rfl) (by kernel_rfl) CalmP.onlyN_panic (Or.inl ⟨by kernel_rfl, ?_⟩) (by assumption) ?_
  rotate_left
  · (intro w_ hSw; (try dsimp only at hSw); obtain ⟨k0_, k1_, k2_⟩ := hSw.1.three_; go_simp; try with_reducible rfl)
  try simp only [List.getElem_toArray, List.getElem_cons_succ, List.getElem_cons_zero, Act.put, List.setIfInBounds_toArray, List.set_cons_zero, List.set_cons_succ]
  refine wpAnyH_take (i := 8) (v := ?_) rfl (by kernel_rfl) (by kernel_rfl) (by kernel_rfl) CalmP.onlyN_panic (Or.inl ⟨by kernel_rfl, ?_⟩) (by assumption) ?_
  rotate_left
  · (intro w_ hSw; (try dsimp only at hSw); obtain ⟨k0_, k1_, k2_⟩ := hSw.1.three_; go_simp; try with_reducible rfl)
  try simp only [List.getElem_toArray, List.getElem_cons_succ, List.getElem_cons_zero, Act.put, List.setIfInBounds_toArray, List.set_cons_zero, List.set_cons_succ]
  refine CalmP.take_calm (i := 4) (v := .int .i64 (bs.length : Nat)) rfl (by kernel_rfl) (by kernel_rfl) (by kernel_rfl) CalmP.onlyN_panic (Or.inl ⟨by kernel_rfl, ?_⟩) (by assumption) ?_
  · (intro w_ hSw; (try dsimp only at hSw); go_simp; exact (lenB r _ mo d _ w_ hSw.2.1).mono (fun e w' h => ⟨h.1, h.2.symm⟩))
  try simp only [List.getElem_toArray, List.getElem_cons_succ, List.getElem_cons_zero, Act.put, List.setIfInBounds_toArray, List.set_cons_zero, List.set_cons_succ]
  refine wpAnyH_ready (rs := [9]) (by kernel_rfl) (by simp) ?_
  refine AllReadyH.cons rfl (fun K_ hK => ?_) AllReadyH.nil
  go_simp
  refine (roomB r _ mo d _ _ (h.drewN 1).2.1 (by have := h.2.2.2.2; omega)).mono ?_
  rintro e V1 ⟨rfl, kq, rfl⟩
  refine hK.out _ _ ((h.drewN 1).drewN kq) (fun hHeld => ?_)
  clear hK K_
  try simp only [List.getElem_toArray, List.getElem_cons_succ, List.getElem_cons_zero, Act.put, List.setIfInBounds_toArray, List.set_cons_zero, List.set_cons_succ]
  refine wpAnyH_take (i := 10) (v := ?_) rfl (by kernel_rfl) (by kernel_rfl) (by kernel_rfl) CalmP.onlyN_panic (Or.inl ⟨by kernel_rfl, ?_⟩) (by assumption) ?_
  rotate_left
  · (intro w_ hSw; (try dsimp only at hSw); obtain ⟨k0_, k1_, k2_⟩ := hSw.1.three_; go_simp; try with_reducible rfl)
  try simp only [List.getElem_toArray, List.getElem_cons_succ, List.getElem_cons_zero, Act.put, List.setIfInBounds_toArray, List.set_cons_zero, List.set_cons_succ]
  refine wpAnyH_take (i := 11) (v := ?_) rfl (by kernel_rfl) (by kernel_rfl) (by kernel_rfl) CalmP.onlyN_panic (Or.inl ⟨by kernel_rfl, ?_⟩) (by assumption) ?_
  rotate_left
  · (intro w_ hSw; (try dsimp only at hSw); obtain ⟨k0_, k1_, k2_⟩ := hSw.1.three_; go_simp; try with_reducible rfl)
  try simp only [List.getElem_toArray, List.getElem_cons_succ, List.getElem_cons_zero, Act.put, List.setIfInBounds_toArray, List.set_cons_zero, List.set_cons_succ]
  refine wpAnyH_done (by kernel_rfl) ?_ _
  refine CalmP.onlyN_here (hQ.out _ _ ?_)
  clear hQ K0
  go_wp2_with fail
  go_ret
  exact ⟨rfl, _, World.drewN_drewN _ _ _⟩
set_option maxRecDepth 100000 in
set_option maxHeartbeats 3200000 in
theorem linkfeed_any (s r mo : Nat) (d : Option Nat) (bs : List UInt8) (A : Option Addr) (n c B : Nat) (ys : List UInt8) (w : World) (h : IsSide w s r mo false d bs) (hy : Rd w B 1 A n (bcells ys)) (hB : B ≤ w.heap.size) (hn : n ≤ 9223372036854775807) (hnc : n ≤ c) :
    Calls Try.prog 6 #[.pointer (some ⟨s, 0, none⟩), .slice A n c] w fun e w' => e = .returned (.int .i64 (min n (mo - bs.length) : Nat)) ∧ ∃ d', IsSide w' s r mo false d' (bs ++ ys.take (min n (mo - bs.length))) ∧ (d' = d ∨ ∀ g, d' = some g → w.heap.size ≤ g) ∧ w.grownBy w' (some r) := by
  have hle := h.2.1.le
  have hm2 := h.2.2.2.2
  obtain ⟨k0, k1, k2⟩ := h.1.three_
  obtain ⟨p, hp⟩ : ∃ p, p = min n (mo - bs.length) := ⟨_, rfl⟩
  have hylen : ys.length = n := by have := hy.1; rw [bcells_length] at this; omega
  rw [← hp]
  have q1 := linkheld_any s r mo false d bs w h
  go_enter Try.func6, Try.ntmps6
  go_wp2_with fail
  refine q1.mono ?_
  rintro e w1 ⟨rfl, ka, rfl⟩
  have h1 := h.drewN ka
  have q2 := linkmost_any s r mo false d bs _ h1
  go_wp2_with fail
  refine q2.mono ?_
  rintro e w2 ⟨rfl, kb, hw2⟩
  have h2 : IsSide w2 s r mo false d bs := by rw [hw2]; exact h1.drewN kb
  have t2 : Below w.heap.size w w2 := by rw [hw2, World.drewN_drewN]; exact below_drewN (Below.refl _ _)
  clear q1 q2 hw2
  by_cases hfull : mo ≤ bs.length
  · obtain rfl : p = 0 := by omega
    have i1 : (mo : Int) ≤ (bs.length : Int) := by omega
    clear hp
    go_wp2_with fail
    go_ret
    exact ⟨rfl, d, by rw [List.take_zero, List.append_nil]; exact h2, .inl rfl, grown_of_below t2⟩
  · have i1 : ¬ (mo : Int) ≤ (bs.length : Int) := by omega
    have hsub : IntKind.i64.wrap ((mo : Int) - (bs.length : Int)) = (mo : Int) - (bs.length : Int) := by rw [IntKind.wrap_i64]; omega
    have hmin : min (n : Int) ((mo : Int) - (bs.length : Int)) = (p : Int) := by omega
    have hpn : p ≤ n := by omega
    have hpn' : (p : Int) ≤ (n : Int) := by omega
    have hpc : (p : Int) ≤ (c : Int) := by omega
    have hyF : Rd w2 B 1 A p (bcells (ys.take p)) := by
      have := (hy.below (t2.mono hB)).front hpn
      rw [Nat.mul_one, bcells_take] at this; exact this
    have hB2 : B ≤ w2.heap.size := Nat.le_trans hB t2.size
    have hpl : (ys.take p).length = p := by rw [List.length_take]; omega
    have hpp : p = min p (mo - bs.length) := by omega
    have HPP := hide hpp
    clear hp hpp
    go_upto_region 3 with (fail)
    refine CalmP.hideN (fun K0 hQ => ?_)
    refine wp_region_held_drew (S := (fun W : World => W.cell? ⟨s, 0, none⟩ = some (.pointer (some ⟨r, 0, none⟩)))) (by kernel_rfl) (show w2.drew.cell? ⟨s, 0, none⟩ = some (.pointer (some ⟨r, 0, none⟩)) from h2.1.three_.1) (fun hHeld => ?_)
    refine wpAnyH_take (i := 0) (v := ?_) rfl (by kernel_rfl) (by kernel_rfl) (by kernel_rfl) CalmP.onlyN_panic (Or.inl ⟨by kernel_rfl, ?_⟩) (by assumption) ?_
    rotate_left
    · (intro w_ hSw; (try dsimp only at hSw); go_simp; try with_reducible rfl)
    try simp only [List.getElem_toArray, List.getElem_cons_succ, List.getElem_cons_zero, Act.put, List.setIfInBounds_toArray, List.set_cons_zero, List.set_cons_succ]
    refine wpAnyH_take (i := 1) (v := ?_) rfl (by kernel_rfl) (by kernel_rfl) (by kernel_rfl) CalmP.onlyN_panic (Or.inl ⟨by kernel_rfl, ?_⟩) (by assumption) ?_
    rotate_left
    · (intro w_ hSw; (try dsimp only at hSw); go_simp; try with_reducible rfl)
    try simp only [List.getElem_toArray, List.getElem_cons_succ, List.getElem_cons_zero, Act.put, List.setIfInBounds_toArray, List.set_cons_zero, List.set_cons_succ]
    refine wpAnyH_take (i := 2) (v := ?_) rfl (by kernel_rfl) (by kernel_rfl) (by kernel_rfl) CalmP.onlyN_panic (Or.inl ⟨by kernel_rfl, ?_⟩) (by assumption) ?_
    rotate_left
    · (intro w_ hSw; (try dsimp only at hSw); go_simp; try with_reducible rfl)
    try simp only [List.getElem_toArray, List.getElem_cons_succ, List.getElem_cons_zero, Act.put, List.setIfInBounds_toArray, List.set_cons_zero, List.set_cons_succ]
    refine wpAnyH_take (i := 3) (v := ?_) rfl (by kernel_rfl) (by kernel_rfl) (by kernel_rfl) CalmP.onlyN_panic (Or.inl ⟨by kernel_rfl, ?_⟩) (by assumption) ?_
    rotate_left
    · (intro w_ hSw; (try dsimp only at hSw); go_simp; try with_reducible rfl)
    try simp only [List.getElem_toArray, List.getElem_cons_succ, List.getElem_cons_zero, Act.put, List.setIfInBounds_toArray, List.set_cons_zero, List.set_cons_succ]
    refine wpAnyH_take (i := 4) (v := ?_) rfl (by kernel_rfl) (by kernel_rfl) (by kernel_rfl) CalmP.onlyN_panic (Or.inl ⟨by kernel_rfl, ?_⟩) (by assumption) ?_
    rotate_left
    · (intro w_ hSw; (try dsimp only at hSw); go_simp; try with_reducible rfl)
    try simp only [List.getElem_toArray, List.getElem_cons_succ, List.getElem_cons_zero, Act.put, List.setIfInBounds_toArray, List.set_cons_zero, List.set_cons_succ]
    refine wpAnyH_take (i := 5) (v := ?_) rfl (by kernel_rfl) (by kernel_rfl) (by kernel_rfl) CalmP.onlyN_panic (Or.inl ⟨by kernel_rfl, ?_⟩) (by assumption) ?_
    rotate_left
    · (intro w_ hSw; (try dsimp only at hSw); go_simp; try with_reducible rfl)
    try simp only [List.getElem_toArray, List.getElem_cons_succ, List.getElem_cons_zero, Act.put, List.setIfInBounds_toArray, List.set_cons_zero, List.set_cons_succ]
    refine wpAnyH_take (i := 6) (v := ?_) rfl (by kernel_rfl) (by kernel_rfl) (by kernel_rfl) CalmP.onlyN_panic (Or.inl ⟨by kernel_rfl, ?_⟩) (by assumption) ?_
    rotate_left
    · (intro w_ hSw; (try dsimp only at hSw); go_simp; try with_reducible rfl)
    try simp only [List.getElem_toArray, List.getElem_cons_succ, List.getElem_cons_zero, Act.put, List.setIfInBounds_toArray, List.set_cons_zero, List.set_cons_succ]
    refine wpAnyH_take (i := 7) (v := ?_) rfl (by kernel_rfl) (by kernel_rfl) (by kernel_rfl) CalmP.onlyN_panic (Or.inl ⟨by kernel_rfl, ?_⟩) (by assumption) ?_
    rotate_left
    · (intro w_ hSw; (try dsimp only at hSw); go_simp; try with_reducible rfl)
    try simp only [List.getElem_toArray, List.getElem_cons_succ, List.getElem_cons_zero, Act.put, List.setIfInBounds_toArray, List.set_cons_zero, List.set_cons_succ]
    refine wpAnyH_take (i := 9) (v := ?_) rfl (by kernel_rfl) (by kernel_rfl) (by kernel_rfl) CalmP.onlyN_panic (Or.inl ⟨by kernel_rfl, ?_⟩) (by assumption) ?_
    rotate_left
    · (intro w_ hSw; (try dsimp only at hSw); go_simp; try with_reducible rfl)
    try simp only [List.getElem_toArray, List.getElem_cons_succ, List.getElem_cons_zero, Act.put, List.setIfInBounds_toArray, List.set_cons_zero, List.set_cons_succ]
    refine wpAnyH_ready (rs := [8]) (by kernel_rfl) (by simp) ?_
    refine AllReadyH.cons rfl (fun K_ hK => ?_) AllReadyH.nil
    go_simp
    refine (linkmost_any s r mo false d bs _ (h2.drewN 1)).mono ?_
    rintro e V1 ⟨rfl, kq, rfl⟩
    have hv0 := (h2.drewN 1).drewN kq
    have hv1 := h2.drewN (1 + kq)
    refine hK.out _ _ (hv0.1.three_.1) (fun hHeld => ?_)
    clear hK K_
    try simp only [List.getElem_toArray, List.getElem_cons_succ, List.getElem_cons_zero, Act.put, List.setIfInBounds_toArray, List.set_cons_zero, List.set_cons_succ]
    refine wpAnyH_ready (rs := [10]) (by kernel_rfl) (by simp) ?_
    refine AllReadyH.cons rfl (fun K_ hK => ?_) AllReadyH.nil
    go_simp
    refine (linkheld_any s r mo false d bs _ hv1).mono ?_
    rintro e V2 ⟨rfl, kr, rfl⟩
    have hv3 := hv1.drewN kr
    have hv2 := h2.drewN (1 + kq + kr)
    refine hK.out _ _ (hv3.1.three_.1) (fun hHeld => ?_)
    clear hK K_
    try simp only [List.getElem_toArray, List.getElem_cons_succ, List.getElem_cons_zero, Act.put, List.setIfInBounds_toArray, List.set_cons_zero, List.set_cons_succ]
    refine wpAnyH_take (i := 11) (v := ?_) rfl (by kernel_rfl) (by kernel_rfl) (by kernel_rfl) CalmP.onlyN_panic (Or.inl ⟨by kernel_rfl, ?_⟩) (by assumption) ?_
    rotate_left
    · (intro w_ hSw; (try dsimp only at hSw); go_simp; try with_reducible rfl)
    try simp only [List.getElem_toArray, List.getElem_cons_succ, List.getElem_cons_zero, Act.put, List.setIfInBounds_toArray, List.set_cons_zero, List.set_cons_succ]
    refine wpAnyH_take (i := 12) (v := ?_) rfl (by kernel_rfl) (by kernel_rfl) (by kernel_rfl) CalmP.onlyN_panic (Or.inl ⟨by kernel_rfl, ?_⟩) (by assumption) ?_
    rotate_left
    · (intro w_ hSw; (try dsimp only at hSw); go_simp; try with_reducible rfl)
    try simp only [List.getElem_toArray, List.getElem_cons_succ, List.getElem_cons_zero, Act.put, List.setIfInBounds_toArray, List.set_cons_zero, List.set_cons_succ]
    refine wpAnyH_take (i := 13) (v := ?_) rfl (by kernel_rfl) (by kernel_rfl) (by kernel_rfl) CalmP.onlyN_panic (Or.inl ⟨by kernel_rfl, ?_⟩) (by assumption) ?_
    rotate_left
    · (intro w_ hSw; (try dsimp only at hSw); go_simp; try with_reducible rfl)
    try simp only [List.getElem_toArray, List.getElem_cons_succ, List.getElem_cons_zero, Act.put, List.setIfInBounds_toArray, List.set_cons_zero, List.set_cons_succ]
    refine wpAnyH_ready (rs := [14]) (by kernel_rfl) (by simp) ?_
    refine AllReadyH.cons rfl (fun K_ hK => ?_) AllReadyH.nil
    go_simp
    refine (pushB r _ mo d _ (bcells (ys.take p)) A p c B (w2.drewN (1 + kq + kr)) hv2.2.1 (by omega) (bcells_one _) (hyF.below (below_drewN (k := 1 + kq + kr) (Below.refl _ _))) (by omega) (by omega) (bcells_one _) (by show B ≤ w2.heap.size; exact hB2) p HPP.out).mono ?_
    rintro e V3 ⟨rfl, ⟨d', hr3, hd3⟩, g3⟩
    have hb3 := hv2.1.grown_ g3 (by intro e; cases e; exact h.2.2.1 rfl)
    refine hK.out _ _ (hb3.three_.1) (fun hHeld => ?_)
    clear hK K_
    try simp only [List.getElem_toArray, List.getElem_cons_succ, List.getElem_cons_zero, Act.put, List.setIfInBounds_toArray, List.set_cons_zero, List.set_cons_succ]
    refine wpAnyH_take (i := 15) (v := ?_) rfl (by kernel_rfl) (by kernel_rfl) (by kernel_rfl) CalmP.onlyN_panic (Or.inl ⟨by kernel_rfl, ?_⟩) (by assumption) ?_
    rotate_left
    · (intro w_ hSw; (try dsimp only at hSw); go_simp; try with_reducible rfl)
    try simp only [List.getElem_toArray, List.getElem_cons_succ, List.getElem_cons_zero, Act.put, List.setIfInBounds_toArray, List.set_cons_zero, List.set_cons_succ]
    refine wpAnyH_done (by kernel_rfl) ?_ _
    refine CalmP.onlyN_here (hQ.out _ _ ?_)
    clear hQ K0
    go_wp2_with fail
    go_ret
    have hfin : bcells bs ++ (bcells (ys.take p)).take (p * 1) = bcells (bs ++ ys.take p) := by
      rw [Nat.mul_one, bcells_take, List.take_take, Nat.min_self, bcells_append]
    rw [hfin] at hr3
    have hln : (bs ++ ys.take p).length = bs.length + p := by rw [List.length_append, hpl]
    refine ⟨rfl, d', ⟨hb3, by rw [hln]; exact hr3, h.2.2.1, ?_, hm2⟩, ?_, ?_⟩
    · rcases hd3 with hd3 | hd3
      · rw [hd3]; exact h.2.2.2.1
      · intro e
        have h4 := hd3 s e
        have h5 : s < w2.heap.size := h2.1.1
        have h6 : w2.heap.size ≤ s := h4
        omega
    · rcases hd3 with hd3 | hd3
      · exact .inl hd3
      · exact .inr (fun g e => Nat.le_trans t2.size (hd3 g e))
    · exact grown_trans (grown_of_below (below_drewN (k := 1 + kq + kr) t2)) g3
end Go.Proofs.Ytfifoimnebbflaa
