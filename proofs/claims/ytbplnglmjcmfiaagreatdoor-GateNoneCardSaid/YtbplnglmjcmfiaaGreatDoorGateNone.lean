/- concertinalaw26.GateNone: the walk. -/
import Derived.Test.YtbplnglmjcmfiaaGreatDoorGateWork
import Derived.Test.YtbplnglmjcmfiaaGreatDoorLaid8
namespace Go.Proofs.YtbplnglmjcmfiaaGreatDoor.GateNoneP
open Go.RowKit
set_option linter.unusedVariables false
set_option linter.unusedSimpArgs false

set_option maxRecDepth 100000 in
set_option maxHeartbeats 1600000 in
theorem donil_any (a0 a1 a2 : Int) (A : Option Addr) (n c : Nat) (w : World) :
    Calls Tryz.prog 5 #[.pointer none, .agg #[.int .i64 a0, .int .i64 a1, .int .i64 a2, .slice A n c]] w fun e w' => e = .returned (.tuple #[.int .i64 0, .slice none 0 0, .int .i64 1]) ∧ Below w.heap.size w w' := by
  obtain ⟨g, hg⟩ : ∃ g, w.heap.size = g := ⟨_, rfl⟩
  have b0 : Below g w (w.alloc (.cells #[.int .i64 a0, .int .i64 a1, .int .i64 a2, .slice A n c] 24)) := (Below.refl _ _).alloc (Nat.le_of_eq hg.symm) _
  go_enter Tryz.func5, Tryz.ntmps5
  go_wp2_with fail
  go_ret3
  rw [hg]
  exact ⟨rfl, b0⟩
set_option maxRecDepth 100000 in
set_option maxHeartbeats 1600000 in
theorem upnil_any (n : Int) (w : World) : Calls Tryz.prog 6 #[.pointer none, .int .i64 n] w fun e w' => e = .returned (.tuple #[.int .i64 0, .bool false]) ∧ w = w' := by
  have q := gateget_nil n w
  go_enter Tryz.func6, Tryz.ntmps6
  go_wp2_with fail
  refine q.mono ?_
  rintro e w1 ⟨rfl, rfl⟩
  go_wp2_with fail
  go_ret2
  exact ⟨rfl, rfl⟩
set_option maxRecDepth 100000 in
set_option maxHeartbeats 1600000 in
theorem idlenil_any (n : Int) (w : World) : Calls Tryz.prog 8 #[.pointer none, .int .i64 n] w fun e w' => e = .returned (.bool false) ∧ w = w' := by
  have q := gateget_nil n w
  go_enter Tryz.func8, Tryz.ntmps8
  go_wp2_with fail
  refine q.mono ?_
  rintro e w1 ⟨rfl, rfl⟩
  go_wp2_with fail
  go_ret
  exact ⟨rfl, rfl⟩
set_option maxRecDepth 100000 in
set_option maxHeartbeats 1600000 in
theorem opennil_any (n : Int) (w : World) : Calls Tryz.prog 9 #[.pointer none, .int .i64 n] w fun e w' => e = .returned (.bool false) ∧ w = w' := by
  have q := gateget_nil n w
  go_enter Tryz.func9, Tryz.ntmps9
  go_wp2_with fail
  refine q.mono ?_
  rintro e w1 ⟨rfl, rfl⟩
  go_wp2_with fail
  go_ret
  exact ⟨rfl, rfl⟩
set_option maxRecDepth 100000 in
set_option maxHeartbeats 1600000 in
theorem heldnil_any (n : Int) (w : World) : Calls Tryz.prog 10 #[.pointer none, .int .i64 n] w fun e w' => e = .returned (.int .i64 0) ∧ w = w' := by
  have q := gateget_nil n w
  go_enter Tryz.func10, Tryz.ntmps10
  go_wp2_with fail
  refine q.mono ?_
  rintro e w1 ⟨rfl, rfl⟩
  go_wp2_with fail
  go_ret
  exact ⟨rfl, rfl⟩
set_option maxRecDepth 100000 in
set_option maxHeartbeats 1600000 in
theorem walk (a0 a1 a2 : Int) (A : Option Addr) (n c : Nat) (w : World) (mx : Int) (hm : w.cell? ⟨0, 0, none⟩ = some (.int .i64 mx)) :
    Calls Tryz.prog 3 #[.agg #[.int .i64 a0, .int .i64 a1, .int .i64 a2, .slice A n c]] w fun e w' => e = .returned (.bool true) ∧ Below w.heap.size w w' := by
  obtain ⟨g, hg⟩ : ∃ g, w.heap.size = g := ⟨_, rfl⟩
  have hml : 0 < g := hg ▸ World.block_lt_of_cell? w _ hm
  have HM : ∀ W, Below g w W → W.cell? ⟨0, 0, none⟩ = some (.int .i64 mx) := fun W b => (b.cell (p := ⟨0, 0, none⟩) hml).trans hm
  have ba := Box.new w #[.int .i64 a0, .int .i64 a1, .int .i64 a2, .slice A n c] 24
  have b0 : Below g w (w.alloc (.cells #[.int .i64 a0, .int .i64 a1, .int .i64 a2, .slice A n c] 24)) := (Below.refl _ _).alloc (Nat.le_of_eq hg.symm) _
  rw [hg] at ba
  go_enter Tryz.func3, Tryz.ntmps3
  go_upto_region 1 with (fail)
  generalize w.alloc _ = w1 at ba b0 ⊢
  obtain ⟨k0, -⟩ := ba.2 0 _ rfl
  obtain ⟨k1, -⟩ := ba.2 1 _ rfl
  obtain ⟨k2, -⟩ := ba.2 2 _ rfl
  obtain ⟨k3, -⟩ := ba.2 3 _ rfl
  go_wp2_with fail
  refine (donil_any a0 a1 a2 A n c w1).mono ?_
  rintro e w2 ⟨rfl, b1⟩
  have b2 := b0.trans (b1.mono (hg ▸ b0.size))
  have ba2 := ba.below b1
  clear k0 k1 k2 k3
  obtain ⟨k0, -⟩ := ba2.2 0 _ rfl
  obtain ⟨k1, -⟩ := ba2.2 1 _ rfl
  obtain ⟨k2, -⟩ := ba2.2 2 _ rfl
  obtain ⟨k3, -⟩ := ba2.2 3 _ rfl
  go_wp2_with fail
  refine (upnil_any a1 w2).mono ?_
  rintro e w2' ⟨rfl, rfl⟩
  obtain ⟨g2, hg2⟩ : ∃ g2, w2.heap.size = g2 := ⟨_, rfl⟩
  have q := gateans_any g2 mx w2 hg2 (fun W b => HM W (b2.trans (b.mono (hg2 ▸ (hg ▸ b2.size)))))
  go_wp2_with fail
  refine q.mono ?_
  rintro e w3 ⟨rfl, b3⟩
  have ba3 := ba2.below (hg2 ▸ b3)
  have t3 : Below g w w3 := b2.trans (b3.mono (hg2 ▸ (hg ▸ b2.size)))
  clear k0 k1 k2 k3
  obtain ⟨k0, -⟩ := ba3.2 0 _ rfl
  obtain ⟨k1, -⟩ := ba3.2 1 _ rfl
  obtain ⟨k2, -⟩ := ba3.2 2 _ rfl
  obtain ⟨k3, -⟩ := ba3.2 3 _ rfl
  go_wp2_with fail
  refine (idlenil_any a1 w3).mono ?_
  rintro e w3' ⟨rfl, rfl⟩
  go_wp2_with fail
  refine (opennil_any a1 w3).mono ?_
  rintro e w3' ⟨rfl, rfl⟩
  go_wp2_with fail
  refine (heldnil_any a1 w3).mono ?_
  rintro e w3' ⟨rfl, rfl⟩
  go_wp2_with fail
  go_ret
  rw [hg]
  exact ⟨rfl, t3⟩
/-- The settled world that the card begins from. -/
noncomputable def laidWorld (os : Os) : World := laidWorld8 os
end Go.Proofs.YtbplnglmjcmfiaaGreatDoor.GateNoneP
