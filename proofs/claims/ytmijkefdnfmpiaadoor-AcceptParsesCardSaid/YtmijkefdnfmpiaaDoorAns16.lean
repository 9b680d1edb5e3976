/- concertinalaw16.answers returns true. -/
import Derived.Test.YtmijkefdnfmpiaaDoorSplit
namespace Go.Proofs.YtmijkefdnfmpiaaDoor
open Go.RowKit
theorem split_ab : (splitL [97, 44, 32, 98]).length = 2 := by
  have h1 : cutL false [97, 44, 32, 98] = 1 := by decide
  have h2 : cutL false [32, 98] = 2 := by decide
  rw [splitL_step _ (by rw [h1]; decide), h1]
  simp only [List.take_succ_cons, List.take_zero, List.drop_succ_cons, List.drop_zero]
  rw [splitL_last [32, 98] (by rw [h2]; decide)]
  decide
theorem low_A : lowL [65] = [97] := by decide
theorem good_ab : goodNameL [97, 45, 98] = true := by decide
set_option maxRecDepth 100000 in
set_option maxHeartbeats 800000 in
theorem ans16_any (w : World) : Calls Tryd.prog 15 #[] w fun e w' => e = .returned (.bool true) ∧ Below w.heap.size w w' := by
  have hg := goodName_any ⟨#[97, 45, 98]⟩ w (by decide)
  have hl := lower_any ⟨#[65]⟩ w (by decide)
  have hs := fun w => split_any ⟨#[97, 44, 32, 98]⟩ w (by decide)
  change Calls Tryd.prog 25 _ w fun e w' => e = .returned (.bool (goodNameL [97, 45, 98])) ∧ w = w' at hg
  change Calls Tryd.prog 28 _ w fun e w' => e = .returned (.string ⟨(lowL [65]).toArray⟩) ∧ Below w.heap.size w w' at hl
  rw [good_ab] at hg
  rw [low_A] at hl
  have hs' : ∀ w, Calls Tryd.prog 16 #[.string ⟨#[97, 44, 32, 98]⟩] w fun e w' => ∃ A c, e = .returned (.slice A 2 c) ∧ Below w.heap.size w w' := fun w => (hs w).mono fun e w' ⟨A, c, he, _, _, hb⟩ => by
    change e = .returned (.slice A (splitL [97, 44, 32, 98]).length c) at he
    rw [split_ab] at he
    exact ⟨A, c, he, hb⟩
  clear hs
  go_enter Tryd.func15, Tryd.ntmps15
  go_wp2_with (first
    | (go_at_call 25; refine hg.mono ?_; rintro e w' ⟨rfl, rfl⟩)
    | (go_at_call 28; refine hl.mono ?_; rintro e w1 ⟨rfl, hb1⟩)
    | (go_at_call 16; refine (hs' _).mono ?_; rintro e w2 ⟨A, c, rfl, hb2⟩))
  go_ret
  exact ⟨rfl, hb1.trans (hb2.mono hb1.size)⟩
end Go.Proofs.YtmijkefdnfmpiaaDoor
