/- concertinalaw16.answers returns true. -/
import Derived.Test.YtgdjlmpfjmakkaaDoorSplit
namespace Go.Proofs.YtgdjlmpfjmakkaaDoor
open Go.RowKit
theorem split_ab : (splitL [97, 44, 32, 98]).length = 2 := by
  have h1 : cutL false [97, 44, 32, 98] = 1 := by decide
  have h2 : cutL false [32, 98] = 2 := by decide
  rw [splitL_step _ (by rw [h1]; decide), h1]
  simp only [List.take_succ_cons, List.take_zero, List.drop_succ_cons, List.drop_zero]
  rw [splitL_last [32, 98] (by rw [h2]; decide)]
  decide
theorem low_A : lowL [65] = [97] := by decide
theorem good_ab : goodNameL [97, 45, 98] = true := by decide
end Go.Proofs.YtgdjlmpfjmakkaaDoor
