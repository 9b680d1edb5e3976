/- concertinalaw19.answers returns true. -/
import Derived.Test.YtgdjlmpfjmakkaaDoorOfReq
namespace Go.Proofs.YtgdjlmpfjmakkaaDoor
open Go.RowKit

theorem frOf_one (nm v : List UInt8) (minor : Int) (o : Nat) (h1 : sameL nm nameTE = false) (h2 : sameL nm nameCL = true) : frOf [(nm, v)] minor o = if (numL v).2 = true then (1, (numL v).1, 0) else (0, 0, 2) := by
  unfold frOf getL
  simp [h1, h2, toldL]
theorem rd_new (w : World) (cs : Array Value) (e : TypeId) (size n : Nat) (hl : cs.size = n * size) : Rd (w.alloc (.cells cs e)) (w.heap.size + 1) size (some ⟨w.heap.size, 0, none⟩) n cs.toList := by
  refine ⟨by simpa using hl, .inr ⟨_, rfl, by simp, fun j u hu => ?_⟩⟩
  rw [Addr.add_lit, Nat.zero_add, World.cell?_alloc_new]
  simpa using hu
theorem num_5 : numL [53] = (5, true) := by decide
theorem nm_1 : sameL nameCL nameTE = false := by decide
theorem nm_2 : sameL nameCL nameCL = true := by decide
theorem fr_ans : frOf [(nameCL, [53])] 1 0 = (1, 5, 0) := by rw [frOf_one _ _ _ _ nm_1 nm_2, num_5]; rfl
end Go.Proofs.YtgdjlmpfjmakkaaDoor
