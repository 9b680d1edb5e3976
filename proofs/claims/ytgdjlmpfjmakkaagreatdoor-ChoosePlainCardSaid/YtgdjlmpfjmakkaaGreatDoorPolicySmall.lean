/- concertinalaw21.light, few and answers. -/
import Derived.Test.YtgdjlmpfjmakkaaGreatDoorPolicySpec
import Derived.Test.YtgdjlmpfjmakkaaGreatDoorEditSmall
import Derived.Test.YtgdjlmpfjmakkaaGreatDoorLightT
import Derived.Test.YtgdjlmpfjmakkaaGreatDoorMedia
import Derived.Test.YtgdjlmpfjmakkaaGreatDoorWorth
import Derived.Test.YtgdjlmpfjmakkaaGreatDoorBox
namespace Go.Proofs.YtgdjlmpfjmakkaaGreatDoor
open Go.RowKit
def fewT (vs : List (List UInt8)) : Bool := decide (vs.length ≤ 100) && decide (sumT vs ≤ 10000)
theorem fewT_ok {vs : List (List UInt8)} (h : fewT vs = true) : (∀ v ∈ vs, v.length ≤ 10000) ∧ vs.length ≤ 100 := by
  unfold fewT at h
  simp at h
  exact ⟨fun v hv => by have := sumT_mem vs v hv; omega, h.1⟩

def htmlF : List UInt8 × List UInt8 := ([67, 111, 110, 116, 101, 110, 116, 45, 84, 121, 112, 101], [84, 101, 120, 116, 47, 72, 84, 77, 76, 59, 32, 97, 61, 98])
theorem rd_txt (w : World) (s : ByteArray) : Rd (w.alloc (.cells #[.string s] 9)) (w.heap.size + 1) 1 (some ⟨w.heap.size, 0, none⟩) 1 (scells [s.data.toList]) := rd_new w #[.string s] 9 1 1 rfl
end Go.Proofs.YtgdjlmpfjmakkaaGreatDoor
