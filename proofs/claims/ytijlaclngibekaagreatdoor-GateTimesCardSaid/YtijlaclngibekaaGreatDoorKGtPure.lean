/- What the law's own request is read as, and what is printed of it. -/
import Derived.Test.YtijlaclngibekaaGreatDoorKBoxG
import Derived.Test.YtijlaclngibekaaGreatDoorKLinkHead
import Derived.Test.YtijlaclngibekaaGreatDoorKHasG
import Derived.Test.YtijlaclngibekaaGreatDoorKMemberG
import Derived.Test.YtijlaclngibekaaGreatDoorKPrintG
import Derived.Test.YtijlaclngibekaaGreatDoorKTextsG
namespace Go.Proofs.YtijlaclngibekaaGreatDoor
open Go.RowKit
set_option linter.unusedVariables false

def b27 : List UInt8 := [71, 69, 84, 32, 47, 32, 72, 84, 84, 80, 47, 49, 46, 49, 13, 10, 72, 111, 115, 116, 58, 32, 97, 13, 10, 13, 10]
def fs27 : List (List UInt8 × List UInt8) := [([72, 111, 115, 116], [97])]
theorem hd27 : hdE b27 false = 0 ∧ hdO b27 = b27 := by constructor <;> decide +kernel
theorem hd20 : hdE (b27.take 20) false = 5 := by decide +kernel
theorem hd00 : hdE [] false = 5 := by decide +kernel
theorem hdO_none {bs : List UInt8} (h : hdE bs false = 5) : hdO bs = [] := by
  unfold hdE at h; unfold hdO
  by_cases h0 : endE bs = 0
  · rw [if_pos h0] at h; cases h
  · rw [if_neg h0]
theorem req27 : reqE b27 = 0 ∧ rM b27 = [71, 69, 84] ∧ rT b27 = [47] ∧ rN b27 = 1 ∧ rFs b27 = fs27 := by
  refine ⟨?_, ?_, ?_, ?_, ?_⟩ <;> decide +kernel
theorem ok27 : fsOk fs27 := by unfold fsOk; decide +kernel
theorem fr27 : frOf fs27 1 0 = (0, 0, 0) := by decide +kernel
theorem host27 : getL fs27 [72, 111, 115, 116] = [[97]] := by decide +kernel
theorem te27 : getL fs27 nameTE = [] := by decide +kernel
theorem rf27 : requestF fs27 0 = fs27 := by decide +kernel
theorem print27 : preqE [71, 69, 84] [47] 1 fs27 = 0 := by decide +kernel
theorem print27l : (preqB [71, 69, 84] [47] 1 fs27).length ≤ 1000 ∧ 1 ≤ (preqB [71, 69, 84] [47] 1 fs27).length := by constructor <;> decide +kernel
end Go.Proofs.YtijlaclngibekaaGreatDoor
