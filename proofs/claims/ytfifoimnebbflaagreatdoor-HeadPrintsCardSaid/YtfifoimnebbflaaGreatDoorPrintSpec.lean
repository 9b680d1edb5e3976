/- Heads printed, as plain lists. No program here. -/
import Derived.Test.YtfifoimnebbflaaGreatDoorStrictSpec
import Derived.Test.YtfifoimnebbflaaGreatDoorEndSpec
namespace Go.Proofs.YtfifoimnebbflaaGreatDoor
open Go.RowKit

theorem app_list (a b : ByteArray) : (a ++ b).data.toList = a.data.toList ++ b.data.toList := by simp
def fldOk (f : List UInt8 × List UInt8) : Bool := goodNameL f.1 && goodValueL f.2
def fldLn (f : List UInt8 × List UInt8) : List UInt8 := f.1 ++ [58, 32] ++ f.2 ++ crlfL
def linesB (fs : List (List UInt8 × List UInt8)) : List UInt8 := fs.flatMap fldLn
def headB (first : List UInt8) (fs : List (List UInt8 × List UInt8)) : List UInt8 := first ++ crlfL ++ linesB fs ++ crlfL
def printE (first : List UInt8) (fs : List (List UInt8 × List UInt8)) : Nat :=
  if 64 < fs.length then 2 else if fs.all fldOk = false then 2 else if 16384 < (headB first fs).length then 6 else 0
def printB (first : List UInt8) (fs : List (List UInt8 × List UInt8)) : List UInt8 := if printE first fs = 0 then headB first fs else []
theorem linesB_snoc (fs : List (List UInt8 × List UInt8)) (f : List UInt8 × List UInt8) : linesB (fs ++ [f]) = linesB fs ++ fldLn f := by simp [linesB]
theorem linesB_len (fs : List (List UInt8 × List UInt8)) (k : Nat) (hok : ∀ f ∈ fs, f.1.length ≤ 1000000 ∧ f.2.length ≤ 1000000) (hk : fs.length ≤ k) : (linesB fs).length ≤ k * 2000004 := by
  induction fs generalizing k with
  | nil => simp [linesB]
  | cons f fs ih =>
    obtain ⟨h1, h2⟩ := hok f (by simp)
    have := ih (k - 1) (fun g hg => hok g (by simp [hg])) (by simp at hk; omega)
    have e : (linesB (f :: fs)).length = (fldLn f).length + (linesB fs).length := by simp [linesB]
    have e2 : (fldLn f).length = f.1.length + 2 + f.2.length + 2 := by simp [fldLn, crlfL]; omega
    simp at hk
    have e3 : k * 2000004 = (k - 1) * 2000004 + 2000004 := by omega
    omega
theorem print_bad {first : List UInt8} {fs : List (List UInt8 × List UInt8)} (h : fs.all fldOk = false) : printE first fs = 2 ∧ printB first fs = [] := by
  have h1 : printE first fs = 2 := by unfold printE; rw [if_pos h]; split <;> rfl
  exact ⟨h1, by unfold printB; rw [h1]; rfl⟩
theorem print_many {first : List UInt8} {fs : List (List UInt8 × List UInt8)} (h : 64 < fs.length) : printE first fs = 2 ∧ printB first fs = [] := by
  have h1 : printE first fs = 2 := by unfold printE; rw [if_pos h]
  exact ⟨h1, by unfold printB; rw [h1]; rfl⟩
theorem print_long {first : List UInt8} {fs : List (List UInt8 × List UInt8)} (hn : ¬ 64 < fs.length) (ha : fs.all fldOk = true) (h : 16384 < (headB first fs).length) : printE first fs = 6 ∧ printB first fs = [] := by
  have h1 : printE first fs = 6 := by unfold printE; rw [if_neg hn, if_neg (by simp [ha]), if_pos h]
  exact ⟨h1, by unfold printB; rw [h1]; rfl⟩
theorem print_ok {first : List UInt8} {fs : List (List UInt8 × List UInt8)} (hn : ¬ 64 < fs.length) (ha : fs.all fldOk = true) (h : ¬ 16384 < (headB first fs).length) : printE first fs = 0 ∧ printB first fs = headB first fs := by
  have h1 : printE first fs = 0 := by unfold printE; rw [if_neg hn, if_neg (by simp [ha]), if_neg h]
  exact ⟨h1, by unfold printB; rw [h1]; rfl⟩
end Go.Proofs.YtfifoimnebbflaaGreatDoor
