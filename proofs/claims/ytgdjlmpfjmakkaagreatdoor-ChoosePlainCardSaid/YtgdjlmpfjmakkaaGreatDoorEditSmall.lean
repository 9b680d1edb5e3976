/- concertinalaw23.light; weak tags, Keeps, the law's answers; SameRequest. -/
import Derived.Test.YtgdjlmpfjmakkaaGreatDoorGets
import Derived.Test.YtgdjlmpfjmakkaaGreatDoorEditSpec
import Derived.Test.YtgdjlmpfjmakkaaGreatDoorSameF
import Derived.Test.YtgdjlmpfjmakkaaGreatDoorTold
namespace Go.Proofs.YtgdjlmpfjmakkaaGreatDoor
open Go.RowKit

def keepsB (minor : Int) (fs : List (List UInt8 × List UInt8)) : Bool := if hasL fs connL [99, 108, 111, 115, 101] = true then false else decide (minor = 1) || (decide (minor = 0) && hasL fs connL [107, 101, 101, 112, 45, 97, 108, 105, 118, 101])
theorem hasL_congr {a b : List UInt8} (h : lowL a = lowL b) (fs : List (List UInt8 × List UInt8)) (m : List UInt8) : hasL fs a m = hasL fs b m := by unfold hasL; rw [getL_congr h]

def prefB (p s : List UInt8) : Bool := decide (p.length ≤ s.length) && decide (s.take p.length = p)
set_option maxRecDepth 100000 in
set_option maxHeartbeats 3200000 in
theorem wpre_any (s : ByteArray) (w : World) (hs : s.size ≤ 9223372036854775807) :
    Calls Tryz.prog 55 #[.string s, .string ⟨#[87, 47]⟩] w fun e w' => e = .returned (.bool (decide (s.data.toList.take 2 = [87, 47]))) ∧ w = w' := by
  have hz := size_of s
  obtain ⟨r, hr⟩ : ∃ r, r = decide (s.data.toList.take 2 = [87, 47]) := ⟨_, rfl⟩
  rw [← hr]
  by_cases h2 : 2 ≤ s.size
  · have hx : ((s.extract 0 2).toList == [87, 47]) = r := by rw [ByteArray.toList_eq, extract_list, hr, Bool.eq_iff_iff, decide_eq_true_iff]; simp
    clear hr hz
    go_enter Tryz.func55, Tryz.ntmps55
    go_wp2
    go_ret
    exact ⟨rfl, rfl⟩
  · have hx : r = false := by
      rw [hr, decide_eq_false_iff_not]
      intro h
      have := congrArg List.length h
      rw [List.length_take] at this
      simp at this
      omega
    have HX := hide hx
    clear hr hz hx
    go_enter Tryz.func55, Tryz.ntmps55
    go_wp2
    go_ret
    exact ⟨ret_bool (by rw [HX.out]), rfl⟩
theorem weak_bytes (s : ByteArray) : (decide (s.data.toList.take 2 = [87, 47]) = true → (⟨(weakL s.data.toList).toArray⟩ : ByteArray) = s) ∧ (decide (s.data.toList.take 2 = [87, 47]) = false → (⟨(weakL s.data.toList).toArray⟩ : ByteArray) = ⟨#[87, 47]⟩ ++ s) := by
  constructor
  · intro h
    have h' := of_decide_eq_true h
    unfold weakL
    rw [if_pos h']
  · intro h
    have h' := of_decide_eq_false h
    unfold weakL
    rw [if_neg h']
    exact bytes_ext (by simp)
end Go.Proofs.YtgdjlmpfjmakkaaGreatDoor
