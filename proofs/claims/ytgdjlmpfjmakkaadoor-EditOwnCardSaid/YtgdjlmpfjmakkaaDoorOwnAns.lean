/- The gateway's own answers: reasons and numbers. -/
import Derived.Test.YtgdjlmpfjmakkaaDoorResp
import Derived.Test.YtgdjlmpfjmakkaaDoorUdec
namespace Go.Proofs.YtgdjlmpfjmakkaaDoor
open Go.RowKit

def reasonN : Nat → List UInt8
  | 0 => [66, 97, 100, 32, 82, 101, 113, 117, 101, 115, 116]
  | 1 => [78, 111, 116, 32, 70, 111, 117, 110, 100]
  | 2 => [78, 111, 116, 32, 65, 99, 99, 101, 112, 116, 97, 98, 108, 101]
  | 3 => [67, 111, 110, 116, 101, 110, 116, 32, 84, 111, 111, 32, 76, 97, 114, 103, 101]
  | 4 => [82, 101, 113, 117, 101, 115, 116, 32, 72, 101, 97, 100, 101, 114, 32, 70, 105, 101, 108, 100, 115, 32, 84, 111, 111, 32, 76, 97, 114, 103, 101]
  | 5 => [78, 111, 116, 32, 73, 109, 112, 108, 101, 109, 101, 110, 116, 101, 100]
  | 6 => [66, 97, 100, 32, 71, 97, 116, 101, 119, 97, 121]
  | 7 => [71, 97, 116, 101, 119, 97, 121, 32, 84, 105, 109, 101, 111, 117, 116]
  | _ => [69, 114, 114, 111, 114]
def reasonI (status : Int) : Nat := if status = 400 then 0 else if status = 404 then 1 else if status = 406 then 2 else if status = 413 then 3 else if status = 431 then 4 else if status = 501 then 5 else if status = 502 then 6 else if status = 504 then 7 else 8
def reasonL (status : Int) : List UInt8 := reasonN (reasonI status)
theorem reason_cases (status : Int) : (status = 400 ∨ status = 404 ∨ status = 406 ∨ status = 413 ∨ status = 431 ∨ status = 501 ∨ status = 502 ∨ status = 504) ∨ (status ≠ 400 ∧ status ≠ 404 ∧ status ≠ 406 ∧ status ≠ 413 ∧ status ≠ 431 ∧ status ≠ 501 ∧ status ≠ 502 ∧ status ≠ 504) := by omega
theorem reason_len (status : Int) : (reasonL status).length + 1 ∈ [12, 10, 15, 18, 32, 16, 6] := by
  unfold reasonL reasonI
  repeat' split
  all_goals decide
set_option maxRecDepth 100000 in
set_option maxHeartbeats 6400000 in
theorem reason_any (status : Int) (w : World) : Calls Tryd.prog 67 #[.int .i64 status] w fun e w' => e = .returned (.string ⟨(reasonL status).toArray⟩) ∧ w = w' := by
  rcases reason_cases status with h | ⟨h1, h2, h3, h4, h5, h6, h7, h8⟩
  · rcases h with rfl | rfl | rfl | rfl | rfl | rfl | rfl | rfl <;>
    (go_enter Tryd.func67, Tryd.ntmps67
     go_wp2
     go_ret
     exact ⟨rfl, rfl⟩)
  · have hr : reasonL status = reasonN 8 := by unfold reasonL reasonI; rw [if_neg h1, if_neg h2, if_neg h3, if_neg h4, if_neg h5, if_neg h6, if_neg h7, if_neg h8]
    rw [hr]
    have e1 : (status == 400) = false := by simpa using h1
    have e2 : (status == 404) = false := by simpa using h2
    have e3 : (status == 406) = false := by simpa using h3
    have e4 : (status == 413) = false := by simpa using h4
    have e5 : (status == 431) = false := by simpa using h5
    have e6 : (status == 501) = false := by simpa using h6
    have e7 : (status == 502) = false := by simpa using h7
    have e8 : (status == 504) = false := by simpa using h8
    clear h1 h2 h3 h4 h5 h6 h7 h8
    go_enter Tryd.func67, Tryd.ntmps67
    go_wp2
    go_ret
    exact ⟨rfl, rfl⟩
set_option maxRecDepth 100000 in
set_option maxHeartbeats 6400000 in
theorem itoa_any (n : Nat) (hn : n ∈ [12, 10, 15, 18, 32, 16, 6]) (w : World) : Calls Tryd.prog 68 #[.int .i64 n] w fun e w' => e = .returned (.string ⟨(udig n).toArray⟩) ∧ Below w.heap.size w w' := by
  simp only [List.mem_cons, List.not_mem_nil, or_false] at hn
  rcases hn with rfl | rfl | rfl | rfl | rfl | rfl | rfl
  · have e : udig 12 = [49, 50] := by simp [udig]
    rw [e]
    clear e
    go_enter Tryd.func68, Tryd.ntmps68
    go_wp2
    go_ret
    exact ⟨by kernel_rfl, Below.refl _ _⟩
  · have e : udig 10 = [49, 48] := by simp [udig]
    rw [e]
    clear e
    go_enter Tryd.func68, Tryd.ntmps68
    go_wp2
    go_ret
    exact ⟨by kernel_rfl, Below.refl _ _⟩
  · have e : udig 15 = [49, 53] := by simp [udig]
    rw [e]
    clear e
    go_enter Tryd.func68, Tryd.ntmps68
    go_wp2
    go_ret
    exact ⟨by kernel_rfl, Below.refl _ _⟩
  · have e : udig 18 = [49, 56] := by simp [udig]
    rw [e]
    clear e
    go_enter Tryd.func68, Tryd.ntmps68
    go_wp2
    go_ret
    exact ⟨by kernel_rfl, Below.refl _ _⟩
  · have e : udig 32 = [51, 50] := by simp [udig]
    rw [e]
    clear e
    go_enter Tryd.func68, Tryd.ntmps68
    go_wp2
    go_ret
    exact ⟨by kernel_rfl, Below.refl _ _⟩
  · have e : udig 16 = [49, 54] := by simp [udig]
    rw [e]
    clear e
    go_enter Tryd.func68, Tryd.ntmps68
    go_wp2
    go_ret
    exact ⟨by kernel_rfl, Below.refl _ _⟩
  · have e : udig 6 = [54] := by simp [udig]
    rw [e]
    clear e
    go_enter Tryd.func68, Tryd.ntmps68
    go_wp2
    go_ret
    exact ⟨by kernel_rfl, Below.refl _ _⟩
end Go.Proofs.YtgdjlmpfjmakkaaDoor
