/- concertinaref01.Udec and Dec: a number's digits. -/
import Derived.Test.YtbgbggodjhbgbaaDoorProg
import Derived.Test.YtbgbggodjhbgbaaDoorOwn
namespace Go.Proofs.YtbgbggodjhbgbaaDoor
open Go.RowKit
/-- A number's digits. -/
def udig (n : Nat) : List UInt8 := if h : n < 10 then [48 + UInt8.ofNat (n % 10)] else udig (n / 10) ++ [48 + UInt8.ofNat (n % 10)]
termination_by n
theorem udig_length (n : Nat) : (udig n).length ≤ n / 10 + 2 := by
  induction n using udig.induct with
  | case1 n h => rw [udig, dif_pos h]; simp
  | case2 n h ih => rw [udig, dif_neg h]; simp; omega
set_option maxHeartbeats 400000 in
theorem udec_any (u : Nat) (h : u < 18446744073709551616) (w : World) :
    Calls Tryd.prog 34 #[.int .u64 u] w fun e w' => e = .returned (.string ⟨(udig u).toArray⟩) ∧ Below w.heap.size w w' := by
  have hcv := run_byte_string (P := Tryd.prog) 38 9 5 Tryd.underlying38 Tryd.underlying5 Tryd.underlying9
  have hul := udig_length u
  go_enter Tryd.func34, Tryd.ntmps34
  go_wp2
  go_loopw [0,3] (fun u3 s wr => ∃ (k : Nat) (l : List UInt8), k ≤ u ∧ u3 = .int .u64 k ∧ s = .string ⟨l.toArray⟩ ∧ udig u = udig k ++ l ∧ Below w.heap.size w wr) (fun u _ _ => (intOf u).toNat)
  case atStart => exact ⟨u, [], Nat.le_refl _, rfl, rfl, by simp, Below.refl _ _⟩
  case round =>
    obtain ⟨k, l, hk, rfl, rfl, hl, hb⟩ := hrel
    have h1 := hcv wr (48 + (k:Int) % 10) (by omega) (by omega)
    have hlen : 1 + l.length ≤ 9223372036854775807 := by
      have := congrArg List.length hl
      simp at this; omega
    have HL := hide hl
    have hsz := hb.size
    clear hcv hl hul
    by_cases hk10 : k < 10
    · have h0 : (k : Int) / 10 = 0 := by omega
      have hz : (((k : Int) / 10) == 0) = true := by simp [h0]
      clear h0
      go_wp2
      go_ret
      refine ⟨ret_string ?_, hb.alloc hsz _⟩
      rw [HL.out, udig, dif_pos hk10]; simp
    · have hz : (((k : Int) / 10) == 0) = false := by simp; omega
      go_wp2
      go_roundw
      case rel => exact ⟨k / 10, (48 + UInt8.ofNat (k % 10)) :: l, by omega, by simp, congrArg Value.string (bytes_ext (by simp)), by rw [HL.out, udig, dif_neg hk10]; simp, hb.alloc hsz _⟩
      case measure => simp [intOf]; omega
set_option maxHeartbeats 400000 in
theorem dec_any (n : Nat) (h : n < 9223372036854775808) (w : World) :
    Calls Tryd.prog 23 #[.int .i64 n] w fun e w' => e = .returned (.string ⟨(udig n).toArray⟩) ∧ Below w.heap.size w w' := by
  go_enter Tryd.func23, Tryd.ntmps23
  go_wp2_with (go_at_call 34; refine (udec_any n (by omega) _).mono ?_; rintro e w' ⟨rfl, hb⟩)
  go_ret
  exact ⟨rfl, hb⟩
end Go.Proofs.YtbgbggodjhbgbaaDoor
