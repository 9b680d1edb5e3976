/- concertinaref01.Udec and Dec: a number's digits. -/
import Derived.Test.YtdpcncpfbaigeaaDoorProg
import Derived.Test.YtdpcncpfbaigeaaDoorOwn
namespace Go.Proofs.YtdpcncpfbaigeaaDoor
open Go.RowKit
/-- A number's digits. -/
def udig (n : Nat) : List UInt8 := if h : n < 10 then [48 + UInt8.ofNat (n % 10)] else udig (n / 10) ++ [48 + UInt8.ofNat (n % 10)]
termination_by n
theorem udig_length (n : Nat) : (udig n).length ≤ n / 10 + 2 := by
  induction n using udig.induct with
  | case1 n h => rw [udig, dif_pos h]; simp
  | case2 n h ih => rw [udig, dif_neg h]; simp; omega
end Go.Proofs.YtdpcncpfbaigeaaDoor
