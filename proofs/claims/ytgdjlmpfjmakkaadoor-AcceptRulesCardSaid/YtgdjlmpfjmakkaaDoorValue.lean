/- Good values, and the reference's names and values. -/
import Derived.Test.YtgdjlmpfjmakkaaDoorTrim
namespace Go.Proofs.YtgdjlmpfjmakkaaDoor
open Go.RowKit

def goodValueL (l : List UInt8) : Bool := l.all valueB && decide (l.length ≤ 4096) && (trimL l == l)

def plainL (l : List UInt8) : Bool := l.all valueB
theorem plainL_of {l : List UInt8} {b : Bool} (h : l.all valueB = b) : plainL l = b := h
end Go.Proofs.YtgdjlmpfjmakkaaDoor
