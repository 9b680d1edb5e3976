/- SameFields: are two slices of fields the same? -/
import Derived.Test.YtgdjlmpfjmakkaaGreatDoorSets
import Derived.Deep.QuietTactic
import Derived.BigQuiet
namespace Go.Proofs.YtgdjlmpfjmakkaaGreatDoor
open Go.RowKit

end Go.Proofs.YtgdjlmpfjmakkaaGreatDoor
