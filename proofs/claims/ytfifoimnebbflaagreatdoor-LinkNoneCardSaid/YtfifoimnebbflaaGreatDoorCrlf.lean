/- The reference's crlf. -/
import Derived.Test.YtfifoimnebbflaaGreatDoorEndSpec
import Derived.Test.YtfifoimnebbflaaGreatDoorTrim
namespace Go.Proofs.YtfifoimnebbflaaGreatDoor
open Go.RowKit

end Go.Proofs.YtfifoimnebbflaaGreatDoor
