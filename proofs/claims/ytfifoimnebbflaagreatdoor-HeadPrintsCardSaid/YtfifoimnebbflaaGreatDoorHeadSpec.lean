/- Heads as plain lists: lines, fields, first lines. No program here. -/
import Derived.Test.YtfifoimnebbflaaGreatDoorCut
import Derived.Test.YtfifoimnebbflaaGreatDoorTrim
import Derived.Test.YtfifoimnebbflaaGreatDoorIdxSpec
namespace Go.Proofs.YtfifoimnebbflaaGreatDoor
open Go.RowKit

/-! ### Heads -/
def linesL (s : List UInt8) : List (List UInt8) := Lib.split s crlfL
/-- A field of a line. -/
def lineOk (l : List UInt8) : Bool := cutHas 58 l && (goodNameL (cutHead 58 l) && goodValueL (trimL (cutTail 58 l)))
def lineF (l : List UInt8) : List UInt8 × List UInt8 := (cutHead 58 l, trimL (cutTail 58 l))
def slashB (c : UInt8) : Bool := decide (33 ≤ c.toNat ∧ c.toNat ≤ 126)
def slashOk (l : List UInt8) : Bool := l.all slashB
def targetL (l : List UInt8) : Bool := slashOk l && (Lib.hasPrefix l [47] && decide (l.length ≤ 2048))
def verL : List UInt8 := [72, 84, 84, 80, 47, 49, 46]
def minorOk (l : List UInt8) : Bool := Lib.hasPrefix l verL && (Lib.trimPrefix l verL == [48] || Lib.trimPrefix l verL == [49])
def minorN (l : List UInt8) : Nat := ((Lib.trimPrefix l verL).headD 48).toNat - 48
/-- The error of the lines ahead of the words, 0 for none. -/
def parseE (b : List UInt8) : Nat :=
  if 16384 < b.length then 6 else if Lib.hasSuffix b endL = false then 2 else
  if 65 < (linesL (Lib.trimSuffix b endL)).length then 6 else if (linesL (Lib.trimSuffix b endL)).tail.all lineOk then 0 else 2
def firstL (b : List UInt8) : List UInt8 := (linesL (Lib.trimSuffix b endL)).headD []
def fieldsL (b : List UInt8) : List (List UInt8 × List UInt8) := (linesL (Lib.trimSuffix b endL)).tail.map lineF
def reqWords (b : List UInt8) : List (List UInt8) := Lib.split (firstL b) [32]
def reqOk (ws : List (List UInt8)) : Bool :=
  decide (ws.length = 3) && (goodNameL (ws.getD 0 []) && (targetL (ws.getD 1 []) && minorOk (ws.getD 2 [])))
def reqE (b : List UInt8) : Nat := if parseE b = 0 then (if reqOk (reqWords b) then 0 else 2) else parseE b

end Go.Proofs.YtfifoimnebbflaaGreatDoor
