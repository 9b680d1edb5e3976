/-
  DERIVED. GIVEN WITH THE SEED: THE CARDS: each row of YtijlaclngibekaaGreatDoorRows.lean that lists a variable, with what it lists TIED to the program's text (the seventh form; the later family's looks); each row that meets fmt, with fmt's text TOLD by the authors' own Lean function (tested against real Go, not proved from fmt's source: count such statements apart). THE CARD IS WHAT COUNTS. Prove the row's statement (the work); the ties are given (YtijlaclngibekaaGreatDoorTie.lean); close each card by the builder's one call (the guide's Derived/Test/ToyasCard.lean, 'card_holds'). Laid BY PROGRAM, IN A SANDBOX (cutbox-door.mjs). By AI agents, Wed Nov 11 2026. No macro, syntax, notation, axiom, sorry.
-/
import Derived.Test.YtijlaclngibekaaGreatDoorRows
import GoSem.ClaimSeven
namespace Go.Proofs.YtijlaclngibekaaGreatDoor
namespace Rows

/-- THE TIED CARD OF 'concertinalaw26.GateTimes'. -/
def gateTimesCard : Claim7 := { stood := { row := gateTimesRow, standIns := [], harness := (true, "7397f4fb83d90b77557244944ba5a995007e48a1c2a04c15f4387911841bb390"), looks := true }, kinds := [], alts := [], laidByText := true, laidKinds := [.data, .data, .data, .data, .sentinel, .sentinel, .sentinel, .pinned], laidTests := true, laidLooks := .later }
def GateTimesCardSaid : Prop := Claim7.holds Tryz.pinned (.plain (OpenSpec.ofChange gateTimesSpec)) gateTimesCard

/-- THE SECOND FORM's CARD OF 'concertinalaw26.GateTimes'. -/
def gateTimesUptoCard : Claim7 := { stood := { row := gateTimesUptoRow, standIns := [], harness := (true, "7397f4fb83d90b77557244944ba5a995007e48a1c2a04c15f4387911841bb390"), looks := true }, kinds := [], alts := [], laidByText := true, laidKinds := [.data, .data, .data, .data, .sentinel, .sentinel, .sentinel, .pinned], laidTests := true, laidLooks := .later }
def GateTimesUptoCardSaid : Prop := Claim7.holds Tryz.pinned (.plain (OpenSpec.upto gateTimesSpec)) gateTimesUptoCard
end Rows
end Go.Proofs.YtijlaclngibekaaGreatDoor
