/-
  DERIVED. GIVEN WITH THE SEED: THE CARDS: each row of YtbplnglmjcmfiaaGreatDoorRows.lean that lists a variable, with what it lists TIED to the program's text (the seventh form; the later family's looks); each row that meets fmt, with fmt's text TOLD by the authors' own Lean function (tested against real Go, not proved from fmt's source: count such statements apart). THE CARD IS WHAT COUNTS. Prove the row's statement (the work); the ties are given (YtbplnglmjcmfiaaGreatDoorTie.lean); close each card by the builder's one call (the guide's Derived/Test/ToyasCard.lean, 'card_holds'). Laid BY PROGRAM, IN A SANDBOX (cutbox-door.mjs). By AI agents, Wed Nov 11 2026. No macro, syntax, notation, axiom, sorry.
-/
import Derived.Test.YtbplnglmjcmfiaaGreatDoorRows
import GoSem.ClaimSeven
namespace Go.Proofs.YtbplnglmjcmfiaaGreatDoor
namespace Rows

/-- THE TIED CARD OF 'concertinalaw26.GateNone'. -/
def gateNoneCard : Claim7 := { stood := { row := gateNoneRow, standIns := [], harness := (true, "735a857500f89c89a874d801448c782ee862666a9a6b0242fe42ab2e3382add8"), looks := true }, kinds := [], alts := [], laidByText := true, laidKinds := [.data, .data, .data, .data, .sentinel, .sentinel, .sentinel, .pinned], laidTests := true, laidLooks := .later }
def GateNoneCardSaid : Prop := Claim7.holds Tryz.pinned (.plain (OpenSpec.ofChange gateNoneSpec)) gateNoneCard

/-- THE TIED CARD OF 'concertinalaw28.ShellWrong'. -/
def shellWrongCard : Claim7 := { stood := { row := shellWrongRow, standIns := [], harness := (true, "735a857500f89c89a874d801448c782ee862666a9a6b0242fe42ab2e3382add8"), looks := true }, kinds := [], alts := [], laidByText := true, laidKinds := [.data, .data, .data, .data, .sentinel, .sentinel, .sentinel, .pinned], laidTests := true, laidLooks := .later }
def ShellWrongCardSaid : Prop := Claim7.holds Tryz.pinned (.plain (OpenSpec.ofChange shellWrongSpec)) shellWrongCard

/-- THE SECOND FORM's CARD OF 'concertinalaw26.GateNone'. -/
def gateNoneUptoCard : Claim7 := { stood := { row := gateNoneUptoRow, standIns := [], harness := (true, "735a857500f89c89a874d801448c782ee862666a9a6b0242fe42ab2e3382add8"), looks := true }, kinds := [], alts := [], laidByText := true, laidKinds := [.data, .data, .data, .data, .sentinel, .sentinel, .sentinel, .pinned], laidTests := true, laidLooks := .later }
def GateNoneUptoCardSaid : Prop := Claim7.holds Tryz.pinned (.plain (OpenSpec.upto gateNoneSpec)) gateNoneUptoCard

/-- THE SECOND FORM's CARD OF 'concertinalaw28.ShellWrong'. -/
def shellWrongUptoCard : Claim7 := { stood := { row := shellWrongUptoRow, standIns := [], harness := (true, "735a857500f89c89a874d801448c782ee862666a9a6b0242fe42ab2e3382add8"), looks := true }, kinds := [], alts := [], laidByText := true, laidKinds := [.data, .data, .data, .data, .sentinel, .sentinel, .sentinel, .pinned], laidTests := true, laidLooks := .later }
def ShellWrongUptoCardSaid : Prop := Claim7.holds Tryz.pinned (.plain (OpenSpec.upto shellWrongSpec)) shellWrongUptoCard
end Rows
end Go.Proofs.YtbplnglmjcmfiaaGreatDoor
