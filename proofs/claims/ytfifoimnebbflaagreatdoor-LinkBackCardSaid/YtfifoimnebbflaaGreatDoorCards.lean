/-
  DERIVED. GIVEN WITH THE SEED: THE CARDS: each row of YtfifoimnebbflaaGreatDoorRows.lean that lists a variable, with what it lists TIED to the program's text (the seventh form; the later family's looks); each row that meets fmt, with fmt's text TOLD by the authors' own Lean function (tested against real Go, not proved from fmt's source: count such statements apart). THE CARD IS WHAT COUNTS. Prove the row's statement (the work); the ties are given (YtfifoimnebbflaaGreatDoorTie.lean); close each card by the builder's one call (the guide's Derived/Test/ToyasCard.lean, 'card_holds'). Laid BY PROGRAM, IN A SANDBOX (cutbox-door.mjs). By AI agents, Wed Nov 11 2026. No macro, syntax, notation, axiom, sorry.
-/
import Derived.Test.YtfifoimnebbflaaGreatDoorRows
import GoSem.ClaimSeven
namespace Go.Proofs.YtfifoimnebbflaaGreatDoor
namespace Rows

/-- THE TIED CARD OF 'concertinalaw25.LinkBack'. -/
def linkBackCard : Claim7 := { stood := { row := linkBackRow, standIns := [], harness := (true, "ca923dce787d62203bebbf3573dbb301f5cbc7afc1a3764c32158d35b049e5df"), looks := true }, kinds := [], alts := [], laidByText := true, laidKinds := [.data, .data, .data, .data, .sentinel, .sentinel, .pinned], laidTests := true, laidLooks := .later }
def LinkBackCardSaid : Prop := Claim7.holds Tryz.pinned (.plain (OpenSpec.ofChange linkBackSpec)) linkBackCard

/-- THE TIED CARD OF 'concertinalaw25.LinkNone'. -/
def linkNoneCard : Claim7 := { stood := { row := linkNoneRow, standIns := [], harness := (true, "ca923dce787d62203bebbf3573dbb301f5cbc7afc1a3764c32158d35b049e5df"), looks := true }, kinds := [], alts := [], laidByText := true, laidKinds := [.data, .data, .data, .data, .sentinel, .sentinel, .pinned], laidTests := true, laidLooks := .later }
def LinkNoneCardSaid : Prop := Claim7.holds Tryz.pinned (.plain (OpenSpec.ofChange linkNoneSpec)) linkNoneCard

/-- THE TIED CARD OF 'concertinalaw17.HeadPrints'. -/
def headPrintsCard : Claim7 := { stood := { row := headPrintsRow, standIns := [], harness := (true, "ca923dce787d62203bebbf3573dbb301f5cbc7afc1a3764c32158d35b049e5df"), looks := true }, kinds := [], alts := [], laidByText := true, laidKinds := [.data, .data, .data, .data, .sentinel, .sentinel, .sentinel, .pinned], laidTests := true, laidLooks := .later }
def HeadPrintsCardSaid : Prop := Claim7.holds Tryz.pinned (.plain (OpenSpec.ofChange headPrintsSpec)) headPrintsCard

/-- THE SECOND FORM's CARD OF 'concertinalaw25.LinkBack'. -/
def linkBackUptoCard : Claim7 := { stood := { row := linkBackUptoRow, standIns := [], harness := (true, "ca923dce787d62203bebbf3573dbb301f5cbc7afc1a3764c32158d35b049e5df"), looks := true }, kinds := [], alts := [], laidByText := true, laidKinds := [.data, .data, .data, .data, .sentinel, .sentinel, .pinned], laidTests := true, laidLooks := .later }
def LinkBackUptoCardSaid : Prop := Claim7.holds Tryz.pinned (.plain (OpenSpec.upto linkBackSpec)) linkBackUptoCard

/-- THE SECOND FORM's CARD OF 'concertinalaw25.LinkNone'. -/
def linkNoneUptoCard : Claim7 := { stood := { row := linkNoneUptoRow, standIns := [], harness := (true, "ca923dce787d62203bebbf3573dbb301f5cbc7afc1a3764c32158d35b049e5df"), looks := true }, kinds := [], alts := [], laidByText := true, laidKinds := [.data, .data, .data, .data, .sentinel, .sentinel, .pinned], laidTests := true, laidLooks := .later }
def LinkNoneUptoCardSaid : Prop := Claim7.holds Tryz.pinned (.plain (OpenSpec.upto linkNoneSpec)) linkNoneUptoCard

/-- THE SECOND FORM's CARD OF 'concertinalaw17.HeadPrints'. -/
def headPrintsUptoCard : Claim7 := { stood := { row := headPrintsUptoRow, standIns := [], harness := (true, "ca923dce787d62203bebbf3573dbb301f5cbc7afc1a3764c32158d35b049e5df"), looks := true }, kinds := [], alts := [], laidByText := true, laidKinds := [.data, .data, .data, .data, .sentinel, .sentinel, .sentinel, .pinned], laidTests := true, laidLooks := .later }
def HeadPrintsUptoCardSaid : Prop := Claim7.holds Tryz.pinned (.plain (OpenSpec.upto headPrintsSpec)) headPrintsUptoCard
end Rows
end Go.Proofs.YtfifoimnebbflaaGreatDoor
