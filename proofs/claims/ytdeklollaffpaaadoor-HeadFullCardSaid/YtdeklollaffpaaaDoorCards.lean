/-
  DERIVED. GIVEN WITH THE SEED: THE CARDS: each row of YtdeklollaffpaaaDoorRows.lean that lists a variable, with what it lists TIED to the program's text (the seventh form; the later family's looks); each row that meets fmt, with fmt's text TOLD by the authors' own Lean function (tested against real Go, not proved from fmt's source: count such statements apart). THE CARD IS WHAT COUNTS. Prove the row's statement (the work); the ties are given (YtdeklollaffpaaaDoorTie.lean); close each card by the builder's one call (the guide's Derived/Test/ToyasCard.lean, 'card_holds'). Laid BY PROGRAM, IN A SANDBOX (cutbox-door.mjs). By AI agents, Wed Nov 11 2026. No macro, syntax, notation, axiom, sorry.
-/
import Derived.Test.YtdeklollaffpaaaDoorRows
import GoSem.ClaimSeven
namespace Go.Proofs.YtdeklollaffpaaaDoor
namespace Rows

/-- THE TIED CARD OF 'concertinalaw17.HeadStrict'. -/
def headStrictCard : Claim7 := { stood := { row := headStrictRow, standIns := [], harness := (true, "7b61a5bfa9485998d2fb8a6635923479bcfb7c220c53a34257d7501074b9486d"), looks := false }, kinds := [], alts := [], laidByText := true, laidKinds := [.data, .pinned], laidTests := true, laidLooks := .later }
def HeadStrictCardSaid : Prop := Claim7.holds Tryd.pinned (.plain (OpenSpec.ofChange headStrictSpec)) headStrictCard

/-- THE TIED CARD OF 'concertinalaw17.HeadEnds'. -/
def headEndsCard : Claim7 := { stood := { row := headEndsRow, standIns := [], harness := (true, "7b61a5bfa9485998d2fb8a6635923479bcfb7c220c53a34257d7501074b9486d"), looks := false }, kinds := [], alts := [], laidByText := true, laidKinds := [.data, .pinned], laidTests := true, laidLooks := .later }
def HeadEndsCardSaid : Prop := Claim7.holds Tryd.pinned (.plain (OpenSpec.ofChange headEndsSpec)) headEndsCard

/-- THE TIED CARD OF 'concertinalaw17.HeadFull'. -/
def headFullCard : Claim7 := { stood := { row := headFullRow, standIns := [], harness := (true, "7b61a5bfa9485998d2fb8a6635923479bcfb7c220c53a34257d7501074b9486d"), looks := false }, kinds := [], alts := [], laidByText := true, laidKinds := [.data, .data, .data, .data, .sentinel, .pinned], laidTests := true, laidLooks := .later }
def HeadFullCardSaid : Prop := Claim7.holds Tryd.pinned (.plain (OpenSpec.ofChange headFullSpec)) headFullCard

/-- THE SECOND FORM's CARD OF 'concertinalaw17.HeadStrict'. -/
def headStrictUptoCard : Claim7 := { stood := { row := headStrictUptoRow, standIns := [], harness := (true, "7b61a5bfa9485998d2fb8a6635923479bcfb7c220c53a34257d7501074b9486d"), looks := false }, kinds := [], alts := [], laidByText := true, laidKinds := [.data, .pinned], laidTests := true, laidLooks := .later }
def HeadStrictUptoCardSaid : Prop := Claim7.holds Tryd.pinned (.plain (OpenSpec.upto headStrictSpec)) headStrictUptoCard

/-- THE SECOND FORM's CARD OF 'concertinalaw17.HeadEnds'. -/
def headEndsUptoCard : Claim7 := { stood := { row := headEndsUptoRow, standIns := [], harness := (true, "7b61a5bfa9485998d2fb8a6635923479bcfb7c220c53a34257d7501074b9486d"), looks := false }, kinds := [], alts := [], laidByText := true, laidKinds := [.data, .pinned], laidTests := true, laidLooks := .later }
def HeadEndsUptoCardSaid : Prop := Claim7.holds Tryd.pinned (.plain (OpenSpec.upto headEndsSpec)) headEndsUptoCard

/-- THE SECOND FORM's CARD OF 'concertinalaw17.HeadFull'. -/
def headFullUptoCard : Claim7 := { stood := { row := headFullUptoRow, standIns := [], harness := (true, "7b61a5bfa9485998d2fb8a6635923479bcfb7c220c53a34257d7501074b9486d"), looks := false }, kinds := [], alts := [], laidByText := true, laidKinds := [.data, .data, .data, .data, .sentinel, .pinned], laidTests := true, laidLooks := .later }
def HeadFullUptoCardSaid : Prop := Claim7.holds Tryd.pinned (.plain (OpenSpec.upto headFullSpec)) headFullUptoCard
end Rows
end Go.Proofs.YtdeklollaffpaaaDoor
