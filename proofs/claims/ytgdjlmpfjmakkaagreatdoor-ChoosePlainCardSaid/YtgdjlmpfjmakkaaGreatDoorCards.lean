/-
  DERIVED. GIVEN WITH THE SEED: THE CARDS: each row of YtgdjlmpfjmakkaaGreatDoorRows.lean that lists a variable, with what it lists TIED to the program's text (the seventh form; the later family's looks); each row that meets fmt, with fmt's text TOLD by the authors' own Lean function (tested against real Go, not proved from fmt's source: count such statements apart). THE CARD IS WHAT COUNTS. Prove the row's statement (the work); the ties are given (YtgdjlmpfjmakkaaGreatDoorTie.lean); close each card by the builder's one call (the guide's Derived/Test/ToyasCard.lean, 'card_holds'). Laid BY PROGRAM, IN A SANDBOX (cutbox-door.mjs). By AI agents, Wed Nov 11 2026. No macro, syntax, notation, axiom, sorry.
-/
import Derived.Test.YtgdjlmpfjmakkaaGreatDoorRows
import GoSem.ClaimSeven
namespace Go.Proofs.YtgdjlmpfjmakkaaGreatDoor
namespace Rows

/-- THE TIED CARD OF 'concertinalaw22.ChoosePicks'. -/
def choosePicksCard : Claim7 := { stood := { row := choosePicksRow, standIns := [], harness := (true, "d00888c3e4cd7b4b2649c00fff48a87ad88ff186b7c17256317e90aee45d9664"), looks := true }, kinds := [], alts := [], laidByText := true, laidKinds := [.data, .data, .data, .data, .sentinel, .sentinel, .pinned], laidTests := true, laidLooks := .later }
def ChoosePicksCardSaid : Prop := Claim7.holds Tryz.pinned (.plain (OpenSpec.ofChange choosePicksSpec)) choosePicksCard

/-- THE TIED CARD OF 'concertinalaw22.ChooseMay'. -/
def chooseMayCard : Claim7 := { stood := { row := chooseMayRow, standIns := [], harness := (true, "d00888c3e4cd7b4b2649c00fff48a87ad88ff186b7c17256317e90aee45d9664"), looks := true }, kinds := [], alts := [], laidByText := true, laidKinds := [.data, .data, .data, .data, .sentinel, .sentinel, .pinned], laidTests := true, laidLooks := .later }
def ChooseMayCardSaid : Prop := Claim7.holds Tryz.pinned (.plain (OpenSpec.ofChange chooseMaySpec)) chooseMayCard

/-- THE TIED CARD OF 'concertinalaw22.ChoosePlain'. -/
def choosePlainCard : Claim7 := { stood := { row := choosePlainRow, standIns := [], harness := (true, "d00888c3e4cd7b4b2649c00fff48a87ad88ff186b7c17256317e90aee45d9664"), looks := true }, kinds := [], alts := [], laidByText := true, laidKinds := [.data, .data, .data, .data, .sentinel, .sentinel, .pinned], laidTests := true, laidLooks := .later }
def ChoosePlainCardSaid : Prop := Claim7.holds Tryz.pinned (.plain (OpenSpec.ofChange choosePlainSpec)) choosePlainCard

/-- THE SECOND FORM's CARD OF 'concertinalaw22.ChoosePicks'. -/
def choosePicksUptoCard : Claim7 := { stood := { row := choosePicksUptoRow, standIns := [], harness := (true, "d00888c3e4cd7b4b2649c00fff48a87ad88ff186b7c17256317e90aee45d9664"), looks := true }, kinds := [], alts := [], laidByText := true, laidKinds := [.data, .data, .data, .data, .sentinel, .sentinel, .pinned], laidTests := true, laidLooks := .later }
def ChoosePicksUptoCardSaid : Prop := Claim7.holds Tryz.pinned (.plain (OpenSpec.upto choosePicksSpec)) choosePicksUptoCard

/-- THE SECOND FORM's CARD OF 'concertinalaw22.ChooseMay'. -/
def chooseMayUptoCard : Claim7 := { stood := { row := chooseMayUptoRow, standIns := [], harness := (true, "d00888c3e4cd7b4b2649c00fff48a87ad88ff186b7c17256317e90aee45d9664"), looks := true }, kinds := [], alts := [], laidByText := true, laidKinds := [.data, .data, .data, .data, .sentinel, .sentinel, .pinned], laidTests := true, laidLooks := .later }
def ChooseMayUptoCardSaid : Prop := Claim7.holds Tryz.pinned (.plain (OpenSpec.upto chooseMaySpec)) chooseMayUptoCard

/-- THE SECOND FORM's CARD OF 'concertinalaw22.ChoosePlain'. -/
def choosePlainUptoCard : Claim7 := { stood := { row := choosePlainUptoRow, standIns := [], harness := (true, "d00888c3e4cd7b4b2649c00fff48a87ad88ff186b7c17256317e90aee45d9664"), looks := true }, kinds := [], alts := [], laidByText := true, laidKinds := [.data, .data, .data, .data, .sentinel, .sentinel, .pinned], laidTests := true, laidLooks := .later }
def ChoosePlainUptoCardSaid : Prop := Claim7.holds Tryz.pinned (.plain (OpenSpec.upto choosePlainSpec)) choosePlainUptoCard
end Rows
end Go.Proofs.YtgdjlmpfjmakkaaGreatDoor
