/-
  DERIVED. GIVEN WITH THE SEED: THE CARDS: each row of YtgdjlmpfjmakkaaDoorRows.lean that lists a variable, with what it lists TIED to the program's text (the seventh form; the later family's looks); each row that meets fmt, with fmt's text TOLD by the authors' own Lean function (tested against real Go, not proved from fmt's source: count such statements apart). THE CARD IS WHAT COUNTS. Prove the row's statement (the work); the ties are given (YtgdjlmpfjmakkaaDoorTie.lean); close each card by the builder's one call (the guide's Derived/Test/ToyasCard.lean, 'card_holds'). Laid BY PROGRAM, IN A SANDBOX (cutbox-door.mjs). By AI agents, Wed Nov 11 2026. No macro, syntax, notation, axiom, sorry.
-/
import Derived.Test.YtgdjlmpfjmakkaaDoorRows
import GoSem.ClaimSeven
namespace Go.Proofs.YtgdjlmpfjmakkaaDoor
namespace Rows

/-- THE TIED CARD OF 'concertinalaw23.EditRequests'. -/
def editRequestsCard : Claim7 := { stood := { row := editRequestsRow, standIns := [], harness := (true, "016fce6a172afffffbb81b83ca46a63d76c7f9fbade96fc59f57603a1ebf8760"), looks := true }, kinds := [], alts := [], laidByText := true, laidKinds := [.data, .pinned], laidTests := true, laidLooks := .later }
def EditRequestsCardSaid : Prop := Claim7.holds Tryd.pinned (.plain (OpenSpec.ofChange editRequestsSpec)) editRequestsCard

/-- THE TIED CARD OF 'concertinalaw23.EditHops'. -/
def editHopsCard : Claim7 := { stood := { row := editHopsRow, standIns := [], harness := (true, "016fce6a172afffffbb81b83ca46a63d76c7f9fbade96fc59f57603a1ebf8760"), looks := true }, kinds := [], alts := [], laidByText := true, laidKinds := [.data, .pinned], laidTests := true, laidLooks := .later }
def EditHopsCardSaid : Prop := Claim7.holds Tryd.pinned (.plain (OpenSpec.ofChange editHopsSpec)) editHopsCard

/-- THE TIED CARD OF 'concertinalaw23.EditResponses'. -/
def editResponsesCard : Claim7 := { stood := { row := editResponsesRow, standIns := [], harness := (true, "016fce6a172afffffbb81b83ca46a63d76c7f9fbade96fc59f57603a1ebf8760"), looks := true }, kinds := [], alts := [], laidByText := true, laidKinds := [.data, .pinned], laidTests := true, laidLooks := .later }
def EditResponsesCardSaid : Prop := Claim7.holds Tryd.pinned (.plain (OpenSpec.ofChange editResponsesSpec)) editResponsesCard

/-- THE TIED CARD OF 'concertinalaw23.EditTells'. -/
def editTellsCard : Claim7 := { stood := { row := editTellsRow, standIns := [], harness := (true, "016fce6a172afffffbb81b83ca46a63d76c7f9fbade96fc59f57603a1ebf8760"), looks := true }, kinds := [], alts := [], laidByText := true, laidKinds := [.data, .pinned], laidTests := true, laidLooks := .later }
def EditTellsCardSaid : Prop := Claim7.holds Tryd.pinned (.plain (OpenSpec.ofChange editTellsSpec)) editTellsCard

/-- THE TIED CARD OF 'concertinalaw20.AcceptRules'. -/
def acceptRulesCard : Claim7 := { stood := { row := acceptRulesRow, standIns := [], harness := (true, "016fce6a172afffffbb81b83ca46a63d76c7f9fbade96fc59f57603a1ebf8760"), looks := true }, kinds := [], alts := [], laidByText := true, laidKinds := [.data, .pinned], laidTests := true, laidLooks := .later }
def AcceptRulesCardSaid : Prop := Claim7.holds Tryd.pinned (.plain (OpenSpec.ofChange acceptRulesSpec)) acceptRulesCard

/-- THE TIED CARD OF 'concertinalaw20.AcceptCase'. -/
def acceptCaseCard : Claim7 := { stood := { row := acceptCaseRow, standIns := [], harness := (true, "016fce6a172afffffbb81b83ca46a63d76c7f9fbade96fc59f57603a1ebf8760"), looks := true }, kinds := [], alts := [], laidByText := true, laidKinds := [.data, .pinned], laidTests := true, laidLooks := .later }
def AcceptCaseCardSaid : Prop := Claim7.holds Tryd.pinned (.plain (OpenSpec.ofChange acceptCaseSpec)) acceptCaseCard

/-- THE TIED CARD OF 'concertinalaw23.EditTwice'. -/
def editTwiceCard : Claim7 := { stood := { row := editTwiceRow, standIns := [], harness := (true, "016fce6a172afffffbb81b83ca46a63d76c7f9fbade96fc59f57603a1ebf8760"), looks := true }, kinds := [], alts := [], laidByText := true, laidKinds := [.data, .pinned], laidTests := true, laidLooks := .later }
def EditTwiceCardSaid : Prop := Claim7.holds Tryd.pinned (.plain (OpenSpec.ofChange editTwiceSpec)) editTwiceCard

/-- THE TIED CARD OF 'concertinalaw23.EditOwn'. -/
def editOwnCard : Claim7 := { stood := { row := editOwnRow, standIns := [], harness := (true, "016fce6a172afffffbb81b83ca46a63d76c7f9fbade96fc59f57603a1ebf8760"), looks := true }, kinds := [], alts := [], laidByText := true, laidKinds := [.data, .data, .data, .data, .pinned], laidTests := true, laidLooks := .later }
def EditOwnCardSaid : Prop := Claim7.holds Tryd.pinned (.plain (OpenSpec.ofChange editOwnSpec)) editOwnCard

/-- THE TIED CARD OF 'concertinalaw21.PolicyTells'. -/
def policyTellsCard : Claim7 := { stood := { row := policyTellsRow, standIns := [], harness := (true, "016fce6a172afffffbb81b83ca46a63d76c7f9fbade96fc59f57603a1ebf8760"), looks := true }, kinds := [], alts := [], laidByText := true, laidKinds := [.data, .data, .data, .data, .sentinel, .sentinel, .pinned], laidTests := true, laidLooks := .later }
def PolicyTellsCardSaid : Prop := Claim7.holds Tryd.pinned (.plain (OpenSpec.ofChange policyTellsSpec)) policyTellsCard

/-- THE TIED CARD OF 'concertinalaw21.PolicyKept'. -/
def policyKeptCard : Claim7 := { stood := { row := policyKeptRow, standIns := [], harness := (true, "016fce6a172afffffbb81b83ca46a63d76c7f9fbade96fc59f57603a1ebf8760"), looks := true }, kinds := [], alts := [], laidByText := true, laidKinds := [.data, .data, .data, .data, .sentinel, .sentinel, .pinned], laidTests := true, laidLooks := .later }
def PolicyKeptCardSaid : Prop := Claim7.holds Tryd.pinned (.plain (OpenSpec.ofChange policyKeptSpec)) policyKeptCard

/-- THE TIED CARD OF 'concertinalaw21.PolicySize'. -/
def policySizeCard : Claim7 := { stood := { row := policySizeRow, standIns := [], harness := (true, "016fce6a172afffffbb81b83ca46a63d76c7f9fbade96fc59f57603a1ebf8760"), looks := true }, kinds := [], alts := [], laidByText := true, laidKinds := [.data, .data, .data, .data, .sentinel, .sentinel, .pinned], laidTests := true, laidLooks := .later }
def PolicySizeCardSaid : Prop := Claim7.holds Tryd.pinned (.plain (OpenSpec.ofChange policySizeSpec)) policySizeCard

/-- THE SECOND FORM's CARD OF 'concertinalaw23.EditRequests'. -/
def editRequestsUptoCard : Claim7 := { stood := { row := editRequestsUptoRow, standIns := [], harness := (true, "016fce6a172afffffbb81b83ca46a63d76c7f9fbade96fc59f57603a1ebf8760"), looks := true }, kinds := [], alts := [], laidByText := true, laidKinds := [.data, .pinned], laidTests := true, laidLooks := .later }
def EditRequestsUptoCardSaid : Prop := Claim7.holds Tryd.pinned (.plain (OpenSpec.upto editRequestsSpec)) editRequestsUptoCard

/-- THE SECOND FORM's CARD OF 'concertinalaw23.EditHops'. -/
def editHopsUptoCard : Claim7 := { stood := { row := editHopsUptoRow, standIns := [], harness := (true, "016fce6a172afffffbb81b83ca46a63d76c7f9fbade96fc59f57603a1ebf8760"), looks := true }, kinds := [], alts := [], laidByText := true, laidKinds := [.data, .pinned], laidTests := true, laidLooks := .later }
def EditHopsUptoCardSaid : Prop := Claim7.holds Tryd.pinned (.plain (OpenSpec.upto editHopsSpec)) editHopsUptoCard

/-- THE SECOND FORM's CARD OF 'concertinalaw23.EditResponses'. -/
def editResponsesUptoCard : Claim7 := { stood := { row := editResponsesUptoRow, standIns := [], harness := (true, "016fce6a172afffffbb81b83ca46a63d76c7f9fbade96fc59f57603a1ebf8760"), looks := true }, kinds := [], alts := [], laidByText := true, laidKinds := [.data, .pinned], laidTests := true, laidLooks := .later }
def EditResponsesUptoCardSaid : Prop := Claim7.holds Tryd.pinned (.plain (OpenSpec.upto editResponsesSpec)) editResponsesUptoCard

/-- THE SECOND FORM's CARD OF 'concertinalaw23.EditTells'. -/
def editTellsUptoCard : Claim7 := { stood := { row := editTellsUptoRow, standIns := [], harness := (true, "016fce6a172afffffbb81b83ca46a63d76c7f9fbade96fc59f57603a1ebf8760"), looks := true }, kinds := [], alts := [], laidByText := true, laidKinds := [.data, .pinned], laidTests := true, laidLooks := .later }
def EditTellsUptoCardSaid : Prop := Claim7.holds Tryd.pinned (.plain (OpenSpec.upto editTellsSpec)) editTellsUptoCard

/-- THE SECOND FORM's CARD OF 'concertinalaw20.AcceptRules'. -/
def acceptRulesUptoCard : Claim7 := { stood := { row := acceptRulesUptoRow, standIns := [], harness := (true, "016fce6a172afffffbb81b83ca46a63d76c7f9fbade96fc59f57603a1ebf8760"), looks := true }, kinds := [], alts := [], laidByText := true, laidKinds := [.data, .pinned], laidTests := true, laidLooks := .later }
def AcceptRulesUptoCardSaid : Prop := Claim7.holds Tryd.pinned (.plain (OpenSpec.upto acceptRulesSpec)) acceptRulesUptoCard

/-- THE SECOND FORM's CARD OF 'concertinalaw20.AcceptCase'. -/
def acceptCaseUptoCard : Claim7 := { stood := { row := acceptCaseUptoRow, standIns := [], harness := (true, "016fce6a172afffffbb81b83ca46a63d76c7f9fbade96fc59f57603a1ebf8760"), looks := true }, kinds := [], alts := [], laidByText := true, laidKinds := [.data, .pinned], laidTests := true, laidLooks := .later }
def AcceptCaseUptoCardSaid : Prop := Claim7.holds Tryd.pinned (.plain (OpenSpec.upto acceptCaseSpec)) acceptCaseUptoCard

/-- THE SECOND FORM's CARD OF 'concertinalaw23.EditTwice'. -/
def editTwiceUptoCard : Claim7 := { stood := { row := editTwiceUptoRow, standIns := [], harness := (true, "016fce6a172afffffbb81b83ca46a63d76c7f9fbade96fc59f57603a1ebf8760"), looks := true }, kinds := [], alts := [], laidByText := true, laidKinds := [.data, .pinned], laidTests := true, laidLooks := .later }
def EditTwiceUptoCardSaid : Prop := Claim7.holds Tryd.pinned (.plain (OpenSpec.upto editTwiceSpec)) editTwiceUptoCard

/-- THE SECOND FORM's CARD OF 'concertinalaw23.EditOwn'. -/
def editOwnUptoCard : Claim7 := { stood := { row := editOwnUptoRow, standIns := [], harness := (true, "016fce6a172afffffbb81b83ca46a63d76c7f9fbade96fc59f57603a1ebf8760"), looks := true }, kinds := [], alts := [], laidByText := true, laidKinds := [.data, .data, .data, .data, .pinned], laidTests := true, laidLooks := .later }
def EditOwnUptoCardSaid : Prop := Claim7.holds Tryd.pinned (.plain (OpenSpec.upto editOwnSpec)) editOwnUptoCard

/-- THE SECOND FORM's CARD OF 'concertinalaw21.PolicyTells'. -/
def policyTellsUptoCard : Claim7 := { stood := { row := policyTellsUptoRow, standIns := [], harness := (true, "016fce6a172afffffbb81b83ca46a63d76c7f9fbade96fc59f57603a1ebf8760"), looks := true }, kinds := [], alts := [], laidByText := true, laidKinds := [.data, .data, .data, .data, .sentinel, .sentinel, .pinned], laidTests := true, laidLooks := .later }
def PolicyTellsUptoCardSaid : Prop := Claim7.holds Tryd.pinned (.plain (OpenSpec.upto policyTellsSpec)) policyTellsUptoCard

/-- THE SECOND FORM's CARD OF 'concertinalaw21.PolicyKept'. -/
def policyKeptUptoCard : Claim7 := { stood := { row := policyKeptUptoRow, standIns := [], harness := (true, "016fce6a172afffffbb81b83ca46a63d76c7f9fbade96fc59f57603a1ebf8760"), looks := true }, kinds := [], alts := [], laidByText := true, laidKinds := [.data, .data, .data, .data, .sentinel, .sentinel, .pinned], laidTests := true, laidLooks := .later }
def PolicyKeptUptoCardSaid : Prop := Claim7.holds Tryd.pinned (.plain (OpenSpec.upto policyKeptSpec)) policyKeptUptoCard

/-- THE SECOND FORM's CARD OF 'concertinalaw21.PolicySize'. -/
def policySizeUptoCard : Claim7 := { stood := { row := policySizeUptoRow, standIns := [], harness := (true, "016fce6a172afffffbb81b83ca46a63d76c7f9fbade96fc59f57603a1ebf8760"), looks := true }, kinds := [], alts := [], laidByText := true, laidKinds := [.data, .data, .data, .data, .sentinel, .sentinel, .pinned], laidTests := true, laidLooks := .later }
def PolicySizeUptoCardSaid : Prop := Claim7.holds Tryd.pinned (.plain (OpenSpec.upto policySizeSpec)) policySizeUptoCard
end Rows
end Go.Proofs.YtgdjlmpfjmakkaaDoor
