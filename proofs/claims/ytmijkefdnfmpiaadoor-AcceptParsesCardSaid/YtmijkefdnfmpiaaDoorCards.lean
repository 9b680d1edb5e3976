/-
  DERIVED. GIVEN WITH THE SEED: THE CARDS: each row of YtmijkefdnfmpiaaDoorRows.lean that lists a variable, with what it lists TIED to the program's text (the seventh form; the later family's looks); each row that meets fmt, with fmt's text TOLD by the authors' own Lean function (tested against real Go, not proved from fmt's source: count such statements apart). THE CARD IS WHAT COUNTS. Prove the row's statement (the work); the ties are given (YtmijkefdnfmpiaaDoorTie.lean); close each card by the builder's one call (the guide's Derived/Test/ToyasCard.lean, 'card_holds'). Laid BY PROGRAM, IN A SANDBOX (cutbox-door.mjs). By AI agents, Wed Nov 11 2026. No macro, syntax, notation, axiom, sorry.
-/
import Derived.Test.YtmijkefdnfmpiaaDoorRows
import GoSem.ClaimSeven
namespace Go.Proofs.YtmijkefdnfmpiaaDoor
namespace Rows

/-- THE TIED CARD OF 'concertinalaw16.FieldSplits'. -/
def fieldSplitsCard : Claim7 := { stood := { row := fieldSplitsRow, standIns := [], harness := (true, "ae49e39bbf41884ecd703df35edf94b036bc789a66ab11ec18b0a25f8c3635af"), looks := false }, kinds := [], alts := [], laidByText := true, laidKinds := [.data, .pinned], laidTests := true, laidLooks := .later }
def FieldSplitsCardSaid : Prop := Claim7.holds Tryd.pinned (.plain (OpenSpec.ofChange fieldSplitsSpec)) fieldSplitsCard

/-- THE TIED CARD OF 'concertinalaw16.FieldJoins'. -/
def fieldJoinsCard : Claim7 := { stood := { row := fieldJoinsRow, standIns := [], harness := (true, "ae49e39bbf41884ecd703df35edf94b036bc789a66ab11ec18b0a25f8c3635af"), looks := false }, kinds := [], alts := [], laidByText := true, laidKinds := [.data, .pinned], laidTests := true, laidLooks := .later }
def FieldJoinsCardSaid : Prop := Claim7.holds Tryd.pinned (.plain (OpenSpec.ofChange fieldJoinsSpec)) fieldJoinsCard

/-- THE TIED CARD OF 'concertinalaw19.FrameLengths'. -/
def frameLengthsCard : Claim7 := { stood := { row := frameLengthsRow, standIns := [], harness := (true, "ae49e39bbf41884ecd703df35edf94b036bc789a66ab11ec18b0a25f8c3635af"), looks := false }, kinds := [], alts := [], laidByText := true, laidKinds := [.data, .pinned], laidTests := true, laidLooks := .later }
def FrameLengthsCardSaid : Prop := Claim7.holds Tryd.pinned (.plain (OpenSpec.ofChange frameLengthsSpec)) frameLengthsCard

/-- THE TIED CARD OF 'concertinalaw16.FieldGoods'. -/
def fieldGoodsCard : Claim7 := { stood := { row := fieldGoodsRow, standIns := [], harness := (true, "ae49e39bbf41884ecd703df35edf94b036bc789a66ab11ec18b0a25f8c3635af"), looks := false }, kinds := [], alts := [], laidByText := true, laidKinds := [.data, .pinned], laidTests := true, laidLooks := .later }
def FieldGoodsCardSaid : Prop := Claim7.holds Tryd.pinned (.plain (OpenSpec.ofChange fieldGoodsSpec)) fieldGoodsCard

/-- THE TIED CARD OF 'concertinalaw19.FrameTells'. -/
def frameTellsCard : Claim7 := { stood := { row := frameTellsRow, standIns := [], harness := (true, "ae49e39bbf41884ecd703df35edf94b036bc789a66ab11ec18b0a25f8c3635af"), looks := false }, kinds := [], alts := [], laidByText := true, laidKinds := [.data, .pinned], laidTests := true, laidLooks := .later }
def FrameTellsCardSaid : Prop := Claim7.holds Tryd.pinned (.plain (OpenSpec.ofChange frameTellsSpec)) frameTellsCard

/-- THE TIED CARD OF 'concertinalaw19.FrameSmuggles'. -/
def frameSmugglesCard : Claim7 := { stood := { row := frameSmugglesRow, standIns := [], harness := (true, "ae49e39bbf41884ecd703df35edf94b036bc789a66ab11ec18b0a25f8c3635af"), looks := false }, kinds := [], alts := [], laidByText := true, laidKinds := [.data, .pinned], laidTests := true, laidLooks := .later }
def FrameSmugglesCardSaid : Prop := Claim7.holds Tryd.pinned (.plain (OpenSpec.ofChange frameSmugglesSpec)) frameSmugglesCard

/-- THE TIED CARD OF 'concertinalaw16.FieldHas'. -/
def fieldHasCard : Claim7 := { stood := { row := fieldHasRow, standIns := [], harness := (true, "ae49e39bbf41884ecd703df35edf94b036bc789a66ab11ec18b0a25f8c3635af"), looks := false }, kinds := [], alts := [], laidByText := true, laidKinds := [.data, .pinned], laidTests := true, laidLooks := .later }
def FieldHasCardSaid : Prop := Claim7.holds Tryd.pinned (.plain (OpenSpec.ofChange fieldHasSpec)) fieldHasCard

/-- THE TIED CARD OF 'concertinalaw16.FieldLists'. -/
def fieldListsCard : Claim7 := { stood := { row := fieldListsRow, standIns := [], harness := (true, "ae49e39bbf41884ecd703df35edf94b036bc789a66ab11ec18b0a25f8c3635af"), looks := false }, kinds := [], alts := [], laidByText := true, laidKinds := [.data, .pinned], laidTests := true, laidLooks := .later }
def FieldListsCardSaid : Prop := Claim7.holds Tryd.pinned (.plain (OpenSpec.ofChange fieldListsSpec)) fieldListsCard

/-- THE TIED CARD OF 'concertinalaw20.AcceptParses'. -/
def acceptParsesCard : Claim7 := { stood := { row := acceptParsesRow, standIns := [], harness := (true, "ae49e39bbf41884ecd703df35edf94b036bc789a66ab11ec18b0a25f8c3635af"), looks := false }, kinds := [], alts := [], laidByText := true, laidKinds := [.data, .pinned], laidTests := true, laidLooks := .later }
def AcceptParsesCardSaid : Prop := Claim7.holds Tryd.pinned (.plain (OpenSpec.ofChange acceptParsesSpec)) acceptParsesCard

/-- THE TIED CARD OF 'concertinalaw20.AcceptWeights'. -/
def acceptWeightsCard : Claim7 := { stood := { row := acceptWeightsRow, standIns := [], harness := (true, "ae49e39bbf41884ecd703df35edf94b036bc789a66ab11ec18b0a25f8c3635af"), looks := false }, kinds := [], alts := [], laidByText := true, laidKinds := [.data, .pinned], laidTests := true, laidLooks := .later }
def AcceptWeightsCardSaid : Prop := Claim7.holds Tryd.pinned (.plain (OpenSpec.ofChange acceptWeightsSpec)) acceptWeightsCard

/-- THE TIED CARD OF 'concertinalaw20.AcceptRules'. -/
def acceptRulesCard : Claim7 := { stood := { row := acceptRulesRow, standIns := [], harness := (true, "ae49e39bbf41884ecd703df35edf94b036bc789a66ab11ec18b0a25f8c3635af"), looks := false }, kinds := [], alts := [], laidByText := true, laidKinds := [.data, .pinned], laidTests := true, laidLooks := .later }
def AcceptRulesCardSaid : Prop := Claim7.holds Tryd.pinned (.plain (OpenSpec.ofChange acceptRulesSpec)) acceptRulesCard

/-- THE TIED CARD OF 'concertinalaw20.AcceptCase'. -/
def acceptCaseCard : Claim7 := { stood := { row := acceptCaseRow, standIns := [], harness := (true, "ae49e39bbf41884ecd703df35edf94b036bc789a66ab11ec18b0a25f8c3635af"), looks := false }, kinds := [], alts := [], laidByText := true, laidKinds := [.data, .pinned], laidTests := true, laidLooks := .later }
def AcceptCaseCardSaid : Prop := Claim7.holds Tryd.pinned (.plain (OpenSpec.ofChange acceptCaseSpec)) acceptCaseCard

/-- THE SECOND FORM's CARD OF 'concertinalaw16.FieldSplits'. -/
def fieldSplitsUptoCard : Claim7 := { stood := { row := fieldSplitsUptoRow, standIns := [], harness := (true, "ae49e39bbf41884ecd703df35edf94b036bc789a66ab11ec18b0a25f8c3635af"), looks := false }, kinds := [], alts := [], laidByText := true, laidKinds := [.data, .pinned], laidTests := true, laidLooks := .later }
def FieldSplitsUptoCardSaid : Prop := Claim7.holds Tryd.pinned (.plain (OpenSpec.upto fieldSplitsSpec)) fieldSplitsUptoCard

/-- THE SECOND FORM's CARD OF 'concertinalaw16.FieldJoins'. -/
def fieldJoinsUptoCard : Claim7 := { stood := { row := fieldJoinsUptoRow, standIns := [], harness := (true, "ae49e39bbf41884ecd703df35edf94b036bc789a66ab11ec18b0a25f8c3635af"), looks := false }, kinds := [], alts := [], laidByText := true, laidKinds := [.data, .pinned], laidTests := true, laidLooks := .later }
def FieldJoinsUptoCardSaid : Prop := Claim7.holds Tryd.pinned (.plain (OpenSpec.upto fieldJoinsSpec)) fieldJoinsUptoCard

/-- THE SECOND FORM's CARD OF 'concertinalaw19.FrameLengths'. -/
def frameLengthsUptoCard : Claim7 := { stood := { row := frameLengthsUptoRow, standIns := [], harness := (true, "ae49e39bbf41884ecd703df35edf94b036bc789a66ab11ec18b0a25f8c3635af"), looks := false }, kinds := [], alts := [], laidByText := true, laidKinds := [.data, .pinned], laidTests := true, laidLooks := .later }
def FrameLengthsUptoCardSaid : Prop := Claim7.holds Tryd.pinned (.plain (OpenSpec.upto frameLengthsSpec)) frameLengthsUptoCard

/-- THE SECOND FORM's CARD OF 'concertinalaw16.FieldGoods'. -/
def fieldGoodsUptoCard : Claim7 := { stood := { row := fieldGoodsUptoRow, standIns := [], harness := (true, "ae49e39bbf41884ecd703df35edf94b036bc789a66ab11ec18b0a25f8c3635af"), looks := false }, kinds := [], alts := [], laidByText := true, laidKinds := [.data, .pinned], laidTests := true, laidLooks := .later }
def FieldGoodsUptoCardSaid : Prop := Claim7.holds Tryd.pinned (.plain (OpenSpec.upto fieldGoodsSpec)) fieldGoodsUptoCard

/-- THE SECOND FORM's CARD OF 'concertinalaw19.FrameTells'. -/
def frameTellsUptoCard : Claim7 := { stood := { row := frameTellsUptoRow, standIns := [], harness := (true, "ae49e39bbf41884ecd703df35edf94b036bc789a66ab11ec18b0a25f8c3635af"), looks := false }, kinds := [], alts := [], laidByText := true, laidKinds := [.data, .pinned], laidTests := true, laidLooks := .later }
def FrameTellsUptoCardSaid : Prop := Claim7.holds Tryd.pinned (.plain (OpenSpec.upto frameTellsSpec)) frameTellsUptoCard

/-- THE SECOND FORM's CARD OF 'concertinalaw19.FrameSmuggles'. -/
def frameSmugglesUptoCard : Claim7 := { stood := { row := frameSmugglesUptoRow, standIns := [], harness := (true, "ae49e39bbf41884ecd703df35edf94b036bc789a66ab11ec18b0a25f8c3635af"), looks := false }, kinds := [], alts := [], laidByText := true, laidKinds := [.data, .pinned], laidTests := true, laidLooks := .later }
def FrameSmugglesUptoCardSaid : Prop := Claim7.holds Tryd.pinned (.plain (OpenSpec.upto frameSmugglesSpec)) frameSmugglesUptoCard

/-- THE SECOND FORM's CARD OF 'concertinalaw16.FieldHas'. -/
def fieldHasUptoCard : Claim7 := { stood := { row := fieldHasUptoRow, standIns := [], harness := (true, "ae49e39bbf41884ecd703df35edf94b036bc789a66ab11ec18b0a25f8c3635af"), looks := false }, kinds := [], alts := [], laidByText := true, laidKinds := [.data, .pinned], laidTests := true, laidLooks := .later }
def FieldHasUptoCardSaid : Prop := Claim7.holds Tryd.pinned (.plain (OpenSpec.upto fieldHasSpec)) fieldHasUptoCard

/-- THE SECOND FORM's CARD OF 'concertinalaw16.FieldLists'. -/
def fieldListsUptoCard : Claim7 := { stood := { row := fieldListsUptoRow, standIns := [], harness := (true, "ae49e39bbf41884ecd703df35edf94b036bc789a66ab11ec18b0a25f8c3635af"), looks := false }, kinds := [], alts := [], laidByText := true, laidKinds := [.data, .pinned], laidTests := true, laidLooks := .later }
def FieldListsUptoCardSaid : Prop := Claim7.holds Tryd.pinned (.plain (OpenSpec.upto fieldListsSpec)) fieldListsUptoCard

/-- THE SECOND FORM's CARD OF 'concertinalaw20.AcceptParses'. -/
def acceptParsesUptoCard : Claim7 := { stood := { row := acceptParsesUptoRow, standIns := [], harness := (true, "ae49e39bbf41884ecd703df35edf94b036bc789a66ab11ec18b0a25f8c3635af"), looks := false }, kinds := [], alts := [], laidByText := true, laidKinds := [.data, .pinned], laidTests := true, laidLooks := .later }
def AcceptParsesUptoCardSaid : Prop := Claim7.holds Tryd.pinned (.plain (OpenSpec.upto acceptParsesSpec)) acceptParsesUptoCard

/-- THE SECOND FORM's CARD OF 'concertinalaw20.AcceptWeights'. -/
def acceptWeightsUptoCard : Claim7 := { stood := { row := acceptWeightsUptoRow, standIns := [], harness := (true, "ae49e39bbf41884ecd703df35edf94b036bc789a66ab11ec18b0a25f8c3635af"), looks := false }, kinds := [], alts := [], laidByText := true, laidKinds := [.data, .pinned], laidTests := true, laidLooks := .later }
def AcceptWeightsUptoCardSaid : Prop := Claim7.holds Tryd.pinned (.plain (OpenSpec.upto acceptWeightsSpec)) acceptWeightsUptoCard

/-- THE SECOND FORM's CARD OF 'concertinalaw20.AcceptRules'. -/
def acceptRulesUptoCard : Claim7 := { stood := { row := acceptRulesUptoRow, standIns := [], harness := (true, "ae49e39bbf41884ecd703df35edf94b036bc789a66ab11ec18b0a25f8c3635af"), looks := false }, kinds := [], alts := [], laidByText := true, laidKinds := [.data, .pinned], laidTests := true, laidLooks := .later }
def AcceptRulesUptoCardSaid : Prop := Claim7.holds Tryd.pinned (.plain (OpenSpec.upto acceptRulesSpec)) acceptRulesUptoCard

/-- THE SECOND FORM's CARD OF 'concertinalaw20.AcceptCase'. -/
def acceptCaseUptoCard : Claim7 := { stood := { row := acceptCaseUptoRow, standIns := [], harness := (true, "ae49e39bbf41884ecd703df35edf94b036bc789a66ab11ec18b0a25f8c3635af"), looks := false }, kinds := [], alts := [], laidByText := true, laidKinds := [.data, .pinned], laidTests := true, laidLooks := .later }
def AcceptCaseUptoCardSaid : Prop := Claim7.holds Tryd.pinned (.plain (OpenSpec.upto acceptCaseSpec)) acceptCaseUptoCard
end Rows
end Go.Proofs.YtmijkefdnfmpiaaDoor
