/-
  NARROWER THAN 'FOR EVERY INPUT', by the rows' own cells (each row's printed sentence says how): FieldSplits: laid · FieldJoins: laid · FrameLengths: laid · FieldGoods: laid · FrameTells: laid · FrameSmuggles: laid · FieldHas: laid · FieldLists: laid · AcceptParses: laid · AcceptWeights: laid · AcceptRules: laid · AcceptCase: laid.
  DERIVED. THE GIVEN ROWS OF THIS SEAT. 12 by the template 'for every input the law returns true; each argument reads behind the call as it read before'; 0 by the template 'total and deterministic' (their statements: YtmijkefdnfmpiaaDoorTotals.lean).
  GIVEN WITH THE SEED: the statements are not yours to turn. If you find one false, say at which input.
  Laid BY PROGRAM, IN A SANDBOX (cutbox-rows.mjs): the forced cells as the released guide's own fill.sh prints them over the translation fd472bb3ff034288… (all of the seat's roots in one cut). By AI agents, Wed Nov 11 2026. No macro, syntax, notation, axiom, sorry.
-/
import Derived.Test.YtmijkefdnfmpiaaDoorChecked
import GoSem.PinnedTables
import GoSem.Claim
import GoSem.ClaimJoined
import GoSem.ClaimMapViews
import Derived.JoinedTies
import Derived.KernelRfl
namespace Go.Proofs.YtmijkefdnfmpiaaDoor
/- THE CELL 'sum', in the pinned program and in every row, IS THE sha256 OF THE DUMP (.gsa) THAT YtmijkefdnfmpiaaDoorProg.lean LOADS. Nothing in Lean hashes anything: it is a label: what it is worth is what the hold of that sum in a sandbox is worth. -/
noncomputable def Tryd.pinned : Pinned := { name := "ytmijkefdnfmpiaadoor", sum := "fd472bb3ff03428861c6d0ebc32af8d4d6dc11d9cbd40de2aab582aa1881f13a", checked := Tryd.checked }
namespace Rows
def none {H : Type} : Left H := { results := [], args := [] }

/- WHAT THE LISTED PACKAGE-LEVEL VARIABLES READ AS WHEN THE CALL BEGINS. Each datum BY PROGRAM (the guide's laid-datum.mjs) off the statement by which the dump's own 'gosem.cut.vars' lays the variable. In a bare row this is a premise. The card (YtmijkefdnfmpiaaDoorCards.lean) ties it to the program's text. -/
def laid_unicode_utf8_acceptRanges {H : Type} : DataW H := .agg [.agg [.lit (.int .u8 128), .lit (.int .u8 191)], .agg [.lit (.int .u8 160), .lit (.int .u8 191)], .agg [.lit (.int .u8 128), .lit (.int .u8 159)], .agg [.lit (.int .u8 144), .lit (.int .u8 191)], .agg [.lit (.int .u8 128), .lit (.int .u8 143)], .agg [.lit (.int .u8 0), .lit (.int .u8 0)], .agg [.lit (.int .u8 0), .lit (.int .u8 0)], .agg [.lit (.int .u8 0), .lit (.int .u8 0)], .agg [.lit (.int .u8 0), .lit (.int .u8 0)], .agg [.lit (.int .u8 0), .lit (.int .u8 0)], .agg [.lit (.int .u8 0), .lit (.int .u8 0)], .agg [.lit (.int .u8 0), .lit (.int .u8 0)], .agg [.lit (.int .u8 0), .lit (.int .u8 0)], .agg [.lit (.int .u8 0), .lit (.int .u8 0)], .agg [.lit (.int .u8 0), .lit (.int .u8 0)], .agg [.lit (.int .u8 0), .lit (.int .u8 0)]]
/-- One of Go's own tables, pinned by name: the form's constant. -/
def laid_unicode_utf8_first : DataW Unit := Go.Pinned.utf8First

/-- 'concertinalaw16.FieldSplits': WHATEVER THE INPUT: true; the input reads as it did. -/
def fieldSplitsSpec : ChangeSpec := { name := "fieldSplits", fn := fun _ => fun
  | [d] => { results := [.lit (.bool true)], args := [d] }
  | _ => none }
def fieldSplitsRow : OpenClaim := { program := "ytmijkefdnfmpiaadoor", sum := "fd472bb3ff03428861c6d0ebc32af8d4d6dc11d9cbd40de2aab582aa1881f13a", func := "concertina/concertinalaw16.FieldSplits", spec := "fieldSplits", inPlace := ["internal/bytealg.IndexByteString", "internal/bytealg.IndexString"], named := ["unicode/utf8.first", "unicode/utf8.acceptRanges", "internal/bytealg.MaxLen"], apart := false, laid := [("unicode/utf8.acceptRanges", laid_unicode_utf8_acceptRanges), ("unicode/utf8.first", laid_unicode_utf8_first)] }
def FieldSplitsSaid : Prop := fieldSplitsRow.holds Tryd.pinned (OpenSpec.ofChange fieldSplitsSpec)

/-- ITS FALSE NEIGHBOUR: 'it returns false'. Refute it at one input. -/
def fieldSplitsWrong : ChangeSpec := { name := "fieldSplits", fn := fun _ => fun
  | [d] => { results := [.lit (.bool false)], args := [d] }
  | _ => none }
def FieldSplitsWrongFalsely : Prop := fieldSplitsRow.holds Tryd.pinned (OpenSpec.ofChange fieldSplitsWrong)

/-- 'concertinalaw16.FieldJoins': WHATEVER THE INPUT: true; the input reads as it did. -/
def fieldJoinsSpec : ChangeSpec := { name := "fieldJoins", fn := fun _ => fun
  | [d1, d2] => { results := [.lit (.bool true)], args := [d1, d2] }
  | _ => none }
def fieldJoinsRow : OpenClaim := { program := "ytmijkefdnfmpiaadoor", sum := "fd472bb3ff03428861c6d0ebc32af8d4d6dc11d9cbd40de2aab582aa1881f13a", func := "concertina/concertinalaw16.FieldJoins", spec := "fieldJoins", inPlace := ["internal/bytealg.IndexByteString", "internal/bytealg.IndexString"], named := ["unicode/utf8.first", "unicode/utf8.acceptRanges", "internal/bytealg.MaxLen"], apart := false, laid := [("unicode/utf8.acceptRanges", laid_unicode_utf8_acceptRanges), ("unicode/utf8.first", laid_unicode_utf8_first)] }
def FieldJoinsSaid : Prop := fieldJoinsRow.holds Tryd.pinned (OpenSpec.ofChange fieldJoinsSpec)

/-- ITS FALSE NEIGHBOUR: 'it returns false'. Refute it at one input. -/
def fieldJoinsWrong : ChangeSpec := { name := "fieldJoins", fn := fun _ => fun
  | [d1, d2] => { results := [.lit (.bool false)], args := [d1, d2] }
  | _ => none }
def FieldJoinsWrongFalsely : Prop := fieldJoinsRow.holds Tryd.pinned (OpenSpec.ofChange fieldJoinsWrong)

/-- 'concertinalaw19.FrameLengths': WHATEVER THE INPUT: true; the input reads as it did. -/
def frameLengthsSpec : ChangeSpec := { name := "frameLengths", fn := fun _ => fun
  | [d1, d2, d3] => { results := [.lit (.bool true)], args := [d1, d2, d3] }
  | _ => none }
def frameLengthsRow : OpenClaim := { program := "ytmijkefdnfmpiaadoor", sum := "fd472bb3ff03428861c6d0ebc32af8d4d6dc11d9cbd40de2aab582aa1881f13a", func := "concertina/concertinalaw19.FrameLengths", spec := "frameLengths", inPlace := ["internal/bytealg.IndexByteString", "internal/bytealg.IndexString"], named := ["unicode/utf8.first", "unicode/utf8.acceptRanges", "internal/bytealg.MaxLen"], apart := false, laid := [("unicode/utf8.acceptRanges", laid_unicode_utf8_acceptRanges), ("unicode/utf8.first", laid_unicode_utf8_first)] }
def FrameLengthsSaid : Prop := frameLengthsRow.holds Tryd.pinned (OpenSpec.ofChange frameLengthsSpec)

/-- ITS FALSE NEIGHBOUR: 'it returns false'. Refute it at one input. -/
def frameLengthsWrong : ChangeSpec := { name := "frameLengths", fn := fun _ => fun
  | [d1, d2, d3] => { results := [.lit (.bool false)], args := [d1, d2, d3] }
  | _ => none }
def FrameLengthsWrongFalsely : Prop := frameLengthsRow.holds Tryd.pinned (OpenSpec.ofChange frameLengthsWrong)

/-- 'concertinalaw16.FieldGoods': WHATEVER THE INPUT: true; the input reads as it did. -/
def fieldGoodsSpec : ChangeSpec := { name := "fieldGoods", fn := fun _ => fun
  | [d1, d2] => { results := [.lit (.bool true)], args := [d1, d2] }
  | _ => none }
def fieldGoodsRow : OpenClaim := { program := "ytmijkefdnfmpiaadoor", sum := "fd472bb3ff03428861c6d0ebc32af8d4d6dc11d9cbd40de2aab582aa1881f13a", func := "concertina/concertinalaw16.FieldGoods", spec := "fieldGoods", inPlace := ["internal/bytealg.IndexByteString", "internal/bytealg.IndexString"], named := ["unicode/utf8.first", "unicode/utf8.acceptRanges", "internal/bytealg.MaxLen"], apart := false, laid := [("unicode/utf8.acceptRanges", laid_unicode_utf8_acceptRanges), ("unicode/utf8.first", laid_unicode_utf8_first)] }
def FieldGoodsSaid : Prop := fieldGoodsRow.holds Tryd.pinned (OpenSpec.ofChange fieldGoodsSpec)

/-- ITS FALSE NEIGHBOUR: 'it returns false'. Refute it at one input. -/
def fieldGoodsWrong : ChangeSpec := { name := "fieldGoods", fn := fun _ => fun
  | [d1, d2] => { results := [.lit (.bool false)], args := [d1, d2] }
  | _ => none }
def FieldGoodsWrongFalsely : Prop := fieldGoodsRow.holds Tryd.pinned (OpenSpec.ofChange fieldGoodsWrong)

/-- 'concertinalaw19.FrameTells': WHATEVER THE INPUT: true; the input reads as it did. -/
def frameTellsSpec : ChangeSpec := { name := "frameTells", fn := fun _ => fun
  | [d1, d2, d3] => { results := [.lit (.bool true)], args := [d1, d2, d3] }
  | _ => none }
def frameTellsRow : OpenClaim := { program := "ytmijkefdnfmpiaadoor", sum := "fd472bb3ff03428861c6d0ebc32af8d4d6dc11d9cbd40de2aab582aa1881f13a", func := "concertina/concertinalaw19.FrameTells", spec := "frameTells", inPlace := ["internal/bytealg.IndexByteString", "internal/bytealg.IndexString"], named := ["unicode/utf8.first", "unicode/utf8.acceptRanges", "internal/bytealg.MaxLen"], apart := false, laid := [("unicode/utf8.acceptRanges", laid_unicode_utf8_acceptRanges), ("unicode/utf8.first", laid_unicode_utf8_first)] }
def FrameTellsSaid : Prop := frameTellsRow.holds Tryd.pinned (OpenSpec.ofChange frameTellsSpec)

/-- ITS FALSE NEIGHBOUR: 'it returns false'. Refute it at one input. -/
def frameTellsWrong : ChangeSpec := { name := "frameTells", fn := fun _ => fun
  | [d1, d2, d3] => { results := [.lit (.bool false)], args := [d1, d2, d3] }
  | _ => none }
def FrameTellsWrongFalsely : Prop := frameTellsRow.holds Tryd.pinned (OpenSpec.ofChange frameTellsWrong)

/-- 'concertinalaw19.FrameSmuggles': WHATEVER THE INPUT: true; the input reads as it did. -/
def frameSmugglesSpec : ChangeSpec := { name := "frameSmuggles", fn := fun _ => fun
  | [d1, d2, d3, d4] => { results := [.lit (.bool true)], args := [d1, d2, d3, d4] }
  | _ => none }
def frameSmugglesRow : OpenClaim := { program := "ytmijkefdnfmpiaadoor", sum := "fd472bb3ff03428861c6d0ebc32af8d4d6dc11d9cbd40de2aab582aa1881f13a", func := "concertina/concertinalaw19.FrameSmuggles", spec := "frameSmuggles", inPlace := ["internal/bytealg.IndexByteString", "internal/bytealg.IndexString"], named := ["unicode/utf8.first", "unicode/utf8.acceptRanges", "internal/bytealg.MaxLen"], apart := false, laid := [("unicode/utf8.acceptRanges", laid_unicode_utf8_acceptRanges), ("unicode/utf8.first", laid_unicode_utf8_first)] }
def FrameSmugglesSaid : Prop := frameSmugglesRow.holds Tryd.pinned (OpenSpec.ofChange frameSmugglesSpec)

/-- ITS FALSE NEIGHBOUR: 'it returns false'. Refute it at one input. -/
def frameSmugglesWrong : ChangeSpec := { name := "frameSmuggles", fn := fun _ => fun
  | [d1, d2, d3, d4] => { results := [.lit (.bool false)], args := [d1, d2, d3, d4] }
  | _ => none }
def FrameSmugglesWrongFalsely : Prop := frameSmugglesRow.holds Tryd.pinned (OpenSpec.ofChange frameSmugglesWrong)

/-- 'concertinalaw16.FieldHas': WHATEVER THE INPUT: true; the input reads as it did. -/
def fieldHasSpec : ChangeSpec := { name := "fieldHas", fn := fun _ => fun
  | [d1, d2, d3] => { results := [.lit (.bool true)], args := [d1, d2, d3] }
  | _ => none }
def fieldHasRow : OpenClaim := { program := "ytmijkefdnfmpiaadoor", sum := "fd472bb3ff03428861c6d0ebc32af8d4d6dc11d9cbd40de2aab582aa1881f13a", func := "concertina/concertinalaw16.FieldHas", spec := "fieldHas", inPlace := ["internal/bytealg.IndexByteString", "internal/bytealg.IndexString"], named := ["unicode/utf8.first", "unicode/utf8.acceptRanges", "internal/bytealg.MaxLen"], apart := false, laid := [("unicode/utf8.acceptRanges", laid_unicode_utf8_acceptRanges), ("unicode/utf8.first", laid_unicode_utf8_first)] }
def FieldHasSaid : Prop := fieldHasRow.holds Tryd.pinned (OpenSpec.ofChange fieldHasSpec)

/-- ITS FALSE NEIGHBOUR: 'it returns false'. Refute it at one input. -/
def fieldHasWrong : ChangeSpec := { name := "fieldHas", fn := fun _ => fun
  | [d1, d2, d3] => { results := [.lit (.bool false)], args := [d1, d2, d3] }
  | _ => none }
def FieldHasWrongFalsely : Prop := fieldHasRow.holds Tryd.pinned (OpenSpec.ofChange fieldHasWrong)

/-- 'concertinalaw16.FieldLists': WHATEVER THE INPUT: true; the input reads as it did. -/
def fieldListsSpec : ChangeSpec := { name := "fieldLists", fn := fun _ => fun
  | [d1, d2, d3] => { results := [.lit (.bool true)], args := [d1, d2, d3] }
  | _ => none }
def fieldListsRow : OpenClaim := { program := "ytmijkefdnfmpiaadoor", sum := "fd472bb3ff03428861c6d0ebc32af8d4d6dc11d9cbd40de2aab582aa1881f13a", func := "concertina/concertinalaw16.FieldLists", spec := "fieldLists", inPlace := ["internal/bytealg.IndexByteString", "internal/bytealg.IndexString"], unfollowed := true, recurses := true, named := ["unicode/utf8.first", "unicode/utf8.acceptRanges", "internal/bytealg.MaxLen"], apart := false, laid := [("unicode/utf8.acceptRanges", laid_unicode_utf8_acceptRanges), ("unicode/utf8.first", laid_unicode_utf8_first)] }
def FieldListsSaid : Prop := fieldListsRow.holds Tryd.pinned (OpenSpec.ofChange fieldListsSpec)

/-- ITS FALSE NEIGHBOUR: 'it returns false'. Refute it at one input. -/
def fieldListsWrong : ChangeSpec := { name := "fieldLists", fn := fun _ => fun
  | [d1, d2, d3] => { results := [.lit (.bool false)], args := [d1, d2, d3] }
  | _ => none }
def FieldListsWrongFalsely : Prop := fieldListsRow.holds Tryd.pinned (OpenSpec.ofChange fieldListsWrong)

/-- 'concertinalaw20.AcceptParses': WHATEVER THE INPUT: true; the input reads as it did. -/
def acceptParsesSpec : ChangeSpec := { name := "acceptParses", fn := fun _ => fun
  | [d] => { results := [.lit (.bool true)], args := [d] }
  | _ => none }
def acceptParsesRow : OpenClaim := { program := "ytmijkefdnfmpiaadoor", sum := "fd472bb3ff03428861c6d0ebc32af8d4d6dc11d9cbd40de2aab582aa1881f13a", func := "concertina/concertinalaw20.AcceptParses", spec := "acceptParses", inPlace := ["internal/bytealg.IndexByteString", "internal/bytealg.IndexString"], named := ["internal/bytealg.MaxLen", "unicode/utf8.first", "unicode/utf8.acceptRanges"], apart := false, laid := [("unicode/utf8.acceptRanges", laid_unicode_utf8_acceptRanges), ("unicode/utf8.first", laid_unicode_utf8_first)] }
def AcceptParsesSaid : Prop := acceptParsesRow.holds Tryd.pinned (OpenSpec.ofChange acceptParsesSpec)

/-- ITS FALSE NEIGHBOUR: 'it returns false'. Refute it at one input. -/
def acceptParsesWrong : ChangeSpec := { name := "acceptParses", fn := fun _ => fun
  | [d] => { results := [.lit (.bool false)], args := [d] }
  | _ => none }
def AcceptParsesWrongFalsely : Prop := acceptParsesRow.holds Tryd.pinned (OpenSpec.ofChange acceptParsesWrong)

/-- 'concertinalaw20.AcceptWeights': WHATEVER THE INPUT: true; the input reads as it did. -/
def acceptWeightsSpec : ChangeSpec := { name := "acceptWeights", fn := fun _ => fun
  | [d1, d2] => { results := [.lit (.bool true)], args := [d1, d2] }
  | _ => none }
def acceptWeightsRow : OpenClaim := { program := "ytmijkefdnfmpiaadoor", sum := "fd472bb3ff03428861c6d0ebc32af8d4d6dc11d9cbd40de2aab582aa1881f13a", func := "concertina/concertinalaw20.AcceptWeights", spec := "acceptWeights", inPlace := ["internal/bytealg.IndexByteString", "internal/bytealg.IndexString"], named := ["internal/bytealg.MaxLen", "unicode/utf8.first", "unicode/utf8.acceptRanges"], apart := false, laid := [("unicode/utf8.acceptRanges", laid_unicode_utf8_acceptRanges), ("unicode/utf8.first", laid_unicode_utf8_first)] }
def AcceptWeightsSaid : Prop := acceptWeightsRow.holds Tryd.pinned (OpenSpec.ofChange acceptWeightsSpec)

/-- ITS FALSE NEIGHBOUR: 'it returns false'. Refute it at one input. -/
def acceptWeightsWrong : ChangeSpec := { name := "acceptWeights", fn := fun _ => fun
  | [d1, d2] => { results := [.lit (.bool false)], args := [d1, d2] }
  | _ => none }
def AcceptWeightsWrongFalsely : Prop := acceptWeightsRow.holds Tryd.pinned (OpenSpec.ofChange acceptWeightsWrong)

/-- 'concertinalaw20.AcceptRules': WHATEVER THE INPUT: true; the input reads as it did. -/
def acceptRulesSpec : ChangeSpec := { name := "acceptRules", fn := fun _ => fun
  | [d1, d2, d3] => { results := [.lit (.bool true)], args := [d1, d2, d3] }
  | _ => none }
def acceptRulesRow : OpenClaim := { program := "ytmijkefdnfmpiaadoor", sum := "fd472bb3ff03428861c6d0ebc32af8d4d6dc11d9cbd40de2aab582aa1881f13a", func := "concertina/concertinalaw20.AcceptRules", spec := "acceptRules", inPlace := ["internal/bytealg.IndexByteString", "internal/bytealg.IndexString"], named := ["internal/bytealg.MaxLen", "unicode/utf8.first", "unicode/utf8.acceptRanges"], apart := false, laid := [("unicode/utf8.acceptRanges", laid_unicode_utf8_acceptRanges), ("unicode/utf8.first", laid_unicode_utf8_first)] }
def AcceptRulesSaid : Prop := acceptRulesRow.holds Tryd.pinned (OpenSpec.ofChange acceptRulesSpec)

/-- ITS FALSE NEIGHBOUR: 'it returns false'. Refute it at one input. -/
def acceptRulesWrong : ChangeSpec := { name := "acceptRules", fn := fun _ => fun
  | [d1, d2, d3] => { results := [.lit (.bool false)], args := [d1, d2, d3] }
  | _ => none }
def AcceptRulesWrongFalsely : Prop := acceptRulesRow.holds Tryd.pinned (OpenSpec.ofChange acceptRulesWrong)

/-- 'concertinalaw20.AcceptCase': WHATEVER THE INPUT: true; the input reads as it did. -/
def acceptCaseSpec : ChangeSpec := { name := "acceptCase", fn := fun _ => fun
  | [d1, d2] => { results := [.lit (.bool true)], args := [d1, d2] }
  | _ => none }
def acceptCaseRow : OpenClaim := { program := "ytmijkefdnfmpiaadoor", sum := "fd472bb3ff03428861c6d0ebc32af8d4d6dc11d9cbd40de2aab582aa1881f13a", func := "concertina/concertinalaw20.AcceptCase", spec := "acceptCase", inPlace := ["internal/bytealg.IndexByteString", "internal/bytealg.IndexString"], named := ["internal/bytealg.MaxLen", "unicode/utf8.first", "unicode/utf8.acceptRanges"], apart := false, laid := [("unicode/utf8.acceptRanges", laid_unicode_utf8_acceptRanges), ("unicode/utf8.first", laid_unicode_utf8_first)] }
def AcceptCaseSaid : Prop := acceptCaseRow.holds Tryd.pinned (OpenSpec.ofChange acceptCaseSpec)

/-- ITS FALSE NEIGHBOUR: 'it returns false'. Refute it at one input. -/
def acceptCaseWrong : ChangeSpec := { name := "acceptCase", fn := fun _ => fun
  | [d1, d2] => { results := [.lit (.bool false)], args := [d1, d2] }
  | _ => none }
def AcceptCaseWrongFalsely : Prop := acceptCaseRow.holds Tryd.pinned (OpenSpec.ofChange acceptCaseWrong)

/- THE SECOND FORM. 'bulk': how many values and letters a reading holds, each counted each time it is reached (what is shared counts as often as it is met; a slice's spare places count too). A statement '..UptoSaid' is the law's where the arguments, and the package variables that the reading takes, are together of bulk at most 1048576: NARROWER than '..Said'. Prove '..Said' where nothing that the law and all that it calls make is longer than what came in: it says more and counts as full. Else prove '..UptoSaid'. A law counts once. -/
mutual
def uptoBulk {H : Type} : DataW H → Nat
  | .lit (.string bytes) => bytes.length + 1
  | .lit _ => 1
  | .nil => 1
  | .ptr d => uptoBulk d + 1
  | .slice elems spare => uptoBulkAll elems + uptoBulkAll spare + 1
  | .agg parts => uptoBulkAll parts + 1
  | .iface _ d => uptoBulk d + 1
  | .map entries => uptoBulkEntries entries + 1
  | .held _ => 1
def uptoBulkAll {H : Type} : List (DataW H) → Nat
  | [] => 0
  | d :: r => uptoBulk d + uptoBulkAll r
def uptoBulkEntries {H : Type} : List (Lit × DataW H) → Nat
  | [] => 0
  | x :: r => uptoBulkEntry x + uptoBulkEntries r
def uptoBulkEntry {H : Type} : Lit × DataW H → Nat
  | (.string bytes, d) => bytes.length + uptoBulk d + 1
  | (_, d) => uptoBulk d + 1
 end
def uptoSmall : (H : Type) → List (DataW H) → Bool := fun _ ds => decide (uptoBulkAll ds ≤ 1048576)
def OpenSpec.upto (s : _root_.Go.ChangeSpec) : _root_.Go.OpenSpec := { _root_.Go.OpenSpec.ofChange s with cond := some uptoSmall }

/-- 'concertinalaw16.FieldSplits', WHERE WHAT IT READS IS OF BULK AT MOST 1048576: true; the input reads as it did. -/
def fieldSplitsUptoRow : OpenClaim := { program := "ytmijkefdnfmpiaadoor", sum := "fd472bb3ff03428861c6d0ebc32af8d4d6dc11d9cbd40de2aab582aa1881f13a", func := "concertina/concertinalaw16.FieldSplits", spec := "fieldSplits", inPlace := ["internal/bytealg.IndexByteString", "internal/bytealg.IndexString"], named := ["unicode/utf8.first", "unicode/utf8.acceptRanges", "internal/bytealg.MaxLen"], apart := false, laid := [("unicode/utf8.acceptRanges", laid_unicode_utf8_acceptRanges), ("unicode/utf8.first", laid_unicode_utf8_first)], narrowed := true }
def FieldSplitsUptoSaid : Prop := fieldSplitsUptoRow.holds Tryd.pinned (OpenSpec.upto fieldSplitsSpec)

/-- 'concertinalaw16.FieldJoins', WHERE WHAT IT READS IS OF BULK AT MOST 1048576: true; the input reads as it did. -/
def fieldJoinsUptoRow : OpenClaim := { program := "ytmijkefdnfmpiaadoor", sum := "fd472bb3ff03428861c6d0ebc32af8d4d6dc11d9cbd40de2aab582aa1881f13a", func := "concertina/concertinalaw16.FieldJoins", spec := "fieldJoins", inPlace := ["internal/bytealg.IndexByteString", "internal/bytealg.IndexString"], named := ["unicode/utf8.first", "unicode/utf8.acceptRanges", "internal/bytealg.MaxLen"], apart := false, laid := [("unicode/utf8.acceptRanges", laid_unicode_utf8_acceptRanges), ("unicode/utf8.first", laid_unicode_utf8_first)], narrowed := true }
def FieldJoinsUptoSaid : Prop := fieldJoinsUptoRow.holds Tryd.pinned (OpenSpec.upto fieldJoinsSpec)

/-- 'concertinalaw19.FrameLengths', WHERE WHAT IT READS IS OF BULK AT MOST 1048576: true; the input reads as it did. -/
def frameLengthsUptoRow : OpenClaim := { program := "ytmijkefdnfmpiaadoor", sum := "fd472bb3ff03428861c6d0ebc32af8d4d6dc11d9cbd40de2aab582aa1881f13a", func := "concertina/concertinalaw19.FrameLengths", spec := "frameLengths", inPlace := ["internal/bytealg.IndexByteString", "internal/bytealg.IndexString"], named := ["unicode/utf8.first", "unicode/utf8.acceptRanges", "internal/bytealg.MaxLen"], apart := false, laid := [("unicode/utf8.acceptRanges", laid_unicode_utf8_acceptRanges), ("unicode/utf8.first", laid_unicode_utf8_first)], narrowed := true }
def FrameLengthsUptoSaid : Prop := frameLengthsUptoRow.holds Tryd.pinned (OpenSpec.upto frameLengthsSpec)

/-- 'concertinalaw16.FieldGoods', WHERE WHAT IT READS IS OF BULK AT MOST 1048576: true; the input reads as it did. -/
def fieldGoodsUptoRow : OpenClaim := { program := "ytmijkefdnfmpiaadoor", sum := "fd472bb3ff03428861c6d0ebc32af8d4d6dc11d9cbd40de2aab582aa1881f13a", func := "concertina/concertinalaw16.FieldGoods", spec := "fieldGoods", inPlace := ["internal/bytealg.IndexByteString", "internal/bytealg.IndexString"], named := ["unicode/utf8.first", "unicode/utf8.acceptRanges", "internal/bytealg.MaxLen"], apart := false, laid := [("unicode/utf8.acceptRanges", laid_unicode_utf8_acceptRanges), ("unicode/utf8.first", laid_unicode_utf8_first)], narrowed := true }
def FieldGoodsUptoSaid : Prop := fieldGoodsUptoRow.holds Tryd.pinned (OpenSpec.upto fieldGoodsSpec)

/-- 'concertinalaw19.FrameTells', WHERE WHAT IT READS IS OF BULK AT MOST 1048576: true; the input reads as it did. -/
def frameTellsUptoRow : OpenClaim := { program := "ytmijkefdnfmpiaadoor", sum := "fd472bb3ff03428861c6d0ebc32af8d4d6dc11d9cbd40de2aab582aa1881f13a", func := "concertina/concertinalaw19.FrameTells", spec := "frameTells", inPlace := ["internal/bytealg.IndexByteString", "internal/bytealg.IndexString"], named := ["unicode/utf8.first", "unicode/utf8.acceptRanges", "internal/bytealg.MaxLen"], apart := false, laid := [("unicode/utf8.acceptRanges", laid_unicode_utf8_acceptRanges), ("unicode/utf8.first", laid_unicode_utf8_first)], narrowed := true }
def FrameTellsUptoSaid : Prop := frameTellsUptoRow.holds Tryd.pinned (OpenSpec.upto frameTellsSpec)

/-- 'concertinalaw19.FrameSmuggles', WHERE WHAT IT READS IS OF BULK AT MOST 1048576: true; the input reads as it did. -/
def frameSmugglesUptoRow : OpenClaim := { program := "ytmijkefdnfmpiaadoor", sum := "fd472bb3ff03428861c6d0ebc32af8d4d6dc11d9cbd40de2aab582aa1881f13a", func := "concertina/concertinalaw19.FrameSmuggles", spec := "frameSmuggles", inPlace := ["internal/bytealg.IndexByteString", "internal/bytealg.IndexString"], named := ["unicode/utf8.first", "unicode/utf8.acceptRanges", "internal/bytealg.MaxLen"], apart := false, laid := [("unicode/utf8.acceptRanges", laid_unicode_utf8_acceptRanges), ("unicode/utf8.first", laid_unicode_utf8_first)], narrowed := true }
def FrameSmugglesUptoSaid : Prop := frameSmugglesUptoRow.holds Tryd.pinned (OpenSpec.upto frameSmugglesSpec)

/-- 'concertinalaw16.FieldHas', WHERE WHAT IT READS IS OF BULK AT MOST 1048576: true; the input reads as it did. -/
def fieldHasUptoRow : OpenClaim := { program := "ytmijkefdnfmpiaadoor", sum := "fd472bb3ff03428861c6d0ebc32af8d4d6dc11d9cbd40de2aab582aa1881f13a", func := "concertina/concertinalaw16.FieldHas", spec := "fieldHas", inPlace := ["internal/bytealg.IndexByteString", "internal/bytealg.IndexString"], named := ["unicode/utf8.first", "unicode/utf8.acceptRanges", "internal/bytealg.MaxLen"], apart := false, laid := [("unicode/utf8.acceptRanges", laid_unicode_utf8_acceptRanges), ("unicode/utf8.first", laid_unicode_utf8_first)], narrowed := true }
def FieldHasUptoSaid : Prop := fieldHasUptoRow.holds Tryd.pinned (OpenSpec.upto fieldHasSpec)

/-- 'concertinalaw16.FieldLists', WHERE WHAT IT READS IS OF BULK AT MOST 1048576: true; the input reads as it did. -/
def fieldListsUptoRow : OpenClaim := { program := "ytmijkefdnfmpiaadoor", sum := "fd472bb3ff03428861c6d0ebc32af8d4d6dc11d9cbd40de2aab582aa1881f13a", func := "concertina/concertinalaw16.FieldLists", spec := "fieldLists", inPlace := ["internal/bytealg.IndexByteString", "internal/bytealg.IndexString"], unfollowed := true, recurses := true, named := ["unicode/utf8.first", "unicode/utf8.acceptRanges", "internal/bytealg.MaxLen"], apart := false, laid := [("unicode/utf8.acceptRanges", laid_unicode_utf8_acceptRanges), ("unicode/utf8.first", laid_unicode_utf8_first)], narrowed := true }
def FieldListsUptoSaid : Prop := fieldListsUptoRow.holds Tryd.pinned (OpenSpec.upto fieldListsSpec)

/-- 'concertinalaw20.AcceptParses', WHERE WHAT IT READS IS OF BULK AT MOST 1048576: true; the input reads as it did. -/
def acceptParsesUptoRow : OpenClaim := { program := "ytmijkefdnfmpiaadoor", sum := "fd472bb3ff03428861c6d0ebc32af8d4d6dc11d9cbd40de2aab582aa1881f13a", func := "concertina/concertinalaw20.AcceptParses", spec := "acceptParses", inPlace := ["internal/bytealg.IndexByteString", "internal/bytealg.IndexString"], named := ["internal/bytealg.MaxLen", "unicode/utf8.first", "unicode/utf8.acceptRanges"], apart := false, laid := [("unicode/utf8.acceptRanges", laid_unicode_utf8_acceptRanges), ("unicode/utf8.first", laid_unicode_utf8_first)], narrowed := true }
def AcceptParsesUptoSaid : Prop := acceptParsesUptoRow.holds Tryd.pinned (OpenSpec.upto acceptParsesSpec)

/-- 'concertinalaw20.AcceptWeights', WHERE WHAT IT READS IS OF BULK AT MOST 1048576: true; the input reads as it did. -/
def acceptWeightsUptoRow : OpenClaim := { program := "ytmijkefdnfmpiaadoor", sum := "fd472bb3ff03428861c6d0ebc32af8d4d6dc11d9cbd40de2aab582aa1881f13a", func := "concertina/concertinalaw20.AcceptWeights", spec := "acceptWeights", inPlace := ["internal/bytealg.IndexByteString", "internal/bytealg.IndexString"], named := ["internal/bytealg.MaxLen", "unicode/utf8.first", "unicode/utf8.acceptRanges"], apart := false, laid := [("unicode/utf8.acceptRanges", laid_unicode_utf8_acceptRanges), ("unicode/utf8.first", laid_unicode_utf8_first)], narrowed := true }
def AcceptWeightsUptoSaid : Prop := acceptWeightsUptoRow.holds Tryd.pinned (OpenSpec.upto acceptWeightsSpec)

/-- 'concertinalaw20.AcceptRules', WHERE WHAT IT READS IS OF BULK AT MOST 1048576: true; the input reads as it did. -/
def acceptRulesUptoRow : OpenClaim := { program := "ytmijkefdnfmpiaadoor", sum := "fd472bb3ff03428861c6d0ebc32af8d4d6dc11d9cbd40de2aab582aa1881f13a", func := "concertina/concertinalaw20.AcceptRules", spec := "acceptRules", inPlace := ["internal/bytealg.IndexByteString", "internal/bytealg.IndexString"], named := ["internal/bytealg.MaxLen", "unicode/utf8.first", "unicode/utf8.acceptRanges"], apart := false, laid := [("unicode/utf8.acceptRanges", laid_unicode_utf8_acceptRanges), ("unicode/utf8.first", laid_unicode_utf8_first)], narrowed := true }
def AcceptRulesUptoSaid : Prop := acceptRulesUptoRow.holds Tryd.pinned (OpenSpec.upto acceptRulesSpec)

/-- 'concertinalaw20.AcceptCase', WHERE WHAT IT READS IS OF BULK AT MOST 1048576: true; the input reads as it did. -/
def acceptCaseUptoRow : OpenClaim := { program := "ytmijkefdnfmpiaadoor", sum := "fd472bb3ff03428861c6d0ebc32af8d4d6dc11d9cbd40de2aab582aa1881f13a", func := "concertina/concertinalaw20.AcceptCase", spec := "acceptCase", inPlace := ["internal/bytealg.IndexByteString", "internal/bytealg.IndexString"], named := ["internal/bytealg.MaxLen", "unicode/utf8.first", "unicode/utf8.acceptRanges"], apart := false, laid := [("unicode/utf8.acceptRanges", laid_unicode_utf8_acceptRanges), ("unicode/utf8.first", laid_unicode_utf8_first)], narrowed := true }
def AcceptCaseUptoSaid : Prop := acceptCaseUptoRow.holds Tryd.pinned (OpenSpec.upto acceptCaseSpec)

end Rows
end Go.Proofs.YtmijkefdnfmpiaaDoor
