/-
  NARROWER THAN 'FOR EVERY INPUT', by the rows' own cells (each row's printed sentence says how): EditRequests: laid · EditHops: laid · EditResponses: laid · EditTells: laid · AcceptRules: laid · AcceptCase: laid · EditTwice: laid · EditOwn: laid · PolicyTells: laid · PolicyKept: laid · PolicySize: laid.
  DERIVED. THE GIVEN ROWS OF THIS SEAT. 11 by the template 'for every input the law returns true; each argument reads behind the call as it read before'; 0 by the template 'total and deterministic' (their statements: YtgdjlmpfjmakkaaDoorTotals.lean).
  GIVEN WITH THE SEED: the statements are not yours to turn. If you find one false, say at which input.
  Laid BY PROGRAM, IN A SANDBOX (cutbox-rows.mjs): the forced cells as the released guide's own fill.sh prints them over the translation bf1abee13d096285… (all of the seat's roots in one cut). By AI agents, Wed Nov 11 2026. No macro, syntax, notation, axiom, sorry.
-/
import Derived.Test.YtgdjlmpfjmakkaaDoorChecked
import GoSem.PinnedTables
import GoSem.Claim
import GoSem.ClaimJoined
import GoSem.ClaimMapViews
import Derived.JoinedTies
import Derived.KernelRfl
namespace Go.Proofs.YtgdjlmpfjmakkaaDoor
/- THE CELL 'sum', in the pinned program and in every row, IS THE sha256 OF THE DUMP (.gsa) THAT YtgdjlmpfjmakkaaDoorProg.lean LOADS. Nothing in Lean hashes anything: it is a label: what it is worth is what the hold of that sum in a sandbox is worth. -/
noncomputable def Tryd.pinned : Pinned := { name := "ytgdjlmpfjmakkaadoor", sum := "bf1abee13d0962857b14f413859ad572e81dee3a23786b709d6ba72636e57a42", checked := Tryd.checked }
namespace Rows
def none {H : Type} : Left H := { results := [], args := [] }

/- WHAT THE LISTED PACKAGE-LEVEL VARIABLES READ AS WHEN THE CALL BEGINS. Each datum BY PROGRAM (the guide's laid-datum.mjs) off the statement by which the dump's own 'gosem.cut.vars' lays the variable. In a bare row this is a premise. The card (YtgdjlmpfjmakkaaDoorCards.lean) ties it to the program's text. -/
def laid_unicode_utf8_acceptRanges {H : Type} : DataW H := .agg [.agg [.lit (.int .u8 128), .lit (.int .u8 191)], .agg [.lit (.int .u8 160), .lit (.int .u8 191)], .agg [.lit (.int .u8 128), .lit (.int .u8 159)], .agg [.lit (.int .u8 144), .lit (.int .u8 191)], .agg [.lit (.int .u8 128), .lit (.int .u8 143)], .agg [.lit (.int .u8 0), .lit (.int .u8 0)], .agg [.lit (.int .u8 0), .lit (.int .u8 0)], .agg [.lit (.int .u8 0), .lit (.int .u8 0)], .agg [.lit (.int .u8 0), .lit (.int .u8 0)], .agg [.lit (.int .u8 0), .lit (.int .u8 0)], .agg [.lit (.int .u8 0), .lit (.int .u8 0)], .agg [.lit (.int .u8 0), .lit (.int .u8 0)], .agg [.lit (.int .u8 0), .lit (.int .u8 0)], .agg [.lit (.int .u8 0), .lit (.int .u8 0)], .agg [.lit (.int .u8 0), .lit (.int .u8 0)], .agg [.lit (.int .u8 0), .lit (.int .u8 0)]]
/-- One of Go's own tables, pinned by name: the form's constant. -/
def laid_unicode_utf8_first : DataW Unit := Go.Pinned.utf8First
def laid_math_bits_deBruijn32tab {H : Type} : DataW H := .agg [.lit (.int .u8 0), .lit (.int .u8 1), .lit (.int .u8 28), .lit (.int .u8 2), .lit (.int .u8 29), .lit (.int .u8 14), .lit (.int .u8 24), .lit (.int .u8 3), .lit (.int .u8 30), .lit (.int .u8 22), .lit (.int .u8 20), .lit (.int .u8 15), .lit (.int .u8 25), .lit (.int .u8 17), .lit (.int .u8 4), .lit (.int .u8 8), .lit (.int .u8 31), .lit (.int .u8 27), .lit (.int .u8 13), .lit (.int .u8 23), .lit (.int .u8 21), .lit (.int .u8 19), .lit (.int .u8 16), .lit (.int .u8 7), .lit (.int .u8 26), .lit (.int .u8 12), .lit (.int .u8 18), .lit (.int .u8 6), .lit (.int .u8 11), .lit (.int .u8 5), .lit (.int .u8 10), .lit (.int .u8 9)]
def laid_math_bits_deBruijn64tab {H : Type} : DataW H := .agg [.lit (.int .u8 0), .lit (.int .u8 1), .lit (.int .u8 56), .lit (.int .u8 2), .lit (.int .u8 57), .lit (.int .u8 49), .lit (.int .u8 28), .lit (.int .u8 3), .lit (.int .u8 61), .lit (.int .u8 58), .lit (.int .u8 42), .lit (.int .u8 50), .lit (.int .u8 38), .lit (.int .u8 29), .lit (.int .u8 17), .lit (.int .u8 4), .lit (.int .u8 62), .lit (.int .u8 47), .lit (.int .u8 59), .lit (.int .u8 36), .lit (.int .u8 45), .lit (.int .u8 43), .lit (.int .u8 51), .lit (.int .u8 22), .lit (.int .u8 53), .lit (.int .u8 39), .lit (.int .u8 33), .lit (.int .u8 30), .lit (.int .u8 24), .lit (.int .u8 18), .lit (.int .u8 12), .lit (.int .u8 5), .lit (.int .u8 63), .lit (.int .u8 55), .lit (.int .u8 48), .lit (.int .u8 27), .lit (.int .u8 60), .lit (.int .u8 41), .lit (.int .u8 37), .lit (.int .u8 16), .lit (.int .u8 46), .lit (.int .u8 35), .lit (.int .u8 44), .lit (.int .u8 21), .lit (.int .u8 52), .lit (.int .u8 32), .lit (.int .u8 23), .lit (.int .u8 11), .lit (.int .u8 54), .lit (.int .u8 26), .lit (.int .u8 40), .lit (.int .u8 15), .lit (.int .u8 34), .lit (.int .u8 20), .lit (.int .u8 31), .lit (.int .u8 10), .lit (.int .u8 25), .lit (.int .u8 14), .lit (.int .u8 19), .lit (.int .u8 9), .lit (.int .u8 13), .lit (.int .u8 8), .lit (.int .u8 7), .lit (.int .u8 6)]
def laid_internal_strconv_uint64pow10 {H : Type} : DataW H := .agg [.lit (.int .u64 1), .lit (.int .u64 10), .lit (.int .u64 100), .lit (.int .u64 1000), .lit (.int .u64 10000), .lit (.int .u64 100000), .lit (.int .u64 1000000), .lit (.int .u64 10000000), .lit (.int .u64 100000000), .lit (.int .u64 1000000000), .lit (.int .u64 10000000000), .lit (.int .u64 100000000000), .lit (.int .u64 1000000000000), .lit (.int .u64 10000000000000), .lit (.int .u64 100000000000000), .lit (.int .u64 1000000000000000), .lit (.int .u64 10000000000000000), .lit (.int .u64 100000000000000000), .lit (.int .u64 1000000000000000000), .lit (.int .u64 10000000000000000000)]
def laid_strconv_ErrRange {H : Type} : DataW H := .iface "*errors.errorString" (.ptr (.agg [.lit (.string [118, 97, 108, 117, 101, 32, 111, 117, 116, 32, 111, 102, 32, 114, 97, 110, 103, 101])]))
def laid_strconv_ErrSyntax {H : Type} : DataW H := .iface "*errors.errorString" (.ptr (.agg [.lit (.string [105, 110, 118, 97, 108, 105, 100, 32, 115, 121, 110, 116, 97, 120])]))

/-- 'concertinalaw23.EditRequests': WHATEVER THE INPUT: true; the input reads as it did. -/
def editRequestsSpec : ChangeSpec := { name := "editRequests", fn := fun _ => fun
  | [d1, d2] => { results := [.lit (.bool true)], args := [d1, d2] }
  | _ => none }
def editRequestsRow : OpenClaim := { program := "ytgdjlmpfjmakkaadoor", sum := "bf1abee13d0962857b14f413859ad572e81dee3a23786b709d6ba72636e57a42", func := "concertina/concertinalaw23.EditRequests", spec := "editRequests", inPlace := ["internal/bytealg.IndexByteString", "internal/bytealg.IndexString"], unfollowed := true, recurses := true, named := ["unicode/utf8.first", "unicode/utf8.acceptRanges", "internal/bytealg.MaxLen"], apart := false, laid := [("unicode/utf8.acceptRanges", laid_unicode_utf8_acceptRanges), ("unicode/utf8.first", laid_unicode_utf8_first)] }
def EditRequestsSaid : Prop := editRequestsRow.holds Tryd.pinned (OpenSpec.ofChange editRequestsSpec)

/-- ITS FALSE NEIGHBOUR: 'it returns false'. Refute it at one input. -/
def editRequestsWrong : ChangeSpec := { name := "editRequests", fn := fun _ => fun
  | [d1, d2] => { results := [.lit (.bool false)], args := [d1, d2] }
  | _ => none }
def EditRequestsWrongFalsely : Prop := editRequestsRow.holds Tryd.pinned (OpenSpec.ofChange editRequestsWrong)

/-- 'concertinalaw23.EditHops': WHATEVER THE INPUT: true; the input reads as it did. -/
def editHopsSpec : ChangeSpec := { name := "editHops", fn := fun _ => fun
  | [d1, d2, d3, d4] => { results := [.lit (.bool true)], args := [d1, d2, d3, d4] }
  | _ => none }
def editHopsRow : OpenClaim := { program := "ytgdjlmpfjmakkaadoor", sum := "bf1abee13d0962857b14f413859ad572e81dee3a23786b709d6ba72636e57a42", func := "concertina/concertinalaw23.EditHops", spec := "editHops", inPlace := ["internal/bytealg.IndexByteString", "internal/bytealg.IndexString"], unfollowed := true, recurses := true, named := ["unicode/utf8.first", "unicode/utf8.acceptRanges", "internal/bytealg.MaxLen"], apart := false, laid := [("unicode/utf8.acceptRanges", laid_unicode_utf8_acceptRanges), ("unicode/utf8.first", laid_unicode_utf8_first)] }
def EditHopsSaid : Prop := editHopsRow.holds Tryd.pinned (OpenSpec.ofChange editHopsSpec)

/-- ITS FALSE NEIGHBOUR: 'it returns false'. Refute it at one input. -/
def editHopsWrong : ChangeSpec := { name := "editHops", fn := fun _ => fun
  | [d1, d2, d3, d4] => { results := [.lit (.bool false)], args := [d1, d2, d3, d4] }
  | _ => none }
def EditHopsWrongFalsely : Prop := editHopsRow.holds Tryd.pinned (OpenSpec.ofChange editHopsWrong)

/-- 'concertinalaw23.EditResponses': WHATEVER THE INPUT: true; the input reads as it did. -/
def editResponsesSpec : ChangeSpec := { name := "editResponses", fn := fun _ => fun
  | [d1, d2, d3, d4, d5] => { results := [.lit (.bool true)], args := [d1, d2, d3, d4, d5] }
  | _ => none }
def editResponsesRow : OpenClaim := { program := "ytgdjlmpfjmakkaadoor", sum := "bf1abee13d0962857b14f413859ad572e81dee3a23786b709d6ba72636e57a42", func := "concertina/concertinalaw23.EditResponses", spec := "editResponses", inPlace := ["internal/bytealg.IndexByteString", "internal/bytealg.IndexString"], unfollowed := true, recurses := true, named := ["unicode/utf8.first", "unicode/utf8.acceptRanges", "internal/bytealg.MaxLen"], apart := false, laid := [("unicode/utf8.acceptRanges", laid_unicode_utf8_acceptRanges), ("unicode/utf8.first", laid_unicode_utf8_first)] }
def EditResponsesSaid : Prop := editResponsesRow.holds Tryd.pinned (OpenSpec.ofChange editResponsesSpec)

/-- ITS FALSE NEIGHBOUR: 'it returns false'. Refute it at one input. -/
def editResponsesWrong : ChangeSpec := { name := "editResponses", fn := fun _ => fun
  | [d1, d2, d3, d4, d5] => { results := [.lit (.bool false)], args := [d1, d2, d3, d4, d5] }
  | _ => none }
def EditResponsesWrongFalsely : Prop := editResponsesRow.holds Tryd.pinned (OpenSpec.ofChange editResponsesWrong)

/-- 'concertinalaw23.EditTells': WHATEVER THE INPUT: true; the input reads as it did. -/
def editTellsSpec : ChangeSpec := { name := "editTells", fn := fun _ => fun
  | [d1, d2, d3, d4, d5] => { results := [.lit (.bool true)], args := [d1, d2, d3, d4, d5] }
  | _ => none }
def editTellsRow : OpenClaim := { program := "ytgdjlmpfjmakkaadoor", sum := "bf1abee13d0962857b14f413859ad572e81dee3a23786b709d6ba72636e57a42", func := "concertina/concertinalaw23.EditTells", spec := "editTells", inPlace := ["internal/bytealg.IndexByteString", "internal/bytealg.IndexString"], unfollowed := true, recurses := true, named := ["unicode/utf8.first", "unicode/utf8.acceptRanges", "internal/bytealg.MaxLen"], apart := false, laid := [("unicode/utf8.acceptRanges", laid_unicode_utf8_acceptRanges), ("unicode/utf8.first", laid_unicode_utf8_first)] }
def EditTellsSaid : Prop := editTellsRow.holds Tryd.pinned (OpenSpec.ofChange editTellsSpec)

/-- ITS FALSE NEIGHBOUR: 'it returns false'. Refute it at one input. -/
def editTellsWrong : ChangeSpec := { name := "editTells", fn := fun _ => fun
  | [d1, d2, d3, d4, d5] => { results := [.lit (.bool false)], args := [d1, d2, d3, d4, d5] }
  | _ => none }
def EditTellsWrongFalsely : Prop := editTellsRow.holds Tryd.pinned (OpenSpec.ofChange editTellsWrong)

/-- 'concertinalaw20.AcceptRules': WHATEVER THE INPUT: true; the input reads as it did. -/
def acceptRulesSpec : ChangeSpec := { name := "acceptRules", fn := fun _ => fun
  | [d1, d2, d3] => { results := [.lit (.bool true)], args := [d1, d2, d3] }
  | _ => none }
def acceptRulesRow : OpenClaim := { program := "ytgdjlmpfjmakkaadoor", sum := "bf1abee13d0962857b14f413859ad572e81dee3a23786b709d6ba72636e57a42", func := "concertina/concertinalaw20.AcceptRules", spec := "acceptRules", inPlace := ["internal/bytealg.IndexByteString", "internal/bytealg.IndexString"], named := ["internal/bytealg.MaxLen", "unicode/utf8.first", "unicode/utf8.acceptRanges"], apart := false, laid := [("unicode/utf8.acceptRanges", laid_unicode_utf8_acceptRanges), ("unicode/utf8.first", laid_unicode_utf8_first)] }
def AcceptRulesSaid : Prop := acceptRulesRow.holds Tryd.pinned (OpenSpec.ofChange acceptRulesSpec)

/-- ITS FALSE NEIGHBOUR: 'it returns false'. Refute it at one input. -/
def acceptRulesWrong : ChangeSpec := { name := "acceptRules", fn := fun _ => fun
  | [d1, d2, d3] => { results := [.lit (.bool false)], args := [d1, d2, d3] }
  | _ => none }
def AcceptRulesWrongFalsely : Prop := acceptRulesRow.holds Tryd.pinned (OpenSpec.ofChange acceptRulesWrong)

/-- 'concertinalaw20.AcceptCase': WHATEVER THE INPUT: true; the input reads as it did. -/
def acceptCaseSpec : ChangeSpec := { name := "acceptCase", fn := fun _ => fun
  | [d1, d2] => { results := [.lit (.bool true)], args := [d1, d2] }
  | _ => none }
def acceptCaseRow : OpenClaim := { program := "ytgdjlmpfjmakkaadoor", sum := "bf1abee13d0962857b14f413859ad572e81dee3a23786b709d6ba72636e57a42", func := "concertina/concertinalaw20.AcceptCase", spec := "acceptCase", inPlace := ["internal/bytealg.IndexByteString", "internal/bytealg.IndexString"], named := ["internal/bytealg.MaxLen", "unicode/utf8.first", "unicode/utf8.acceptRanges"], apart := false, laid := [("unicode/utf8.acceptRanges", laid_unicode_utf8_acceptRanges), ("unicode/utf8.first", laid_unicode_utf8_first)] }
def AcceptCaseSaid : Prop := acceptCaseRow.holds Tryd.pinned (OpenSpec.ofChange acceptCaseSpec)

/-- ITS FALSE NEIGHBOUR: 'it returns false'. Refute it at one input. -/
def acceptCaseWrong : ChangeSpec := { name := "acceptCase", fn := fun _ => fun
  | [d1, d2] => { results := [.lit (.bool false)], args := [d1, d2] }
  | _ => none }
def AcceptCaseWrongFalsely : Prop := acceptCaseRow.holds Tryd.pinned (OpenSpec.ofChange acceptCaseWrong)

/-- 'concertinalaw23.EditTwice': WHATEVER THE INPUT: true; the input reads as it did. -/
def editTwiceSpec : ChangeSpec := { name := "editTwice", fn := fun _ => fun
  | [d1, d2, d3] => { results := [.lit (.bool true)], args := [d1, d2, d3] }
  | _ => none }
def editTwiceRow : OpenClaim := { program := "ytgdjlmpfjmakkaadoor", sum := "bf1abee13d0962857b14f413859ad572e81dee3a23786b709d6ba72636e57a42", func := "concertina/concertinalaw23.EditTwice", spec := "editTwice", inPlace := ["internal/bytealg.IndexByteString", "internal/bytealg.IndexString"], unfollowed := true, recurses := true, named := ["unicode/utf8.first", "unicode/utf8.acceptRanges", "internal/bytealg.MaxLen"], apart := false, laid := [("unicode/utf8.acceptRanges", laid_unicode_utf8_acceptRanges), ("unicode/utf8.first", laid_unicode_utf8_first)] }
def EditTwiceSaid : Prop := editTwiceRow.holds Tryd.pinned (OpenSpec.ofChange editTwiceSpec)

/-- ITS FALSE NEIGHBOUR: 'it returns false'. Refute it at one input. -/
def editTwiceWrong : ChangeSpec := { name := "editTwice", fn := fun _ => fun
  | [d1, d2, d3] => { results := [.lit (.bool false)], args := [d1, d2, d3] }
  | _ => none }
def EditTwiceWrongFalsely : Prop := editTwiceRow.holds Tryd.pinned (OpenSpec.ofChange editTwiceWrong)

/-- 'concertinalaw23.EditOwn': WHATEVER THE INPUT: true; the input reads as it did. -/
def editOwnSpec : ChangeSpec := { name := "editOwn", fn := fun _ => fun
  | [d1, d2, d3, d4, d5] => { results := [.lit (.bool true)], args := [d1, d2, d3, d4, d5] }
  | _ => none }
def editOwnRow : OpenClaim := { program := "ytgdjlmpfjmakkaadoor", sum := "bf1abee13d0962857b14f413859ad572e81dee3a23786b709d6ba72636e57a42", func := "concertina/concertinalaw23.EditOwn", spec := "editOwn", inPlace := ["internal/bytealg.IndexByteString", "internal/bytealg.IndexString"], named := ["unicode/utf8.first", "unicode/utf8.acceptRanges", "internal/strconv.uint64pow10", "math/bits.deBruijn32tab", "math/bits.deBruijn64tab", "internal/bytealg.MaxLen"], apart := false, laid := [("math/bits.deBruijn32tab", laid_math_bits_deBruijn32tab), ("math/bits.deBruijn64tab", laid_math_bits_deBruijn64tab), ("internal/strconv.uint64pow10", laid_internal_strconv_uint64pow10), ("unicode/utf8.acceptRanges", laid_unicode_utf8_acceptRanges), ("unicode/utf8.first", laid_unicode_utf8_first)] }
def EditOwnSaid : Prop := editOwnRow.holds Tryd.pinned (OpenSpec.ofChange editOwnSpec)

/-- ITS FALSE NEIGHBOUR: 'it returns false'. Refute it at one input. -/
def editOwnWrong : ChangeSpec := { name := "editOwn", fn := fun _ => fun
  | [d1, d2, d3, d4, d5] => { results := [.lit (.bool false)], args := [d1, d2, d3, d4, d5] }
  | _ => none }
def EditOwnWrongFalsely : Prop := editOwnRow.holds Tryd.pinned (OpenSpec.ofChange editOwnWrong)

/-- 'concertinalaw21.PolicyTells': WHATEVER THE INPUT: true; the input reads as it did. -/
def policyTellsSpec : ChangeSpec := { name := "policyTells", fn := fun _ => fun
  | [d1, d2, d3] => { results := [.lit (.bool true)], args := [d1, d2, d3] }
  | _ => none }
def policyTellsRow : OpenClaim := { program := "ytgdjlmpfjmakkaadoor", sum := "bf1abee13d0962857b14f413859ad572e81dee3a23786b709d6ba72636e57a42", func := "concertina/concertinalaw21.PolicyTells", spec := "policyTells", inPlace := ["internal/bytealg.IndexByteString", "internal/bytealg.IndexString"], named := ["internal/bytealg.MaxLen", "unicode/utf8.first", "unicode/utf8.acceptRanges", "strconv.ErrSyntax", "strconv.ErrRange", "internal/strconv.uint64pow10", "math/bits.deBruijn32tab", "math/bits.deBruijn64tab"], apart := false, laid := [("math/bits.deBruijn32tab", laid_math_bits_deBruijn32tab), ("math/bits.deBruijn64tab", laid_math_bits_deBruijn64tab), ("internal/strconv.uint64pow10", laid_internal_strconv_uint64pow10), ("unicode/utf8.acceptRanges", laid_unicode_utf8_acceptRanges), ("strconv.ErrRange", laid_strconv_ErrRange), ("strconv.ErrSyntax", laid_strconv_ErrSyntax), ("unicode/utf8.first", laid_unicode_utf8_first)] }
def PolicyTellsSaid : Prop := policyTellsRow.holds Tryd.pinned (OpenSpec.ofChange policyTellsSpec)

/-- ITS FALSE NEIGHBOUR: 'it returns false'. Refute it at one input. -/
def policyTellsWrong : ChangeSpec := { name := "policyTells", fn := fun _ => fun
  | [d1, d2, d3] => { results := [.lit (.bool false)], args := [d1, d2, d3] }
  | _ => none }
def PolicyTellsWrongFalsely : Prop := policyTellsRow.holds Tryd.pinned (OpenSpec.ofChange policyTellsWrong)

/-- 'concertinalaw21.PolicyKept': WHATEVER THE INPUT: true; the input reads as it did. -/
def policyKeptSpec : ChangeSpec := { name := "policyKept", fn := fun _ => fun
  | [d1, d2, d3, d4] => { results := [.lit (.bool true)], args := [d1, d2, d3, d4] }
  | _ => none }
def policyKeptRow : OpenClaim := { program := "ytgdjlmpfjmakkaadoor", sum := "bf1abee13d0962857b14f413859ad572e81dee3a23786b709d6ba72636e57a42", func := "concertina/concertinalaw21.PolicyKept", spec := "policyKept", inPlace := ["internal/bytealg.IndexByteString", "internal/bytealg.IndexString"], named := ["internal/bytealg.MaxLen", "unicode/utf8.first", "unicode/utf8.acceptRanges", "strconv.ErrSyntax", "strconv.ErrRange", "internal/strconv.uint64pow10", "math/bits.deBruijn32tab", "math/bits.deBruijn64tab"], apart := false, laid := [("math/bits.deBruijn32tab", laid_math_bits_deBruijn32tab), ("math/bits.deBruijn64tab", laid_math_bits_deBruijn64tab), ("internal/strconv.uint64pow10", laid_internal_strconv_uint64pow10), ("unicode/utf8.acceptRanges", laid_unicode_utf8_acceptRanges), ("strconv.ErrRange", laid_strconv_ErrRange), ("strconv.ErrSyntax", laid_strconv_ErrSyntax), ("unicode/utf8.first", laid_unicode_utf8_first)] }
def PolicyKeptSaid : Prop := policyKeptRow.holds Tryd.pinned (OpenSpec.ofChange policyKeptSpec)

/-- ITS FALSE NEIGHBOUR: 'it returns false'. Refute it at one input. -/
def policyKeptWrong : ChangeSpec := { name := "policyKept", fn := fun _ => fun
  | [d1, d2, d3, d4] => { results := [.lit (.bool false)], args := [d1, d2, d3, d4] }
  | _ => none }
def PolicyKeptWrongFalsely : Prop := policyKeptRow.holds Tryd.pinned (OpenSpec.ofChange policyKeptWrong)

/-- 'concertinalaw21.PolicySize': WHATEVER THE INPUT: true; the input reads as it did. -/
def policySizeSpec : ChangeSpec := { name := "policySize", fn := fun _ => fun
  | [d1, d2] => { results := [.lit (.bool true)], args := [d1, d2] }
  | _ => none }
def policySizeRow : OpenClaim := { program := "ytgdjlmpfjmakkaadoor", sum := "bf1abee13d0962857b14f413859ad572e81dee3a23786b709d6ba72636e57a42", func := "concertina/concertinalaw21.PolicySize", spec := "policySize", inPlace := ["internal/bytealg.IndexByteString", "internal/bytealg.IndexString"], named := ["unicode/utf8.first", "unicode/utf8.acceptRanges", "internal/bytealg.MaxLen", "strconv.ErrSyntax", "strconv.ErrRange", "internal/strconv.uint64pow10", "math/bits.deBruijn32tab", "math/bits.deBruijn64tab"], apart := false, laid := [("math/bits.deBruijn32tab", laid_math_bits_deBruijn32tab), ("math/bits.deBruijn64tab", laid_math_bits_deBruijn64tab), ("internal/strconv.uint64pow10", laid_internal_strconv_uint64pow10), ("unicode/utf8.acceptRanges", laid_unicode_utf8_acceptRanges), ("strconv.ErrRange", laid_strconv_ErrRange), ("strconv.ErrSyntax", laid_strconv_ErrSyntax), ("unicode/utf8.first", laid_unicode_utf8_first)] }
def PolicySizeSaid : Prop := policySizeRow.holds Tryd.pinned (OpenSpec.ofChange policySizeSpec)

/-- ITS FALSE NEIGHBOUR: 'it returns false'. Refute it at one input. -/
def policySizeWrong : ChangeSpec := { name := "policySize", fn := fun _ => fun
  | [d1, d2] => { results := [.lit (.bool false)], args := [d1, d2] }
  | _ => none }
def PolicySizeWrongFalsely : Prop := policySizeRow.holds Tryd.pinned (OpenSpec.ofChange policySizeWrong)

/- THE SECOND FORM. 'bulk': how many values and letters a reading holds, each counted each time it is reached (what is shared counts as often as it is met; a slice's spare places count too). A statement '..UptoSaid' is the law's where the arguments, and the package variables that the reading takes, are together of bulk at most 1048576: NARROWER than '..Said'. Prove '..Said' where nothing that the law and all that it calls make is longer than what came in: it says more and counts as full. Else prove '..UptoSaid'. A law counts once. -/
mutual
def uptoBulk {H : Type} : DataW H → Nat
  | .lit (.string bytes) => bytes.length + 1
  | .lit _ => 1
  | .nil => 1
  | .ptr d => uptoBulk d + 1
  | .slice elems spare => uptoBulkAll elems + uptoBulkAll spare + 1
  | .agg parts => uptoBulkAll parts + 1
  | .iface _ d => uptoBulk d + 1
  | .map entries => uptoBulkEntries entries + 1
  | .held _ => 1
def uptoBulkAll {H : Type} : List (DataW H) → Nat
  | [] => 0
  | d :: r => uptoBulk d + uptoBulkAll r
def uptoBulkEntries {H : Type} : List (Lit × DataW H) → Nat
  | [] => 0
  | x :: r => uptoBulkEntry x + uptoBulkEntries r
def uptoBulkEntry {H : Type} : Lit × DataW H → Nat
  | (.string bytes, d) => bytes.length + uptoBulk d + 1
  | (_, d) => uptoBulk d + 1
 end
def uptoSmall : (H : Type) → List (DataW H) → Bool := fun _ ds => decide (uptoBulkAll ds ≤ 1048576)
def OpenSpec.upto (s : _root_.Go.ChangeSpec) : _root_.Go.OpenSpec := { _root_.Go.OpenSpec.ofChange s with cond := some uptoSmall }

/-- 'concertinalaw23.EditRequests', WHERE WHAT IT READS IS OF BULK AT MOST 1048576: true; the input reads as it did. -/
def editRequestsUptoRow : OpenClaim := { program := "ytgdjlmpfjmakkaadoor", sum := "bf1abee13d0962857b14f413859ad572e81dee3a23786b709d6ba72636e57a42", func := "concertina/concertinalaw23.EditRequests", spec := "editRequests", inPlace := ["internal/bytealg.IndexByteString", "internal/bytealg.IndexString"], unfollowed := true, recurses := true, named := ["unicode/utf8.first", "unicode/utf8.acceptRanges", "internal/bytealg.MaxLen"], apart := false, laid := [("unicode/utf8.acceptRanges", laid_unicode_utf8_acceptRanges), ("unicode/utf8.first", laid_unicode_utf8_first)], narrowed := true }
def EditRequestsUptoSaid : Prop := editRequestsUptoRow.holds Tryd.pinned (OpenSpec.upto editRequestsSpec)

/-- 'concertinalaw23.EditHops', WHERE WHAT IT READS IS OF BULK AT MOST 1048576: true; the input reads as it did. -/
def editHopsUptoRow : OpenClaim := { program := "ytgdjlmpfjmakkaadoor", sum := "bf1abee13d0962857b14f413859ad572e81dee3a23786b709d6ba72636e57a42", func := "concertina/concertinalaw23.EditHops", spec := "editHops", inPlace := ["internal/bytealg.IndexByteString", "internal/bytealg.IndexString"], unfollowed := true, recurses := true, named := ["unicode/utf8.first", "unicode/utf8.acceptRanges", "internal/bytealg.MaxLen"], apart := false, laid := [("unicode/utf8.acceptRanges", laid_unicode_utf8_acceptRanges), ("unicode/utf8.first", laid_unicode_utf8_first)], narrowed := true }
def EditHopsUptoSaid : Prop := editHopsUptoRow.holds Tryd.pinned (OpenSpec.upto editHopsSpec)

/-- 'concertinalaw23.EditResponses', WHERE WHAT IT READS IS OF BULK AT MOST 1048576: true; the input reads as it did. -/
def editResponsesUptoRow : OpenClaim := { program := "ytgdjlmpfjmakkaadoor", sum := "bf1abee13d0962857b14f413859ad572e81dee3a23786b709d6ba72636e57a42", func := "concertina/concertinalaw23.EditResponses", spec := "editResponses", inPlace := ["internal/bytealg.IndexByteString", "internal/bytealg.IndexString"], unfollowed := true, recurses := true, named := ["unicode/utf8.first", "unicode/utf8.acceptRanges", "internal/bytealg.MaxLen"], apart := false, laid := [("unicode/utf8.acceptRanges", laid_unicode_utf8_acceptRanges), ("unicode/utf8.first", laid_unicode_utf8_first)], narrowed := true }
def EditResponsesUptoSaid : Prop := editResponsesUptoRow.holds Tryd.pinned (OpenSpec.upto editResponsesSpec)

/-- 'concertinalaw23.EditTells', WHERE WHAT IT READS IS OF BULK AT MOST 1048576: true; the input reads as it did. -/
def editTellsUptoRow : OpenClaim := { program := "ytgdjlmpfjmakkaadoor", sum := "bf1abee13d0962857b14f413859ad572e81dee3a23786b709d6ba72636e57a42", func := "concertina/concertinalaw23.EditTells", spec := "editTells", inPlace := ["internal/bytealg.IndexByteString", "internal/bytealg.IndexString"], unfollowed := true, recurses := true, named := ["unicode/utf8.first", "unicode/utf8.acceptRanges", "internal/bytealg.MaxLen"], apart := false, laid := [("unicode/utf8.acceptRanges", laid_unicode_utf8_acceptRanges), ("unicode/utf8.first", laid_unicode_utf8_first)], narrowed := true }
def EditTellsUptoSaid : Prop := editTellsUptoRow.holds Tryd.pinned (OpenSpec.upto editTellsSpec)

/-- 'concertinalaw20.AcceptRules', WHERE WHAT IT READS IS OF BULK AT MOST 1048576: true; the input reads as it did. -/
def acceptRulesUptoRow : OpenClaim := { program := "ytgdjlmpfjmakkaadoor", sum := "bf1abee13d0962857b14f413859ad572e81dee3a23786b709d6ba72636e57a42", func := "concertina/concertinalaw20.AcceptRules", spec := "acceptRules", inPlace := ["internal/bytealg.IndexByteString", "internal/bytealg.IndexString"], named := ["internal/bytealg.MaxLen", "unicode/utf8.first", "unicode/utf8.acceptRanges"], apart := false, laid := [("unicode/utf8.acceptRanges", laid_unicode_utf8_acceptRanges), ("unicode/utf8.first", laid_unicode_utf8_first)], narrowed := true }
def AcceptRulesUptoSaid : Prop := acceptRulesUptoRow.holds Tryd.pinned (OpenSpec.upto acceptRulesSpec)

/-- 'concertinalaw20.AcceptCase', WHERE WHAT IT READS IS OF BULK AT MOST 1048576: true; the input reads as it did. -/
def acceptCaseUptoRow : OpenClaim := { program := "ytgdjlmpfjmakkaadoor", sum := "bf1abee13d0962857b14f413859ad572e81dee3a23786b709d6ba72636e57a42", func := "concertina/concertinalaw20.AcceptCase", spec := "acceptCase", inPlace := ["internal/bytealg.IndexByteString", "internal/bytealg.IndexString"], named := ["internal/bytealg.MaxLen", "unicode/utf8.first", "unicode/utf8.acceptRanges"], apart := false, laid := [("unicode/utf8.acceptRanges", laid_unicode_utf8_acceptRanges), ("unicode/utf8.first", laid_unicode_utf8_first)], narrowed := true }
def AcceptCaseUptoSaid : Prop := acceptCaseUptoRow.holds Tryd.pinned (OpenSpec.upto acceptCaseSpec)

/-- 'concertinalaw23.EditTwice', WHERE WHAT IT READS IS OF BULK AT MOST 1048576: true; the input reads as it did. -/
def editTwiceUptoRow : OpenClaim := { program := "ytgdjlmpfjmakkaadoor", sum := "bf1abee13d0962857b14f413859ad572e81dee3a23786b709d6ba72636e57a42", func := "concertina/concertinalaw23.EditTwice", spec := "editTwice", inPlace := ["internal/bytealg.IndexByteString", "internal/bytealg.IndexString"], unfollowed := true, recurses := true, named := ["unicode/utf8.first", "unicode/utf8.acceptRanges", "internal/bytealg.MaxLen"], apart := false, laid := [("unicode/utf8.acceptRanges", laid_unicode_utf8_acceptRanges), ("unicode/utf8.first", laid_unicode_utf8_first)], narrowed := true }
def EditTwiceUptoSaid : Prop := editTwiceUptoRow.holds Tryd.pinned (OpenSpec.upto editTwiceSpec)

/-- 'concertinalaw23.EditOwn', WHERE WHAT IT READS IS OF BULK AT MOST 1048576: true; the input reads as it did. -/
def editOwnUptoRow : OpenClaim := { program := "ytgdjlmpfjmakkaadoor", sum := "bf1abee13d0962857b14f413859ad572e81dee3a23786b709d6ba72636e57a42", func := "concertina/concertinalaw23.EditOwn", spec := "editOwn", inPlace := ["internal/bytealg.IndexByteString", "internal/bytealg.IndexString"], named := ["unicode/utf8.first", "unicode/utf8.acceptRanges", "internal/strconv.uint64pow10", "math/bits.deBruijn32tab", "math/bits.deBruijn64tab", "internal/bytealg.MaxLen"], apart := false, laid := [("math/bits.deBruijn32tab", laid_math_bits_deBruijn32tab), ("math/bits.deBruijn64tab", laid_math_bits_deBruijn64tab), ("internal/strconv.uint64pow10", laid_internal_strconv_uint64pow10), ("unicode/utf8.acceptRanges", laid_unicode_utf8_acceptRanges), ("unicode/utf8.first", laid_unicode_utf8_first)], narrowed := true }
def EditOwnUptoSaid : Prop := editOwnUptoRow.holds Tryd.pinned (OpenSpec.upto editOwnSpec)

/-- 'concertinalaw21.PolicyTells', WHERE WHAT IT READS IS OF BULK AT MOST 1048576: true; the input reads as it did. -/
def policyTellsUptoRow : OpenClaim := { program := "ytgdjlmpfjmakkaadoor", sum := "bf1abee13d0962857b14f413859ad572e81dee3a23786b709d6ba72636e57a42", func := "concertina/concertinalaw21.PolicyTells", spec := "policyTells", inPlace := ["internal/bytealg.IndexByteString", "internal/bytealg.IndexString"], named := ["internal/bytealg.MaxLen", "unicode/utf8.first", "unicode/utf8.acceptRanges", "strconv.ErrSyntax", "strconv.ErrRange", "internal/strconv.uint64pow10", "math/bits.deBruijn32tab", "math/bits.deBruijn64tab"], apart := false, laid := [("math/bits.deBruijn32tab", laid_math_bits_deBruijn32tab), ("math/bits.deBruijn64tab", laid_math_bits_deBruijn64tab), ("internal/strconv.uint64pow10", laid_internal_strconv_uint64pow10), ("unicode/utf8.acceptRanges", laid_unicode_utf8_acceptRanges), ("strconv.ErrRange", laid_strconv_ErrRange), ("strconv.ErrSyntax", laid_strconv_ErrSyntax), ("unicode/utf8.first", laid_unicode_utf8_first)], narrowed := true }
def PolicyTellsUptoSaid : Prop := policyTellsUptoRow.holds Tryd.pinned (OpenSpec.upto policyTellsSpec)

/-- 'concertinalaw21.PolicyKept', WHERE WHAT IT READS IS OF BULK AT MOST 1048576: true; the input reads as it did. -/
def policyKeptUptoRow : OpenClaim := { program := "ytgdjlmpfjmakkaadoor", sum := "bf1abee13d0962857b14f413859ad572e81dee3a23786b709d6ba72636e57a42", func := "concertina/concertinalaw21.PolicyKept", spec := "policyKept", inPlace := ["internal/bytealg.IndexByteString", "internal/bytealg.IndexString"], named := ["internal/bytealg.MaxLen", "unicode/utf8.first", "unicode/utf8.acceptRanges", "strconv.ErrSyntax", "strconv.ErrRange", "internal/strconv.uint64pow10", "math/bits.deBruijn32tab", "math/bits.deBruijn64tab"], apart := false, laid := [("math/bits.deBruijn32tab", laid_math_bits_deBruijn32tab), ("math/bits.deBruijn64tab", laid_math_bits_deBruijn64tab), ("internal/strconv.uint64pow10", laid_internal_strconv_uint64pow10), ("unicode/utf8.acceptRanges", laid_unicode_utf8_acceptRanges), ("strconv.ErrRange", laid_strconv_ErrRange), ("strconv.ErrSyntax", laid_strconv_ErrSyntax), ("unicode/utf8.first", laid_unicode_utf8_first)], narrowed := true }
def PolicyKeptUptoSaid : Prop := policyKeptUptoRow.holds Tryd.pinned (OpenSpec.upto policyKeptSpec)

/-- 'concertinalaw21.PolicySize', WHERE WHAT IT READS IS OF BULK AT MOST 1048576: true; the input reads as it did. -/
def policySizeUptoRow : OpenClaim := { program := "ytgdjlmpfjmakkaadoor", sum := "bf1abee13d0962857b14f413859ad572e81dee3a23786b709d6ba72636e57a42", func := "concertina/concertinalaw21.PolicySize", spec := "policySize", inPlace := ["internal/bytealg.IndexByteString", "internal/bytealg.IndexString"], named := ["unicode/utf8.first", "unicode/utf8.acceptRanges", "internal/bytealg.MaxLen", "strconv.ErrSyntax", "strconv.ErrRange", "internal/strconv.uint64pow10", "math/bits.deBruijn32tab", "math/bits.deBruijn64tab"], apart := false, laid := [("math/bits.deBruijn32tab", laid_math_bits_deBruijn32tab), ("math/bits.deBruijn64tab", laid_math_bits_deBruijn64tab), ("internal/strconv.uint64pow10", laid_internal_strconv_uint64pow10), ("unicode/utf8.acceptRanges", laid_unicode_utf8_acceptRanges), ("strconv.ErrRange", laid_strconv_ErrRange), ("strconv.ErrSyntax", laid_strconv_ErrSyntax), ("unicode/utf8.first", laid_unicode_utf8_first)], narrowed := true }
def PolicySizeUptoSaid : Prop := policySizeUptoRow.holds Tryd.pinned (OpenSpec.upto policySizeSpec)

end Rows
end Go.Proofs.YtgdjlmpfjmakkaaDoor
