/-
  No cell of these rows narrows 'for every input' (looked for: loops, veiled, ifaces, maps, wideKeys, modest, calm, conditions, laid).
  DERIVED. THE GIVEN ROWS OF THIS SEAT. 3 by the template 'for every input the law returns true; each argument reads behind the call as it read before'; 0 by the template 'total and deterministic' (their statements: YtbjfhommjkcipaaTotals.lean).
  GIVEN WITH THE SEED: the statements are not yours to turn. If you find one false, say at which input.
  Laid BY PROGRAM, IN A SANDBOX (cutbox-rows.mjs): the forced cells as the released guide's own fill.sh prints them over the translation d1412892d04743fd… (all of the seat's roots in one cut). By AI agents, Wed Nov 11 2026. No macro, syntax, notation, axiom, sorry.
-/
import Derived.Test.YtbjfhommjkcipaaChecked
import GoSem.Claim
import GoSem.ClaimJoined
import GoSem.ClaimMapViews
import Derived.JoinedTies
import Derived.KernelRfl
namespace Go.Proofs.Ytbjfhommjkcipaa
/- THE CELL 'sum', in the pinned program and in every row, IS THE sha256 OF THE DUMP (.gsa) THAT YtbjfhommjkcipaaProg.lean LOADS. Nothing in Lean hashes anything: it is a label: what it is worth is what the hold of that sum in a sandbox is worth. -/
noncomputable def Try.pinned : Pinned := { name := "ytbjfhommjkcipaa", sum := "d1412892d04743fd758550e0bcae6b1f4bf7ef7cf0432f9d48f1adbe76018a1a", checked := Try.checked }
namespace Rows
def none {H : Type} : Left H := { results := [], args := [] }

/-- 'concertinalaw03.RingActs': WHATEVER THE INPUT: true; the input reads as it did. -/
def ringActsSpec : ChangeSpec := { name := "ringActs", fn := fun _ => fun
  | [d1, d2] => { results := [.lit (.bool true)], args := [d1, d2] }
  | _ => none }
def ringActsRow : OpenClaim := { program := "ytbjfhommjkcipaa", sum := "d1412892d04743fd758550e0bcae6b1f4bf7ef7cf0432f9d48f1adbe76018a1a", func := "concertina/concertinalaw03.RingActs", spec := "ringActs", apart := false }
def RingActsSaid : Prop := ringActsRow.holds Try.pinned (OpenSpec.ofChange ringActsSpec)

/-- ITS FALSE NEIGHBOUR: 'it returns false'. Refute it at one input. -/
def ringActsWrong : ChangeSpec := { name := "ringActs", fn := fun _ => fun
  | [d1, d2] => { results := [.lit (.bool false)], args := [d1, d2] }
  | _ => none }
def RingActsWrongFalsely : Prop := ringActsRow.holds Try.pinned (OpenSpec.ofChange ringActsWrong)

/-- 'concertinalaw03.RingPosts': WHATEVER THE INPUT: true; the input reads as it did. -/
def ringPostsSpec : ChangeSpec := { name := "ringPosts", fn := fun _ => fun
  | [d1, d2] => { results := [.lit (.bool true)], args := [d1, d2] }
  | _ => none }
def ringPostsRow : OpenClaim := { program := "ytbjfhommjkcipaa", sum := "d1412892d04743fd758550e0bcae6b1f4bf7ef7cf0432f9d48f1adbe76018a1a", func := "concertina/concertinalaw03.RingPosts", spec := "ringPosts", apart := false }
def RingPostsSaid : Prop := ringPostsRow.holds Try.pinned (OpenSpec.ofChange ringPostsSpec)

/-- ITS FALSE NEIGHBOUR: 'it returns false'. Refute it at one input. -/
def ringPostsWrong : ChangeSpec := { name := "ringPosts", fn := fun _ => fun
  | [d1, d2] => { results := [.lit (.bool false)], args := [d1, d2] }
  | _ => none }
def RingPostsWrongFalsely : Prop := ringPostsRow.holds Try.pinned (OpenSpec.ofChange ringPostsWrong)

/-- 'concertinalaw03.RingKinds': WHATEVER THE INPUT: true; the input reads as it did. -/
def ringKindsSpec : ChangeSpec := { name := "ringKinds", fn := fun _ => fun
  | [d1, d2] => { results := [.lit (.bool true)], args := [d1, d2] }
  | _ => none }
def ringKindsRow : OpenClaim := { program := "ytbjfhommjkcipaa", sum := "d1412892d04743fd758550e0bcae6b1f4bf7ef7cf0432f9d48f1adbe76018a1a", func := "concertina/concertinalaw03.RingKinds", spec := "ringKinds", apart := false }
def RingKindsSaid : Prop := ringKindsRow.holds Try.pinned (OpenSpec.ofChange ringKindsSpec)

/-- ITS FALSE NEIGHBOUR: 'it returns false'. Refute it at one input. -/
def ringKindsWrong : ChangeSpec := { name := "ringKinds", fn := fun _ => fun
  | [d1, d2] => { results := [.lit (.bool false)], args := [d1, d2] }
  | _ => none }
def RingKindsWrongFalsely : Prop := ringKindsRow.holds Try.pinned (OpenSpec.ofChange ringKindsWrong)

/- THE SECOND FORM. 'bulk': how many values and letters a reading holds, each counted each time it is reached (what is shared counts as often as it is met; a slice's spare places count too). A statement '..UptoSaid' is the law's where the arguments, and the package variables that the reading takes, are together of bulk at most 1048576: NARROWER than '..Said'. Prove '..Said' where nothing that the law and all that it calls make is longer than what came in: it says more and counts as full. Else prove '..UptoSaid'. A law counts once. -/
mutual
def uptoBulk {H : Type} : DataW H → Nat
  | .lit (.string bytes) => bytes.length + 1
  | .lit _ => 1
  | .nil => 1
  | .ptr d => uptoBulk d + 1
  | .slice elems spare => uptoBulkAll elems + uptoBulkAll spare + 1
  | .agg parts => uptoBulkAll parts + 1
  | .iface _ d => uptoBulk d + 1
  | .map entries => uptoBulkEntries entries + 1
  | .held _ => 1
def uptoBulkAll {H : Type} : List (DataW H) → Nat
  | [] => 0
  | d :: r => uptoBulk d + uptoBulkAll r
def uptoBulkEntries {H : Type} : List (Lit × DataW H) → Nat
  | [] => 0
  | x :: r => uptoBulkEntry x + uptoBulkEntries r
def uptoBulkEntry {H : Type} : Lit × DataW H → Nat
  | (.string bytes, d) => bytes.length + uptoBulk d + 1
  | (_, d) => uptoBulk d + 1
 end
def uptoSmall : (H : Type) → List (DataW H) → Bool := fun _ ds => decide (uptoBulkAll ds ≤ 1048576)
def OpenSpec.upto (s : _root_.Go.ChangeSpec) : _root_.Go.OpenSpec := { _root_.Go.OpenSpec.ofChange s with cond := some uptoSmall }

/-- 'concertinalaw03.RingActs', WHERE WHAT IT READS IS OF BULK AT MOST 1048576: true; the input reads as it did. -/
def ringActsUptoRow : OpenClaim := { program := "ytbjfhommjkcipaa", sum := "d1412892d04743fd758550e0bcae6b1f4bf7ef7cf0432f9d48f1adbe76018a1a", func := "concertina/concertinalaw03.RingActs", spec := "ringActs", apart := false, narrowed := true }
def RingActsUptoSaid : Prop := ringActsUptoRow.holds Try.pinned (OpenSpec.upto ringActsSpec)

/-- 'concertinalaw03.RingPosts', WHERE WHAT IT READS IS OF BULK AT MOST 1048576: true; the input reads as it did. -/
def ringPostsUptoRow : OpenClaim := { program := "ytbjfhommjkcipaa", sum := "d1412892d04743fd758550e0bcae6b1f4bf7ef7cf0432f9d48f1adbe76018a1a", func := "concertina/concertinalaw03.RingPosts", spec := "ringPosts", apart := false, narrowed := true }
def RingPostsUptoSaid : Prop := ringPostsUptoRow.holds Try.pinned (OpenSpec.upto ringPostsSpec)

/-- 'concertinalaw03.RingKinds', WHERE WHAT IT READS IS OF BULK AT MOST 1048576: true; the input reads as it did. -/
def ringKindsUptoRow : OpenClaim := { program := "ytbjfhommjkcipaa", sum := "d1412892d04743fd758550e0bcae6b1f4bf7ef7cf0432f9d48f1adbe76018a1a", func := "concertina/concertinalaw03.RingKinds", spec := "ringKinds", apart := false, narrowed := true }
def RingKindsUptoSaid : Prop := ringKindsUptoRow.holds Try.pinned (OpenSpec.upto ringKindsSpec)

end Rows
end Go.Proofs.Ytbjfhommjkcipaa
