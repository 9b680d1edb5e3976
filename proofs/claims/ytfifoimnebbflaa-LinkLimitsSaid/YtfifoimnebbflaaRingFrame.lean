/- The frame of the laws of a seat without cards; a slice of texts as an argument. -/
import Derived.Test.YtfifoimnebbflaaRows
import Derived.Test.YtfifoimnebbflaaOwn
import Derived.WalkKit
import Derived.ProofKit
import Derived.OpenShut
import Derived.ShutString
import Derived.ChangeOld
import Derived.Below
import Derived.Deep.DeepHandedRow
import Derived.WideKeyArgs
import Derived.Deep.SlicePairs
import Derived.Deep.Strs
import Derived.Lib.LaidTab
namespace Go.Proofs.Ytfifoimnebbflaa
open Go.ChangeShapes Go.WideShapes Go.ChangeAt Go.RowKit

theorem frameOwn : ownKnob Try.prog.godebug = none := by kernel_rfl
theorem frameLaidOut : laidOutB Try.prog = true := by kernel_rfl
noncomputable def laidWorld (os : Os) : World := World.holding Try.prog os ⟨#[], #[], []⟩
def scells (ls : List (List UInt8)) : List Value := ls.map fun l => .string ⟨l.toArray⟩
theorem scells_length (ls : List (List UInt8)) : (scells ls).length = ls.length := by simp [scells]
theorem scells_append (a b : List (List UInt8)) : scells a ++ scells b = scells (a ++ b) := by simp [scells]
theorem scells_one (ls : List (List UInt8)) : ∀ u ∈ scells ls, u.oneCell' = true := by
  intro u hu
  obtain ⟨b, _, rfl⟩ := List.mem_map.1 hu
  rfl
theorem scells_take (l : List (List UInt8)) (k : Nat) : (scells l).take k = scells (l.take k) := by simp [scells, List.map_take]
theorem scells_drop (l : List (List UInt8)) (k : Nat) : (scells l).drop k = scells (l.drop k) := by simp [scells, List.map_drop]
theorem scells_get (ls : List (List UInt8)) (k : Nat) (h : k < ls.length) : (scells ls)[k]? = some (.string ⟨ls[k].toArray⟩) := by simp [scells, h]
theorem again_of {H : Type} {enc : TypeId × Value → H} {P : Program} (hl : laidOutB P = true) {W W' : World} (hb : Below W.heap.size W W') (ts : List TypeId) :
    ∀ {vs : List Value} {ds : List (DataW H)} {ps : List MemPlace}, (∀ t ∈ ts, P.readableRec t = true ∧ t < P.types.size) →
      DataW.TrodAll enc P W 0 (fun _ => true) true ts vs ds ps → DataW.TrodAll enc P W' 0 (fun b => decide (b < W.heap.size)) true ts vs ds ps := by
  induction ts with
  | nil =>
    intro vs ds ps _ h
    obtain ⟨rfl, rfl, rfl⟩ := trodAll_nil h
    exact trodAll_mk0
  | cons t ts ih =>
    intro vs ds ps ht h
    have hlt := h.lt
    obtain ⟨v, vs', d, ds', p, q, rfl, rfl, rfl, h1, h2⟩ := trodAll_cons h
    have hp : ∀ x ∈ p, x.block < W.heap.size := fun x hx => hlt x (by simp [hx])
    have h3 := ht t (by simp)
    exact trodAll_cons_mk (Go.WideElems.Trod_stays hl h3.1 h3.2 h1 (fun x hx => hb.same (hp x hx)) (fun x hx => by simpa using hp x hx)) (ih (fun t' ht' => ht t' (by simp [ht'])) h2)
theorem rowed_of {P : Program} {ts : List TypeId} (h : (ts.all fun t => P.readableRec t && decide (t < P.types.size)) = true) : ∀ t ∈ ts, P.readableRec t = true ∧ t < P.types.size := by
  intro t ht
  have := List.all_eq_true.1 h t ht
  simpa using this

section
variable {H : Type} {enc : TypeId × Value → H} {W : World}
theorem cellsStr : Try.prog.cellsOf 9 = 1 := by kernel_rfl
end
end Go.Proofs.Ytfifoimnebbflaa
