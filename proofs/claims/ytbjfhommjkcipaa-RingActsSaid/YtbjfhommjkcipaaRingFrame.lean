/- The frame of the laws of a seat without cards; a slice of texts as an argument. -/
import Derived.Test.YtbjfhommjkcipaaRows
import Derived.Test.YtbjfhommjkcipaaOwn
import Derived.WalkKit
import Derived.ProofKit
import Derived.OpenShut
import Derived.ShutString
import Derived.ChangeOld
import Derived.Below
import Derived.Deep.DeepHandedRow
import Derived.WideKeyArgs
import Derived.Deep.SlicePairs
import Derived.Deep.Strs
import Derived.Lib.LaidTab
namespace Go.Proofs.Ytbjfhommjkcipaa
open Go.ChangeShapes Go.WideShapes Go.ChangeAt Go.RowKit

theorem frameOwn : ownKnob Try.prog.godebug = none := by kernel_rfl
theorem frameLaidOut : laidOutB Try.prog = true := by kernel_rfl
noncomputable def laidWorld (os : Os) : World := World.holding Try.prog os ⟨#[], #[], []⟩
def scells (ls : List (List UInt8)) : List Value := ls.map fun l => .string ⟨l.toArray⟩
theorem scells_length (ls : List (List UInt8)) : (scells ls).length = ls.length := by simp [scells]
theorem scells_append (a b : List (List UInt8)) : scells a ++ scells b = scells (a ++ b) := by simp [scells]
theorem scells_one (ls : List (List UInt8)) : ∀ u ∈ scells ls, u.oneCell' = true := by
  intro u hu
  obtain ⟨b, _, rfl⟩ := List.mem_map.1 hu
  rfl
theorem scells_take (l : List (List UInt8)) (k : Nat) : (scells l).take k = scells (l.take k) := by simp [scells, List.map_take]
theorem scells_drop (l : List (List UInt8)) (k : Nat) : (scells l).drop k = scells (l.drop k) := by simp [scells, List.map_drop]
theorem scells_get (ls : List (List UInt8)) (k : Nat) (h : k < ls.length) : (scells ls)[k]? = some (.string ⟨ls[k].toArray⟩) := by simp [scells, h]
theorem again_of {H : Type} {enc : TypeId × Value → H} {P : Program} (hl : laidOutB P = true) {W W' : World} (hb : Below W.heap.size W W') (ts : List TypeId) :
    ∀ {vs : List Value} {ds : List (DataW H)} {ps : List MemPlace}, (∀ t ∈ ts, P.readableRec t = true ∧ t < P.types.size) →
      DataW.TrodAll enc P W 0 (fun _ => true) true ts vs ds ps → DataW.TrodAll enc P W' 0 (fun b => decide (b < W.heap.size)) true ts vs ds ps := by
  induction ts with
  | nil =>
    intro vs ds ps _ h
    obtain ⟨rfl, rfl, rfl⟩ := trodAll_nil h
    exact trodAll_mk0
  | cons t ts ih =>
    intro vs ds ps ht h
    have hlt := h.lt
    obtain ⟨v, vs', d, ds', p, q, rfl, rfl, rfl, h1, h2⟩ := trodAll_cons h
    have hp : ∀ x ∈ p, x.block < W.heap.size := fun x hx => hlt x (by simp [hx])
    have h3 := ht t (by simp)
    exact trodAll_cons_mk (Go.WideElems.Trod_stays hl h3.1 h3.2 h1 (fun x hx => hb.same (hp x hx)) (fun x hx => by simpa using hp x hx)) (ih (fun t' ht' => ht t' (by simp [ht'])) h2)
theorem rowed_of {P : Program} {ts : List TypeId} (h : (ts.all fun t => P.readableRec t && decide (t < P.types.size)) = true) : ∀ t ∈ ts, P.readableRec t = true ∧ t < P.types.size := by
  intro t ht
  have := List.all_eq_true.1 h t ht
  simpa using this

section
variable {H : Type} {enc : TypeId × Value → H} {W : World}
theorem cellsStr : Try.prog.cellsOf 9 = 1 := by kernel_rfl
set_option maxRecDepth 100000 in
theorem open_texts {r : Reach} {b0 : Nat} {v : Value} {d : DataW H} {p : List MemPlace} (hv : Value.okWide Try.prog W r b0 43 v) (h : DataW.Trod enc Try.prog W 0 (fun _ => true) true 43 v d p) :
    ∃ A n c ls, v = .slice A n c ∧ Rd W W.heap.size 1 A n (scells ls) ∧ n ≤ c ∧ c ≤ maxLen ∧ ∀ l ∈ ls, l.length ≤ maxLen := by
  obtain ⟨a, len, cap, rfl⟩ := okWide_slice Try.underlying43 hv
  obtain ⟨fuel, hf⟩ := h
  rcases Go.Deep.open_strs Try.underlying43 Try.underlying9 cellsStr hf with ⟨h0, _⟩ | ⟨a, len', cap', m, Sx, h0, _, hl, hm, hmm, _, hc⟩
  · simp only [Value.cells, List.cons.injEq, and_true] at h0
    cases h0
    exact ⟨none, 0, 0, [], rfl, Rd.nil_, Nat.le_refl _, Nat.zero_le _, by simp⟩
  · simp only [Value.cells, List.cons.injEq, and_true] at h0
    cases h0
    simp only [if_true] at hmm
    subst hmm
    refine ⟨some a, len, m, (List.range len).map fun i => (Sx i).data.toList, rfl, ⟨by simp [scells], ?_⟩, hl, hm, ?_⟩
    · rcases Nat.eq_zero_or_pos len with h0 | h0
      · exact .inl h0
      · refine .inr ⟨a, rfl, ?_, fun j u hu => ?_⟩
        · have := World.block_lt_of_cell? W _ (hc 0 (by omega)).1
          rwa [addr_add_block] at this
        · have hj : j < len := by have := (List.getElem?_eq_some_iff.1 hu).1; simpa [scells] using this
          have := (hc j (by omega)).1
          rw [this]
          simp [scells, hj] at hu
          rw [← hu]
    · intro l hl'
      obtain ⟨i, hi, rfl⟩ := List.mem_map.1 hl'
      have := (hc i (by have := List.mem_range.1 hi; omega)).2
      rwa [size_of] at this

end
end Go.Proofs.Ytbjfhommjkcipaa
