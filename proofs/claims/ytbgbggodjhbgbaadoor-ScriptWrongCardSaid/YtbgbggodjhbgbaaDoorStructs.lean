/- Structs by value as arguments, opened to plain lists, with the bounds that the form's own reach gives. -/
import Derived.Test.YtbgbggodjhbgbaaDoorAgain
import Derived.Lib.SmallJoins
namespace Go.Proofs.YtbgbggodjhbgbaaDoor
open Go.RowKit Go.ChangeShapes Go.WideShapes Go.ChangeAt
open Go.Joins (open_agg4)

theorem weights_at {H : Type} {P : Program} : ∀ {ts : List TypeId} {ds : List (DataW H)} (_ : (DataW.weightsEach P ts ds).all (· ≤ reachBytes) = true) {j : Nat} {t : TypeId} {d : DataW H} (_ : ts[j]? = some t) (_ : ds[j]? = some d), ∀ k ∈ d.weights P t, k ≤ reachBytes
  | [], _, _, j, t, d, ht, _ => by simp at ht
  | _ :: _, [], _, j, t, d, _, hd => by simp at hd
  | t0 :: ts, d0 :: ds, h, 0, t, d, ht, hd => by
    simp only [List.getElem?_cons_zero, Option.some.injEq] at ht hd
    subst ht hd
    intro k hk
    have := List.all_eq_true.1 h k (by unfold DataW.weightsEach; exact List.mem_append_left _ hk)
    simpa using this
  | t0 :: ts, d0 :: ds, h, j + 1, t, d, ht, hd => by
    rw [List.getElem?_cons_succ] at ht hd
    refine weights_at (ts := ts) (ds := ds) ?_ ht hd
    rw [List.all_eq_true] at h ⊢
    intro k hk
    exact h k (by unfold DataW.weightsEach; exact List.mem_append_right _ hk)
theorem weightsAll_mem {H : Type} {P : Program} {e : TypeId} : ∀ {l : List (DataW H)} {d : DataW H}, d ∈ l → ∀ k ∈ d.weights P e, k ∈ DataW.weightsAll P e l
  | [], d, h, _, _ => by simp at h
  | x :: l, d, h, k, hk => by
    unfold DataW.weightsAll
    rcases List.mem_cons.1 h with rfl | h
    · exact List.mem_append_left _ hk
    · exact List.mem_append_right _ (weightsAll_mem h k hk)

section
variable {H : Type} {enc : TypeId × Value → H} {W : World}
end
end Go.Proofs.YtbgbggodjhbgbaaDoor

/- Framings, plans and slices of fields as arguments. -/
namespace Go.Proofs.YtbgbggodjhbgbaaDoor
open Go.RowKit Go.ChangeShapes Go.WideShapes Go.ChangeAt
open Go.Joins (open_agg2 open_agg3)

section
variable {H : Type} {enc : TypeId × Value → H} {W : World}
end
end Go.Proofs.YtbgbggodjhbgbaaDoor
