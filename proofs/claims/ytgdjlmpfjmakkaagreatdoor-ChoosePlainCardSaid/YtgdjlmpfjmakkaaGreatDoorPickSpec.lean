/- The reference's way to a plan comes to the same plan: plain lists. -/
import Derived.Test.YtgdjlmpfjmakkaaGreatDoorChooseSpec
import Derived.Test.YtgdjlmpfjmakkaaGreatDoorRefQ
namespace Go.Proofs.YtgdjlmpfjmakkaaGreatDoor

def stepO (w : Nat → Nat) (st : Bool) (o : Option Nat) (k : Nat) : Option Nat := match o with
  | none => if 0 < w k then some k else none
  | some b => if 0 < w k ∧ st = false ∧ w b < w k then some k else some b
theorem stepO_none (w : Nat → Nat) (st : Bool) (k : Nat) : stepO w st none k = if 0 < w k then some k else none := rfl
theorem stepO_some (w : Nat → Nat) (st : Bool) (b k : Nat) : stepO w st (some b) k = if 0 < w k ∧ st = false ∧ w b < w k then some k else some b := rfl
def foldO (w : Nat → Nat) (st : Bool) (ks : List Nat) : Option Nat := ks.foldl (stepO w st) none
theorem foldO_snoc (w : Nat → Nat) (st : Bool) (ks : List Nat) (k : Nat) (h : k < ks.length) : foldO w st (ks.take (k + 1)) = stepO w st (foldO w st (ks.take k)) ks[k] := by
  unfold foldO
  rw [list_take_snoc ks k h, List.foldl_append]; rfl
theorem foldO_mem (w : Nat → Nat) (st : Bool) (P : Nat → Prop) : ∀ (ks : List Nat) (o : Option Nat), (∀ b, o = some b → P b) → (∀ k ∈ ks, P k) → ∀ b, ks.foldl (stepO w st) o = some b → P b
  | [], o, ho, _, b, h => ho b h
  | k :: ks, o, ho, hk, b, h => by
    rw [List.foldl_cons] at h
    refine foldO_mem w st P ks _ ?_ (fun x hx => hk x (by simp [hx])) b h
    intro b' hb'
    have h1 := hk k (by simp)
    rcases o with _ | b0
    · rw [stepO_none] at hb'
      split at hb'
      · cases hb'; exact h1
      · cases hb'
    · rw [stepO_some] at hb'
      split at hb'
      · cases hb'; exact h1
      · cases hb'; exact ho _ rfl
/-- The greatest: none is above 0, or it is the one. -/
def RelB (w : Nat → Nat) (s : Nat × Nat) (o : Option Nat) : Prop := (o = none ∧ s = (0, 0)) ∨ ∃ b, o = some b ∧ s = (b, w b) ∧ 0 < w b
theorem rel_step {w : Nat → Nat} {s : Nat × Nat} {o : Option Nat} (h : RelB w s o) (k : Nat) : RelB w (bestS w s k) (stepO w false o k) := by
  rcases h with ⟨rfl, rfl⟩ | ⟨b, rfl, rfl, hb⟩
  · rw [stepO_none]
    unfold bestS
    by_cases h0 : 0 < w k
    · rw [if_pos h0, if_pos h0]
      exact .inr ⟨k, rfl, rfl, h0⟩
    · rw [if_neg h0, if_neg h0]
      exact .inl ⟨rfl, rfl⟩
  · rw [stepO_some]
    unfold bestS
    by_cases h0 : w b < w k
    · rw [if_pos h0, if_pos (⟨by omega, rfl, h0⟩ : 0 < w k ∧ false = false ∧ w b < w k)]
      exact .inr ⟨k, rfl, rfl, by omega⟩
    · rw [if_neg h0, if_neg (fun h : 0 < w k ∧ false = false ∧ w b < w k => h0 h.2.2)]
      exact .inr ⟨b, rfl, rfl, hb⟩
theorem rel_fold {w : Nat → Nat} : ∀ (ks : List Nat) (s : Nat × Nat) (o : Option Nat), RelB w s o → RelB w (ks.foldl (bestS w) s) (ks.foldl (stepO w false) o)
  | [], _, _, h => h
  | k :: ks, s, o, h => by
    rw [List.foldl_cons, List.foldl_cons]
    exact rel_fold ks _ _ (rel_step h k)
theorem rel_best (w : Nat → Nat) (ks : List Nat) : (foldO w false ks = none ∧ bestL w ks = (0, false)) ∨ ∃ b, foldO w false ks = some b ∧ bestL w ks = (b, true) := by
  have h := rel_fold (w := w) ks (0, 0) none (.inl ⟨rfl, rfl⟩)
  rcases h with ⟨h1, h2⟩ | ⟨b, h1, h2, h3⟩
  · left; exact ⟨h1, by unfold bestL bestF; rw [h2]; rfl⟩
  · right; exact ⟨b, h1, by unfold bestL bestF; rw [h2]; simp [h3]⟩
theorem fold_some (w : Nat → Nat) (b : Nat) : ∀ ks : List Nat, ks.foldl (stepO w true) (some b) = some b
  | [] => rfl
  | k :: ks => by
    rw [List.foldl_cons]
    have : stepO w true (some b) k = some b := by rw [stepO_some, if_neg (fun h : 0 < w k ∧ true = false ∧ w b < w k => by cases h.2.1)]
    rw [this]; exact fold_some w b ks
theorem fold_first (w : Nat → Nat) : ∀ ks : List Nat, (foldO w true ks = none ∧ firstK w ks = (0, false)) ∨ ∃ b, foldO w true ks = some b ∧ firstK w ks = (b, true)
  | [] => .inl ⟨rfl, rfl⟩
  | k :: ks => by
    by_cases h : 0 < w k
    · right
      refine ⟨k, ?_, by rw [firstK, if_pos h]⟩
      unfold foldO
      rw [List.foldl_cons]
      have : stepO w true none k = some k := by rw [stepO_none, if_pos h]
      rw [this]; exact fold_some w k ks
    · have e : foldO w true (k :: ks) = foldO w true ks := by
        unfold foldO
        rw [List.foldl_cons]
        have : stepO w true none k = none := by rw [stepO_none, if_neg h]
        rw [this]
      rw [e, firstK, if_neg h]
      exact fold_first w ks
def ordL (w : Nat → Nat) (el : Bool) (f : Nat) : List Nat × Bool :=
  if el = true then ([1, 2, 0], false) else if f = 0 then (if 0 < w 0 then ([0], false) else ([1, 2], false)) else ([f, 0, 3 - f], true)
def planO (f : Nat) : Option Nat → (Bool × Nat × Nat) × Bool
  | none => ((false, 0, 0), false)
  | some b => ((decide (f = b), f, b), true)
theorem plan_same (w : Nat → Nat) (oth el : Bool) (f : Nat) (h : f ≠ 3) : planL false f (toL w oth el f) = planO f (foldO w (ordL w el f).2 (ordL w el f).1) := by
  have key : ∀ (o : Option Nat) (t : Nat × Bool), ((o = none ∧ t = (0, false)) ∨ ∃ b, o = some b ∧ t = (b, true)) → planL false f t = planO f o := fun o t h => by
    rcases h with ⟨rfl, rfl⟩ | ⟨b, rfl, rfl⟩ <;> rfl
  unfold toL ordL
  rw [if_neg h]
  by_cases he : el = true
  · rw [if_pos he, if_pos he]; exact key _ _ (rel_best w _)
  · rw [if_neg he, if_neg he]
    by_cases h0 : f = 0
    · rw [if_pos h0, if_pos h0]
      by_cases hw : 0 < w 0
      · rw [if_pos hw, if_pos hw]
        refine key _ _ (.inr ⟨0, ?_, rfl⟩)
        show foldO w false [0] = some 0
        unfold foldO
        rw [List.foldl_cons, stepO_none, if_pos hw]; rfl
      · rw [if_neg hw, if_neg hw]; exact key _ _ (rel_best w _)
    · rw [if_neg h0, if_neg h0]; exact key _ _ (fold_first w _)
theorem ord_le (w : Nat → Nat) (el : Bool) (f : Nat) (h : f ≤ 2) : ∀ k ∈ (ordL w el f).1, k ≤ 2 := by
  unfold ordL
  split
  · decide
  · split
    · split <;> decide
    · intro k hk
      simp at hk
      omega
theorem ord_len (w : Nat → Nat) (el : Bool) (f : Nat) : (ordL w el f).1.length ≤ 3 := by
  unfold ordL
  split
  · decide
  · split
    · split <;> decide
    · exact Nat.le_refl 3
end Go.Proofs.YtgdjlmpfjmakkaaGreatDoor
