/- chunk.Decoder.Take as a plain function. No program here. -/
import Derived.Test.YtdpcncpfbaigeaaDoorDecSpec
import Derived.Test.YtdpcncpfbaigeaaDoorDecBegin
namespace Go.Proofs.YtdpcncpfbaigeaaDoor
open Go.RowKit
set_option linter.unusedVariables false
set_option linter.unusedSimpArgs false

def stepT (S : DS) (X : Nat) : DS := if stepE S X ≠ 0 ∧ stepE S X ≠ 5 then { stepS S X with er := stepE S X } else stepS S X
def runD : Nat → Int → DS → List UInt8 → Nat → List UInt8 × Nat × DS
  | 0, _, S, o, e => (o, e, S)
  | f + 1, n, S, o, e => if (o.length : Int) < n ∧ S.er = 0 ∧ e = 0 then runD f n (stepT S (n - o.length).toNat) (o ++ stepO S (n - o.length).toNat) (stepE S (n - o.length).toNat) else (o, e, S)
theorem runD_stop {f : Nat} {n : Int} {S : DS} {o : List UInt8} {e : Nat} (h : ¬ ((o.length : Int) < n ∧ S.er = 0 ∧ e = 0)) : runD f n S o e = (o, e, S) := by
  cases f with
  | zero => rfl
  | succ f => rw [runD, if_neg h]
theorem runD_go {f : Nat} {n : Int} {S : DS} {o : List UInt8} {e : Nat} (h : (o.length : Int) < n ∧ S.er = 0 ∧ e = 0) : runD (f + 1) n S o e = runD f n (stepT S (n - o.length).toNat) (o ++ stepO S (n - o.length).toNat) (stepE S (n - o.length).toNat) := by
  rw [runD, if_pos h]
def takeR (n : Int) (S : DS) : List UInt8 × Nat × DS := runD (S.inp.length + 1) n S [] 0
def takeEr (n : Int) (S : DS) : Nat := if n ≤ (takeR n S).1.length then 0 else if 0 < (takeR n S).1.length ∨ (takeR n S).2.2.er = 0 then 5 else (takeR n S).2.2.er
def takeO (n : Int) (S : DS) : List UInt8 := if n ≤ (takeR n S).1.length then (takeR n S).1 else if 0 < (takeR n S).1.length ∨ (takeR n S).2.2.er = 0 then (takeR n S).1 else []
/-- The bounds that a walk asks. -/
def DSok (S : DS) : Prop := S.st ≤ 3 ∧ S.left ≤ 9223372036854775807 ∧ S.fl + S.inp.length ≤ 900000000
theorem lineR_lt {l : List UInt8} (h : lineE l = 0) : (lineR l).length + 2 ≤ l.length := by
  unfold lineE at h
  split at h
  · rename_i hi
    have := lineIx_le l hi
    unfold lineR
    rw [if_pos hi, List.length_drop]; omega
  · split at h <;> cases h
theorem begin_ok {S : DS} (h : DSok S) : DSok (beginS S) ∧ (beginS S).inp.length ≤ S.inp.length ∧ (beginE S = 0 → (beginS S).inp.length < S.inp.length) ∧ (beginS S).er = S.er := by
  obtain ⟨h1, h2, h3⟩ := h
  unfold beginS beginE
  by_cases hE : lineE S.inp = 0
  · have hl := lineR_lt hE
    rw [if_pos hE, if_pos hE]
    rcases hok : sizeOk (lineT S.inp) with _ | _
    · simp only [Bool.false_eq_true, if_false]
      exact ⟨⟨h1, h2, by show S.fl + (lineR S.inp).length ≤ _; omega⟩, by show (lineR S.inp).length ≤ _; omega, (fun h => by cases h), by first | rfl | trivial⟩
    · simp only [if_true]
      have hN : sizeN (lineT S.inp) ≤ 1099511627776 := by
        unfold sizeOk at hok
        simp only [Bool.and_eq_true, decide_eq_true_eq] at hok
        exact hok.2.2.2
      exact ⟨⟨by show (if _ then 3 else 1) ≤ 3; split <;> omega, by show sizeN _ ≤ _; omega, by show S.fl + (lineR S.inp).length ≤ _; omega⟩, by show (lineR S.inp).length ≤ _; omega, (fun _ => by show (lineR S.inp).length < _; omega), by first | rfl | trivial⟩
  · rw [if_neg hE, if_neg hE]
    exact ⟨⟨h1, h2, h3⟩, Nat.le_refl _, fun h => absurd h hE, rfl⟩
theorem over_ok {S : DS} (h : DSok S) : DSok (overS S) ∧ (overS S).inp.length ≤ S.inp.length ∧ (overE S = 0 → (overS S).inp.length < S.inp.length) ∧ (overS S).er = S.er := by
  obtain ⟨h1, h2, h3⟩ := h
  unfold overS
  by_cases hE : overE S = 0
  · rw [if_pos hE]
    have h2l : 2 ≤ S.inp.length := by
      unfold overE at hE
      split at hE
      · split at hE
        · cases hE
        · omega
      · cases hE
    exact ⟨⟨by show 0 ≤ 3; omega, h2, by show S.fl + (S.inp.drop 2).length ≤ _; rw [List.length_drop]; omega⟩, by show (S.inp.drop 2).length ≤ _; rw [List.length_drop]; omega, (fun _ => by show (S.inp.drop 2).length < _; rw [List.length_drop]; omega), by first | rfl | trivial⟩
  · rw [if_neg hE]
    exact ⟨⟨h1, h2, h3⟩, Nat.le_refl _, fun h => absurd h hE, rfl⟩
theorem trail_ok {S : DS} (h : DSok S) : DSok (trailS S) ∧ (trailS S).inp.length ≤ S.inp.length ∧ (trailE S = 0 → (trailS S).inp.length < S.inp.length) ∧ (trailS S).er = S.er := by
  obtain ⟨h1, h2, h3⟩ := h
  unfold trailS trailE
  by_cases hE : lineE S.inp = 0
  · have hl := lineR_lt hE
    rw [if_pos hE, if_pos hE]
    by_cases hT : lineT S.inp = []
    · rw [if_pos hT, if_pos hT]
      exact ⟨⟨h1, h2, by show S.fl + (lineR S.inp).length ≤ _; omega⟩, by show (lineR S.inp).length ≤ _; omega, (fun h => by cases h), by first | rfl | trivial⟩
    · rw [if_neg hT, if_neg hT]
      rcases hok : lineOk (lineT S.inp) with _ | _
      · simp only [Bool.false_eq_true, if_false]
        exact ⟨⟨h1, h2, by show S.fl + (lineR S.inp).length ≤ _; omega⟩, by show (lineR S.inp).length ≤ _; omega, (fun h => by cases h), by first | rfl | trivial⟩
      · simp only [if_true]
        exact ⟨⟨h1, h2, by show S.fl + 1 + (lineR S.inp).length ≤ _; omega⟩, by show (lineR S.inp).length ≤ _; omega, (fun _ => by show (lineR S.inp).length < _; omega), by first | rfl | trivial⟩
  · rw [if_neg hE, if_neg hE]
    exact ⟨⟨h1, h2, h3⟩, Nat.le_refl _, fun h => absurd h hE, rfl⟩
theorem bytes_ok {S : DS} (X : Nat) (h : DSok S) : DSok (bytesS S X) ∧ (bytesS S X).inp.length ≤ S.inp.length ∧ (bytesE S X = 0 → (bytesS S X).inp.length < S.inp.length) ∧ (bytesS S X).er = S.er := by
  obtain ⟨h1, h2, h3⟩ := h
  have hk : bytesK S X ≤ S.inp.length := by unfold bytesK; omega
  unfold bytesS bytesE
  by_cases hK : bytesK S X = 0
  · rw [if_pos hK, if_pos hK]
    exact ⟨⟨h1, h2, h3⟩, Nat.le_refl _, (fun h => by cases h), by first | rfl | trivial⟩
  · rw [if_neg hK, if_neg hK]
    exact ⟨⟨by show (if _ then 2 else S.st) ≤ 3; split <;> omega, by show S.left - _ ≤ _; omega, by show S.fl + (S.inp.drop _).length ≤ _; rw [List.length_drop]; omega⟩, by show (S.inp.drop _).length ≤ _; rw [List.length_drop]; omega, (fun _ => by show (S.inp.drop _).length < _; rw [List.length_drop]; omega), by first | rfl | trivial⟩
theorem step_ok {S : DS} (X : Nat) (h : DSok S) : DSok (stepS S X) ∧ (stepS S X).inp.length ≤ S.inp.length ∧ (stepE S X = 0 → (stepS S X).inp.length < S.inp.length) ∧ (stepS S X).er = S.er := by
  unfold stepS stepE
  by_cases h0 : S.st = 0
  · rw [if_pos h0, if_pos h0]; exact begin_ok h
  · rw [if_neg h0, if_neg h0]
    by_cases h1 : S.st = 1
    · rw [if_pos h1, if_pos h1]; exact bytes_ok X h
    · rw [if_neg h1, if_neg h1]
      by_cases h2 : S.st = 2
      · rw [if_pos h2, if_pos h2]; exact over_ok h
      · rw [if_neg h2, if_neg h2]; exact trail_ok h
theorem stepO_len {S : DS} (X : Nat) (h : DSok S) : (stepO S X).length ≤ X ∧ (stepO S X).length + (stepS S X).inp.length ≤ S.inp.length := by
  unfold stepO
  by_cases h1 : S.st = 1
  · rw [if_pos h1, List.length_take]
    have e : (stepS S X) = bytesS S X := by unfold stepS; rw [if_neg (by omega), if_pos h1]
    rw [e]
    have hk : bytesK S X ≤ S.inp.length ∧ bytesK S X ≤ X := by unfold bytesK; omega
    refine ⟨by omega, ?_⟩
    unfold bytesS
    by_cases hK : bytesK S X = 0
    · rw [if_pos hK, hK]; omega
    · rw [if_neg hK]; show _ + (S.inp.drop _).length ≤ _; rw [List.length_drop]; omega
  · rw [if_neg h1]
    refine ⟨Nat.zero_le _, ?_⟩
    have := (step_ok X h).2.1
    show 0 + _ ≤ _
    omega
end Go.Proofs.YtdpcncpfbaigeaaDoor
