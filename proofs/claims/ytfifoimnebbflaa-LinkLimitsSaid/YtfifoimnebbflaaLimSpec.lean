/- LinkLimits: where the head ends in bytes 'a', with an end behind them or none. No program here. -/
import Derived.Test.YtfifoimnebbflaaEndSpec
namespace Go.Proofs.Ytfifoimnebbflaa
open Go.RowKit
set_option linter.unusedVariables false
set_option linter.unusedSimpArgs false

def limL (size : Nat) (ends : Bool) : List UInt8 := if ends then List.replicate (size - 4) 97 ++ endL else List.replicate size 97
theorem limL_len {size : Nat} (h : 4 ≤ size) (ends : Bool) : (limL size ends).length = size := by
  unfold limL
  split <;> simp [endL] <;> omega
theorem occ_13 {l : List UInt8} {j : Nat} (h : Lib.occAt l endL j = true) : l[j]? = some 13 := by
  unfold Lib.occAt at h
  have : l[j]? = (l.drop j)[0]? := by simp
  rw [this]
  generalize l.drop j = m at h
  cases m with
  | nil => simp [endL, List.isPrefixOf] at h
  | cons a m =>
    simp only [endL, List.isPrefixOf, Bool.and_eq_true, beq_iff_eq] at h
    simp [← h.1]
theorem lim_no {size : Nat} {ends : Bool} (h : ends = false ∨ 16384 < size) : endI (limL size ends) = -1 := by
  refine Lib.index_none fun j hj => ?_
  rcases hb : Lib.occAt ((limL size ends).take 16384) endL j with _ | _
  · rfl
  · obtain ⟨h1, h2⟩ := (occ_take _ _ _ _).1 hb
    have h3 := occ_13 h1
    have h4 : endL.length = 4 := rfl
    rw [h4] at h2
    unfold limL at h3
    cases ends with
    | false =>
      simp only [Bool.false_eq_true, if_false] at h3
      have := (List.mem_replicate.1 (List.mem_of_getElem? h3)).2
      exact absurd this (by decide)
    | true =>
      simp only [if_true] at h3
      have hs : 16384 < size := by
        rcases h with h | h
        · cases h
        · exact h
      by_cases hjs : j < size - 4
      · rw [List.getElem?_append_left (by simpa using hjs)] at h3
        have := (List.mem_replicate.1 (List.mem_of_getElem? h3)).2
        exact absurd this (by decide)
      · omega
theorem lim_yes {size : Nat} (h4 : 4 ≤ size) (h : size ≤ 16384) : endI (limL size true) = ((size - 4 : Nat) : Int) := by
  unfold endI limL
  rw [if_pos rfl, List.take_of_length_le (by simp [endL]; omega)]
  have := index_hit (c := 13) (t := [10, 13, 10]) (a := List.replicate (size - 4) 97) (b := []) (fun hc => by
    have := (List.mem_replicate.1 hc).2; exact absurd this (by decide))
  rw [List.append_nil, List.length_replicate] at this
  exact this
theorem lim_end (size : Nat) (ends : Bool) (h4 : 4 ≤ size) :
    (ends = true ∧ size ≤ 16384 ∧ endE (limL size ends) = 0 ∧ endN (limL size ends) = size) ∨
    (¬ (ends = true ∧ size ≤ 16384) ∧ endE (limL size ends) = if 16384 ≤ size then 6 else 5) := by
  by_cases hc : ends = true ∧ size ≤ 16384
  · obtain ⟨rfl, hs⟩ := hc
    obtain ⟨e1, e2⟩ := end_hit (lim_yes h4 hs)
    exact .inl ⟨rfl, hs, e1, by rw [e2]; omega⟩
  · have hn : ends = false ∨ 16384 < size := by
      cases ends with
      | false => exact .inl rfl
      | true =>
        right
        by_cases h : size ≤ 16384
        · exact absurd ⟨rfl, h⟩ hc
        · omega
    obtain ⟨e1, -⟩ := end_miss (lim_no hn)
    rw [limL_len h4] at e1
    exact .inr ⟨hc, e1⟩
end Go.Proofs.Ytfifoimnebbflaa
