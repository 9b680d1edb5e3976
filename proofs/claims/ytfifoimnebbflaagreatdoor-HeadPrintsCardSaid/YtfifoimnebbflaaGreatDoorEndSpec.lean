/- Where a head ends, as plain lists. No program here. -/
import Derived.Test.YtfifoimnebbflaaGreatDoorIdxSpec
namespace Go.Proofs.YtfifoimnebbflaaGreatDoor
open Go.RowKit

def endI (b : List UInt8) : Int := Lib.index (b.take 16384) endL
def endE (b : List UInt8) : Nat := if 0 ≤ endI b then 0 else if 16384 ≤ b.length then 6 else 5
def endN (b : List UInt8) : Nat := if 0 ≤ endI b then (endI b).toNat + 4 else 0
theorem occ_take (l sub : List UInt8) (N j : Nat) : Lib.occAt (l.take N) sub j = true ↔ Lib.occAt l sub j = true ∧ (sub.length ≤ N - j) := by
  unfold Lib.occAt
  rw [List.isPrefixOf_iff_prefix, List.isPrefixOf_iff_prefix, List.drop_take, List.prefix_take_iff]
theorem occ_two (l : List UInt8) (i : Nat) : Lib.occAt l endL i = (Lib.occAt l crlfL i && Lib.occAt l crlfL (i + 2)) := by
  unfold Lib.occAt
  rw [← List.drop_drop]
  generalize l.drop i = m
  match m with
  | [] => rfl
  | [a] => simp [endL, crlfL, List.isPrefixOf]
  | a :: b :: m => simp [endL, crlfL, List.isPrefixOf, Bool.and_assoc]
theorem endI_hit {b : List UInt8} {k : Nat} (h4 : k + 4 ≤ 16384) (h : Lib.occAt b endL k = true) (hn : ∀ j, j < k → Lib.occAt b endL j = false) : endI b = k := by
  have hr := Lib.occAt_room h
  have hl : k + 4 ≤ b.length := by
    rcases hr with h | h
    · exact h
    · cases h
  refine Lib.index_first (by rw [List.length_take]; omega) ((occ_take _ _ _ _).2 ⟨h, by simp [endL]; omega⟩) fun j hj => ?_
  rcases hb : Lib.occAt (b.take 16384) endL j with _ | _
  · rfl
  · have := ((occ_take _ _ _ _).1 hb).1
    rw [hn j hj] at this; cases this
theorem endI_miss {b : List UInt8} {k : Nat} (hk : b.length < k + 4 ∨ 16384 < k + 4) (hn : ∀ j, j < k → Lib.occAt b endL j = false) : endI b = -1 := by
  refine Lib.index_none fun j hj => ?_
  rcases hb : Lib.occAt (b.take 16384) endL j with _ | _
  · rfl
  · obtain ⟨h1, h2⟩ := (occ_take _ _ _ _).1 hb
    rcases Lib.occAt_room h1 with h3 | h3
    · have h4 : endL.length = 4 := rfl
      rw [h4] at h2 h3
      rw [hn j (by omega)] at h1; cases h1
    · cases h3
theorem end_hit {b : List UInt8} {k : Nat} (h : endI b = k) : endE b = 0 ∧ endN b = k + 4 := by
  unfold endE endN
  rw [h, if_pos (by omega), if_pos (by omega)]
  exact ⟨rfl, by simp⟩
theorem end_miss {b : List UInt8} (h : endI b = -1) : endE b = (if 16384 ≤ b.length then 6 else 5) ∧ endN b = 0 := by
  unfold endE endN
  rw [h]
  exact ⟨if_neg (by decide), if_neg (by decide)⟩
theorem occ_step {l : List UInt8} {i : Nat} (h : i + 1 < l.length) : Lib.occAt l crlfL i = ((l[i]'(by omega)) == 13 && l[i + 1] == 10) := by
  unfold Lib.occAt
  rw [List.drop_eq_getElem_cons (show i < l.length by omega), List.drop_eq_getElem_cons h]
  generalize l[i] = x
  generalize l[i + 1] = y
  show ((13 == x) && ((10 == y) && true)) = _
  rw [Bool.and_true, Bool.beq_comm (a := (13 : UInt8)), Bool.beq_comm (a := (10 : UInt8))]
theorem occ_short {l : List UInt8} {i : Nat} (h : ¬ i + 1 < l.length) : Lib.occAt l crlfL i = false := by
  rcases hb : Lib.occAt l crlfL i with _ | _
  · rfl
  · rcases Lib.occAt_room hb with h3 | h3
    · exact absurd (show i + 1 < l.length from h3) h
    · cases h3
end Go.Proofs.YtfifoimnebbflaaGreatDoor
