/- Separators in plain lists. No program here. -/
import Derived.Test.YtfifoimnebbflaaGreatDoorOwn
import Derived.Lib.Split
import Derived.Lib.IndexMore
namespace Go.Proofs.YtfifoimnebbflaaGreatDoor
open Go.RowKit

/-! ### Cutting at a separator whose first byte stands nowhere else -/
theorem noc_at {c : UInt8} {t a b : List UInt8} (h : c ∉ a) {j : Nat} (hj : j < a.length) : Lib.occAt (a ++ b) (c :: t) j = false := by
  rcases hb : Lib.occAt (a ++ b) (c :: t) j with _ | _
  · rfl
  · exfalso
    have := Lib.occAt_head rfl hb
    rw [List.getElem?_append_left hj] at this
    exact h (List.mem_of_getElem? this)
theorem index_hit {c : UInt8} {t a b : List UInt8} (h : c ∉ a) : Lib.index (a ++ (c :: t) ++ b) (c :: t) = a.length := by
  refine Lib.index_first (by simp) ?_ fun j hj => by rw [List.append_assoc]; exact noc_at h hj
  unfold Lib.occAt
  rw [List.append_assoc, List.drop_left, List.isPrefixOf_iff_prefix]
  exact List.prefix_append _ _
theorem index_miss {c : UInt8} {t a : List UInt8} (h : c ∉ a) : Lib.index a (c :: t) = -1 := by
  refine Lib.index_none fun j hj => ?_
  rcases Nat.lt_or_ge j a.length with hl | hl
  · have := noc_at (b := []) (t := t) h hl
    rwa [List.append_nil] at this
  · unfold Lib.occAt
    rw [List.drop_eq_nil_of_le hl]; rfl
theorem splitK_none {c : UInt8} {t a : List UInt8} (h : c ∉ a) : ∀ k, Lib.splitK (c :: t) 0 k a = [a]
  | 0 => rfl
  | k + 1 => by unfold Lib.splitK; rw [index_miss h]; rfl
theorem splitK_hit {c : UInt8} {t a b : List UInt8} (h : c ∉ a) (k : Nat) : Lib.splitK (c :: t) 0 (k + 1) (a ++ (c :: t) ++ b) = a :: Lib.splitK (c :: t) 0 k b := by
  have hi := index_hit (t := t) (b := b) h
  conv => lhs; unfold Lib.splitK
  rw [hi, if_neg (by simp)]
  simp only [Int.toNat_natCast, Nat.add_zero]
  rw [List.append_assoc, List.take_left, ← List.append_assoc, show a.length + (c :: t).length = (a ++ (c :: t)).length by simp, List.drop_left]
theorem split_none {c : UInt8} {t a : List UInt8} (h : c ∉ a) : Lib.split a (c :: t) = [a] := splitK_none h _
theorem split_hit {c : UInt8} {t a b : List UInt8} (h : c ∉ a) : Lib.split (a ++ (c :: t) ++ b) (c :: t) = a :: Lib.split b (c :: t) := by
  unfold Lib.split
  rw [Lib.count_hit (by simp) (index_hit (b := b) h), show a.length + (c :: t).length = (a ++ (c :: t)).length by simp, List.drop_left, Nat.add_comm 1, splitK_hit h]
theorem splitK_ne : ∀ (k : Nat) (sep : List UInt8) (sv : Nat) (s : List UInt8), Lib.splitK sep sv k s ≠ []
  | 0, _, _, _ => by simp [Lib.splitK]
  | k + 1, sep, sv, s => by unfold Lib.splitK; split <;> simp
theorem split_pos (s sep : List UInt8) : 1 ≤ (Lib.split s sep).length := by
  rcases h : Lib.split s sep with _ | ⟨x, l⟩
  · exact absurd h (splitK_ne _ _ _ _)
  · simp
theorem splitK_mem : ∀ (k : Nat) (sep : List UInt8) (s x : List UInt8), x ∈ Lib.splitK sep 0 k s → x.length ≤ s.length
  | 0, _, s, x, h => by simp [Lib.splitK] at h; subst h; exact Nat.le_refl _
  | k + 1, sep, s, x, h => by
    unfold Lib.splitK at h
    split at h
    · simp at h; subst h; exact Nat.le_refl _
    · rcases List.mem_cons.1 h with rfl | h
      · simp; omega
      · have := splitK_mem k sep _ x h
        simp at this; omega
theorem splitK_len : ∀ (k : Nat) (sep : List UInt8) (s : List UInt8), (Lib.splitK sep 0 k s).length ≤ k + 1
  | 0, _, _ => by simp [Lib.splitK]
  | k + 1, sep, s => by
    unfold Lib.splitK
    split
    · simp
    · have := splitK_len k sep (s.drop ((Lib.index s sep).toNat + sep.length))
      simp only [List.length_cons]; omega

def crlfL : List UInt8 := [13, 10]
def endL : List UInt8 := [13, 10, 13, 10]
theorem trimSuffix_append (a b : List UInt8) : Lib.hasSuffix (a ++ b) b = true ∧ Lib.trimSuffix (a ++ b) b = a := by
  have h : Lib.hasSuffix (a ++ b) b = true := by unfold Lib.hasSuffix; rw [List.isSuffixOf_iff_suffix]; exact List.suffix_append _ _
  refine ⟨h, ?_⟩
  unfold Lib.trimSuffix
  rw [if_pos h]; simp
end Go.Proofs.YtfifoimnebbflaaGreatDoor
