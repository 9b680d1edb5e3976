/- FieldSplits returns true for any string. -/
import Derived.Test.YtgdjlmpfjmakkaaDoorAns16
import Derived.Test.YtgdjlmpfjmakkaaDoorRefSplit
import Derived.Test.YtgdjlmpfjmakkaaDoorTexts
namespace Go.Proofs.YtgdjlmpfjmakkaaDoor.FieldSplitsP
open Go.RowKit

theorem dropWhile_first {p : UInt8 → Bool} : ∀ l : List UInt8, l.dropWhile p = [] ∨ ∃ a, (l.dropWhile p).head? = some a ∧ p a = false
  | [] => .inl rfl
  | x :: l => by
    rw [List.dropWhile_cons]
    by_cases h : p x = true
    · rw [if_pos h]; exact dropWhile_first l
    · rw [if_neg h]; exact .inr ⟨x, rfl, by simpa using h⟩
theorem dropWhile_last {p : UInt8 → Bool} : ∀ l : List UInt8, l.dropWhile p = [] ∨ (l.dropWhile p).getLast? = l.getLast?
  | [] => .inl rfl
  | x :: l => by
    rw [List.dropWhile_cons]
    by_cases h : p x = true
    · rw [if_pos h]
      rcases dropWhile_last (p := p) l with h1 | h1
      · exact .inl h1
      · by_cases h2 : l.dropWhile p = []
        · exact .inl h2
        · right
          rw [h1]
          cases l with
          | nil => simp at h2
          | cons y l => simp [List.getLast?_cons]
    · rw [if_neg h]; exact .inr rfl
theorem trim_idem (y : List UInt8) : trimL (trimL y) = trimL y := by
  have h1 : trimL y = [] ∨ ∃ a, (trimL y).head? = some a ∧ blankB a = false := dropWhile_first (p := blankB) _
  have h2 : trimL y = [] ∨ ∃ a, (trimL y).getLast? = some a ∧ blankB a = false := by
    rcases dropWhile_last (p := blankB) (Lib.trimRightS y [32, 9]) with h | h
    · exact .inl h
    · rcases dropWhile_first (p := blankB) y.reverse with h3 | ⟨a, h3, h4⟩
      · left
        have : Lib.trimRightS y [32, 9] = [] := by show (y.reverse.dropWhile blankB).reverse = []; rw [h3]; rfl
        show (Lib.trimRightS y [32, 9]).dropWhile blankB = []
        rw [this]; rfl
      · right
        refine ⟨a, ?_, h4⟩
        show ((Lib.trimRightS y [32, 9]).dropWhile blankB).getLast? = some a
        rw [h]
        show ((y.reverse.dropWhile blankB).reverse).getLast? = some a
        rw [List.getLast?_reverse, h3]
  have := trim_mid [] (trimL y) [] rfl rfl h1 h2
  simpa using this
theorem trimL_length (l : List UInt8) : (trimL l).length ≤ l.length := by
  show ((Lib.trimRightS l [32, 9]).dropWhile blankB).length ≤ _
  have h1 : ∀ (p : UInt8 → Bool) (m : List UInt8), (m.dropWhile p).length ≤ m.length := fun p m => (List.dropWhile_suffix p).length_le
  refine Nat.le_trans (h1 _ _) ?_
  show ((l.reverse.dropWhile blankB).reverse).length ≤ _
  rw [List.length_reverse]
  refine Nat.le_trans (h1 _ _) ?_
  simp
theorem piece_mem {l x : List UInt8} (h : x ∈ pieceL l) : x.length ≤ l.length := by
  unfold pieceL at h
  split at h
  · simp at h
  · simp at h; subst h; exact trimL_length l
theorem split_mem : ∀ (n : Nat) (l : List UInt8), l.length ≤ n → ∀ x ∈ splitL l, x.length ≤ l.length
  | n, l, h, x, hx => by
    by_cases hc : cutL false l < l.length
    · rw [splitL_step l hc, List.mem_append] at hx
      rcases hx with hx | hx
      · exact Nat.le_trans (piece_mem hx) (by simp; omega)
      · match n with
        | 0 => omega
        | n + 1 => exact Nat.le_trans (split_mem n _ (by simp; omega) x hx) (by simp)
    · rw [splitL_last l hc] at hx; exact piece_mem hx

end Go.Proofs.YtgdjlmpfjmakkaaDoor.FieldSplitsP
