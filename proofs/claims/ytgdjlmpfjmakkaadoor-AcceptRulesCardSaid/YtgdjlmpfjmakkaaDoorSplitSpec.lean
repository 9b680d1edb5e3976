/- What the members of a value are: plain lists. -/
import Derived.Test.YtgdjlmpfjmakkaaDoorTrim
namespace Go.Proofs.YtgdjlmpfjmakkaaDoor

/-- How long the first member is; q: within quotes. -/
def cutL : Bool → List UInt8 → Nat
  | _, [] => 0
  | q, c :: l =>
    if q && c == 92 then
      match l with
      | [] => 1
      | _ :: l' => cutL q l' + 2
    else if c == 34 then cutL (!q) l + 1
    else if !q && c == 44 then 0
    else cutL q l + 1
theorem cutL_le : ∀ (n : Nat) (q : Bool) (l : List UInt8), l.length ≤ n → cutL q l ≤ l.length
  | _, q, [], _ => by simp [cutL]
  | 0, q, c :: l, h => by simp at h
  | n + 1, q, c :: l, h => by
    have h' : l.length ≤ n := by simpa using h
    unfold cutL
    split
    · cases l with
      | nil => simp
      | cons d l' => have := cutL_le n q l' (by simp at h'; omega); simp; omega
    · split
      · have := cutL_le n (!q) l h'; simp; omega
      · split
        · simp
        · have := cutL_le n q l h'; simp; omega
theorem cut_le (q : Bool) (l : List UInt8) : cutL q l ≤ l.length := cutL_le l.length q l (Nat.le_refl _)
/-- A member, if it is one. -/
def pieceL (l : List UInt8) : List (List UInt8) := if trimL l = [] then [] else [trimL l]
/-- The members. -/
def splitL (l : List UInt8) : List (List UInt8) :=
  if _h : cutL false l < l.length then pieceL (l.take (cutL false l)) ++ splitL (l.drop (cutL false l + 1)) else pieceL l
termination_by l.length
decreasing_by simp; omega
theorem splitL_step (l : List UInt8) (h : cutL false l < l.length) : splitL l = pieceL (l.take (cutL false l)) ++ splitL (l.drop (cutL false l + 1)) := by rw [splitL, dif_pos h]
theorem splitL_last (l : List UInt8) (h : ¬ cutL false l < l.length) : splitL l = pieceL l := by rw [splitL, dif_neg h]
theorem pieceL_length (l : List UInt8) : (pieceL l).length ≤ 1 := by unfold pieceL; split <;> simp
theorem splitL_length : ∀ (n : Nat) (l : List UInt8), l.length ≤ n → (splitL l).length ≤ l.length + 1
  | 0, l, h => by
    have : ¬ cutL false l < l.length := by omega
    rw [splitL_last l this]; have := pieceL_length l; omega
  | n + 1, l, h => by
    by_cases hc : cutL false l < l.length
    · rw [splitL_step l hc, List.length_append]
      have h1 := pieceL_length (l.take (cutL false l))
      have h2 := splitL_length n (l.drop (cutL false l + 1)) (by simp; omega)
      simp at h2; omega
    · rw [splitL_last l hc]; have := pieceL_length l; omega
theorem split_length (l : List UInt8) : (splitL l).length ≤ l.length + 1 := splitL_length l.length l (Nat.le_refl _)
/-- No member is empty. -/
theorem splitL_ne : ∀ (n : Nat) (l : List UInt8), l.length ≤ n → ∀ x ∈ splitL l, x ≠ [] ∧ ∃ y, x = trimL y
  | n, l, h, x, hx => by
    have hp : ∀ m : List UInt8, x ∈ pieceL m → x ≠ [] ∧ ∃ y, x = trimL y := fun m hm => by
      unfold pieceL at hm
      split at hm
      · simp at hm
      · rename_i hne
        simp at hm; subst hm; exact ⟨hne, m, rfl⟩
    by_cases hc : cutL false l < l.length
    · rw [splitL_step l hc, List.mem_append] at hx
      rcases hx with hx | hx
      · exact hp _ hx
      · match n with
        | 0 => omega
        | n + 1 => exact splitL_ne n _ (by simp; omega) x hx
    · rw [splitL_last l hc] at hx; exact hp _ hx

/-- The cells that hold texts. -/
def scells (ls : List (List UInt8)) : List Value := ls.map fun l => .string ⟨l.toArray⟩
theorem scells_length (ls : List (List UInt8)) : (scells ls).length = ls.length := by simp [scells]
theorem scells_append (a b : List (List UInt8)) : scells a ++ scells b = scells (a ++ b) := by simp [scells]
theorem scells_one (ls : List (List UInt8)) : ∀ u ∈ scells ls, u.oneCell' = true := by
  intro u hu
  obtain ⟨b, _, rfl⟩ := List.mem_map.1 hu
  rfl
theorem scells_take (l : List (List UInt8)) (k : Nat) : (scells l).take k = scells (l.take k) := by simp [scells, List.map_take]
theorem scells_drop (l : List (List UInt8)) (k : Nat) : (scells l).drop k = scells (l.drop k) := by simp [scells, List.map_drop]
theorem scells_get (ls : List (List UInt8)) (k : Nat) (h : k < ls.length) : (scells ls)[k]? = some (.string ⟨ls[k].toArray⟩) := by simp [scells, h]
theorem own_snoc_str {w : World} {base e n : Nat} {v : Value} {ls : List (List UInt8)} {s : ByteArray} {b : List UInt8} (h : w.ownsRow base e 1 v (n + 1) (scells ls ++ (#[Value.string s]).toList)) (hx : s.data.toList = b) : w.ownsRow base e 1 v (n + 1) (scells (ls ++ [b])) := by
  subst hx; simpa [scells, bytes_of] using h

/-- A step of the scan. -/
theorem cutL_cons (q : Bool) (c : UInt8) (l : List UInt8) : cutL q (c :: l) =
    if q && c == 92 then (match l with | [] => 1 | _ :: l' => cutL q l' + 2) else if c == 34 then cutL (!q) l + 1 else if !q && c == 44 then 0 else cutL q l + 1 := by
  conv => lhs; unfold cutL
theorem cutL_esc (c : UInt8) (l : List UInt8) (h : c = 92) : cutL true (c :: l) = match l with | [] => 1 | _ :: l' => cutL true l' + 2 := by subst h; rw [cutL_cons, if_pos (by decide)]
theorem cutL_quote (q : Bool) (c : UInt8) (l : List UInt8) (h : c = 34) : cutL q (c :: l) = cutL (!q) l + 1 := by
  subst h; rw [cutL_cons, if_neg (by cases q <;> decide), if_pos (by decide)]
theorem cutL_comma (c : UInt8) (l : List UInt8) (h : c = 44) : cutL false (c :: l) = 0 := by subst h; rw [cutL_cons, if_neg (by decide), if_neg (by decide), if_pos (by decide)]
theorem cutL_other (q : Bool) (c : UInt8) (l : List UInt8) (h1 : ¬ (q = true ∧ c = 92)) (h2 : c ≠ 34) (h3 : ¬ (q = false ∧ c = 44)) : cutL q (c :: l) = cutL q l + 1 := by
  rw [cutL_cons, if_neg (by simpa using h1), if_neg (by simpa using h2), if_neg (by simpa using h3)]
end Go.Proofs.YtgdjlmpfjmakkaaDoor
