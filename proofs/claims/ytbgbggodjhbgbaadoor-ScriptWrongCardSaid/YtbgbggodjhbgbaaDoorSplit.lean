/- What the members of a value are: plain lists. -/
import Derived.Test.YtbgbggodjhbgbaaDoorTrim
import Derived.Deep.LoopGhost
namespace Go.Proofs.YtbgbggodjhbgbaaDoor

/-- How long the first member is; q: within quotes. -/
def cutL : Bool → List UInt8 → Nat
  | _, [] => 0
  | q, c :: l =>
    if q && c == 92 then
      match l with
      | [] => 1
      | _ :: l' => cutL q l' + 2
    else if c == 34 then cutL (!q) l + 1
    else if !q && c == 44 then 0
    else cutL q l + 1
theorem cutL_le : ∀ (n : Nat) (q : Bool) (l : List UInt8), l.length ≤ n → cutL q l ≤ l.length
  | _, q, [], _ => by simp [cutL]
  | 0, q, c :: l, h => by simp at h
  | n + 1, q, c :: l, h => by
    have h' : l.length ≤ n := by simpa using h
    unfold cutL
    split
    · cases l with
      | nil => simp
      | cons d l' => have := cutL_le n q l' (by simp at h'; omega); simp; omega
    · split
      · have := cutL_le n (!q) l h'; simp; omega
      · split
        · simp
        · have := cutL_le n q l h'; simp; omega
theorem cut_le (q : Bool) (l : List UInt8) : cutL q l ≤ l.length := cutL_le l.length q l (Nat.le_refl _)
/-- A member, if it is one. -/
def pieceL (l : List UInt8) : List (List UInt8) := if trimL l = [] then [] else [trimL l]
/-- The members. -/
def splitL (l : List UInt8) : List (List UInt8) :=
  if _h : cutL false l < l.length then pieceL (l.take (cutL false l)) ++ splitL (l.drop (cutL false l + 1)) else pieceL l
termination_by l.length
decreasing_by simp; omega
theorem splitL_step (l : List UInt8) (h : cutL false l < l.length) : splitL l = pieceL (l.take (cutL false l)) ++ splitL (l.drop (cutL false l + 1)) := by rw [splitL, dif_pos h]
theorem splitL_last (l : List UInt8) (h : ¬ cutL false l < l.length) : splitL l = pieceL l := by rw [splitL, dif_neg h]
theorem pieceL_length (l : List UInt8) : (pieceL l).length ≤ 1 := by unfold pieceL; split <;> simp
theorem splitL_length : ∀ (n : Nat) (l : List UInt8), l.length ≤ n → (splitL l).length ≤ l.length + 1
  | 0, l, h => by
    have : ¬ cutL false l < l.length := by omega
    rw [splitL_last l this]; have := pieceL_length l; omega
  | n + 1, l, h => by
    by_cases hc : cutL false l < l.length
    · rw [splitL_step l hc, List.length_append]
      have h1 := pieceL_length (l.take (cutL false l))
      have h2 := splitL_length n (l.drop (cutL false l + 1)) (by simp; omega)
      simp at h2; omega
    · rw [splitL_last l hc]; have := pieceL_length l; omega
theorem split_length (l : List UInt8) : (splitL l).length ≤ l.length + 1 := splitL_length l.length l (Nat.le_refl _)
/-- No member is empty. -/
theorem splitL_ne : ∀ (n : Nat) (l : List UInt8), l.length ≤ n → ∀ x ∈ splitL l, x ≠ [] ∧ ∃ y, x = trimL y
  | n, l, h, x, hx => by
    have hp : ∀ m : List UInt8, x ∈ pieceL m → x ≠ [] ∧ ∃ y, x = trimL y := fun m hm => by
      unfold pieceL at hm
      split at hm
      · simp at hm
      · rename_i hne
        simp at hm; subst hm; exact ⟨hne, m, rfl⟩
    by_cases hc : cutL false l < l.length
    · rw [splitL_step l hc, List.mem_append] at hx
      rcases hx with hx | hx
      · exact hp _ hx
      · match n with
        | 0 => omega
        | n + 1 => exact splitL_ne n _ (by simp; omega) x hx
    · rw [splitL_last l hc] at hx; exact hp _ hx

/-- The cells that hold texts. -/
def scells (ls : List (List UInt8)) : List Value := ls.map fun l => .string ⟨l.toArray⟩
theorem scells_length (ls : List (List UInt8)) : (scells ls).length = ls.length := by simp [scells]
theorem scells_append (a b : List (List UInt8)) : scells a ++ scells b = scells (a ++ b) := by simp [scells]
theorem scells_one (ls : List (List UInt8)) : ∀ u ∈ scells ls, u.oneCell' = true := by
  intro u hu
  obtain ⟨b, _, rfl⟩ := List.mem_map.1 hu
  rfl
theorem scells_take (l : List (List UInt8)) (k : Nat) : (scells l).take k = scells (l.take k) := by simp [scells, List.map_take]
theorem scells_drop (l : List (List UInt8)) (k : Nat) : (scells l).drop k = scells (l.drop k) := by simp [scells, List.map_drop]
theorem scells_get (ls : List (List UInt8)) (k : Nat) (h : k < ls.length) : (scells ls)[k]? = some (.string ⟨ls[k].toArray⟩) := by simp [scells, h]
theorem own_snoc_str {w : World} {base e n : Nat} {v : Value} {ls : List (List UInt8)} {s : ByteArray} {b : List UInt8} (h : w.ownsRow base e 1 v (n + 1) (scells ls ++ (#[Value.string s]).toList)) (hx : s.data.toList = b) : w.ownsRow base e 1 v (n + 1) (scells (ls ++ [b])) := by
  subst hx; simpa [scells, bytes_of] using h

/-- A step of the scan. -/
theorem cutL_cons (q : Bool) (c : UInt8) (l : List UInt8) : cutL q (c :: l) =
    if q && c == 92 then (match l with | [] => 1 | _ :: l' => cutL q l' + 2) else if c == 34 then cutL (!q) l + 1 else if !q && c == 44 then 0 else cutL q l + 1 := by
  conv => lhs; unfold cutL
theorem cutL_esc (c : UInt8) (l : List UInt8) (h : c = 92) : cutL true (c :: l) = match l with | [] => 1 | _ :: l' => cutL true l' + 2 := by subst h; rw [cutL_cons, if_pos (by decide)]
theorem cutL_quote (q : Bool) (c : UInt8) (l : List UInt8) (h : c = 34) : cutL q (c :: l) = cutL (!q) l + 1 := by
  subst h; rw [cutL_cons, if_neg (by cases q <;> decide), if_pos (by decide)]
theorem cutL_comma (c : UInt8) (l : List UInt8) (h : c = 44) : cutL false (c :: l) = 0 := by subst h; rw [cutL_cons, if_neg (by decide), if_neg (by decide), if_pos (by decide)]
theorem cutL_other (q : Bool) (c : UInt8) (l : List UInt8) (h1 : ¬ (q = true ∧ c = 92)) (h2 : c ≠ 34) (h3 : ¬ (q = false ∧ c = 44)) : cutL q (c :: l) = cutL q l + 1 := by
  rw [cutL_cons, if_neg (by simpa using h1), if_neg (by simpa using h2), if_neg (by simpa using h3)]
end Go.Proofs.YtbgbggodjhbgbaaDoor

/- field.cut, field.Split and the reference's Split: the members of a value. -/
namespace Go.Proofs.YtbgbggodjhbgbaaDoor
open Go.RowKit

/-- cut at a place of the scan: what a byte does. -/
theorem cut_at {s : ByteArray} {k : Nat} {q : Bool} {b : UInt8} (hk : k < s.size) (hb : s[k] = b) (h : cutL false s.data.toList = k + cutL q (s.data.toList.drop k)) :
    (q = true ∧ b = 92 → (k + 1 = s.size → cutL false s.data.toList = s.size) ∧ (k + 2 ≤ s.size → cutL false s.data.toList = (k + 2) + cutL q (s.data.toList.drop (k + 2)))) ∧
    (b = 34 → cutL false s.data.toList = (k + 1) + cutL (!q) (s.data.toList.drop (k + 1))) ∧
    (q = false ∧ b = 44 → cutL false s.data.toList = k) ∧
    (¬ (q = true ∧ b = 92) → b ≠ 34 → ¬ (q = false ∧ b = 44) → cutL false s.data.toList = (k + 1) + cutL q (s.data.toList.drop (k + 1))) := by
  have hd := drop_cons s k hk
  rw [hb] at hd
  rw [hd] at h
  refine ⟨?_, ?_, ?_, ?_⟩
  · rintro ⟨rfl, rfl⟩
    rw [cutL_esc _ _ rfl] at h
    constructor
    · intro he
      rw [drop_all s (k + 1) (by omega)] at h
      simp at h; omega
    · intro he
      rw [drop_cons s (k + 1) (by omega)] at h
      simp only [show k + 1 + 1 = k + 2 from rfl] at h
      omega
  · intro he
    rw [cutL_quote q b _ he] at h; omega
  · rintro ⟨rfl, he⟩
    rw [cutL_comma b _ he] at h; omega
  · intro h1 h2 h3
    rw [cutL_other q b _ h1 h2 h3] at h; omega
theorem byte_eq_num (b : UInt8) (n : Nat) (hn : n < 256) : (((b.toNat : Int) == (n : Int)) = true ↔ b = UInt8.ofNat n) := by
  simp only [beq_iff_eq]
  constructor
  · intro h; exact UInt8.toNat_inj.1 (by simp; omega)
  · rintro rfl; simp; omega

theorem infoStr : (Tryd.prog.info? 9).map (fun i => (i.zero, i.size, i.bytes)) = some (some (.string ByteArray.empty), 1, 16) := by kernel_rfl
theorem isEmpty_mk (l : List UInt8) : (⟨l.toArray⟩ : ByteArray).toList.isEmpty = l.isEmpty := by rw [ByteArray.toList_eq]
theorem splitL_piece (l : List UInt8) (outs : List (List UInt8)) (L : List UInt8) (h : splitL L = outs ++ splitL l) :
    (cutL false l < l.length → splitL L = (outs ++ pieceL (l.take (cutL false l))) ++ splitL (l.drop (cutL false l + 1))) ∧ (¬ cutL false l < l.length → splitL L = outs ++ pieceL (l.take (cutL false l))) := by
  constructor
  · intro hc; rw [h, splitL_step l hc, List.append_assoc]
  · intro hc; rw [h, splitL_last l hc, List.take_of_length_le (by omega)]

end Go.Proofs.YtbgbggodjhbgbaaDoor

/- concertinalaw16.answers returns true. -/
namespace Go.Proofs.YtbgbggodjhbgbaaDoor
open Go.RowKit
theorem split_ab : (splitL [97, 44, 32, 98]).length = 2 := by
  have h1 : cutL false [97, 44, 32, 98] = 1 := by decide
  have h2 : cutL false [32, 98] = 2 := by decide
  rw [splitL_step _ (by rw [h1]; decide), h1]
  simp only [List.take_succ_cons, List.take_zero, List.drop_succ_cons, List.drop_zero]
  rw [splitL_last [32, 98] (by rw [h2]; decide)]
  decide
theorem low_A : lowL [65] = [97] := by decide
theorem good_ab : goodNameL [97, 45, 98] = true := by decide
end Go.Proofs.YtbgbggodjhbgbaaDoor

/- The reference's Split. -/
namespace Go.Proofs.YtbgbggodjhbgbaaDoor
open Go.RowKit

theorem cut_at' {s : ByteArray} {k C : Nat} {q : Bool} {b : UInt8} (hk : k < s.size) (hb : s[k] = b) (h : C = k + cutL q (s.data.toList.drop k)) :
    (q = true ∧ b = 92 → (k + 1 = s.size → C = k + 1) ∧ (k + 2 ≤ s.size → C = (k + 2) + cutL q (s.data.toList.drop (k + 2)))) ∧
    (b = 34 → C = (k + 1) + cutL (!q) (s.data.toList.drop (k + 1))) ∧
    (q = false ∧ b = 44 → C = k) ∧
    (¬ (q = true ∧ b = 92) → b ≠ 34 → ¬ (q = false ∧ b = 44) → C = (k + 1) + cutL q (s.data.toList.drop (k + 1))) := by
  have hd := drop_cons s k hk
  rw [hb] at hd
  rw [hd] at h
  refine ⟨?_, ?_, ?_, ?_⟩
  · rintro ⟨rfl, rfl⟩
    rw [cutL_esc _ _ rfl] at h
    constructor
    · intro he
      rw [drop_all s (k + 1) (by omega)] at h
      simp at h; omega
    · intro he
      rw [drop_cons s (k + 1) (by omega)] at h
      simp only [show k + 1 + 1 = k + 2 from rfl] at h
      omega
  · intro he
    rw [cutL_quote q b _ he] at h; omega
  · rintro ⟨rfl, he⟩
    rw [cutL_comma b _ he] at h; omega
  · intro h1 h2 h3
    rw [cutL_other q b _ h1 h2 h3] at h; omega

/-- What holds at the head of a round. -/
def SpRel (s : ByteArray) (k f : Nat) (q : Bool) (outs : List (List UInt8)) : Prop :=
  (k ≤ s.size ∧ f ≤ k ∧ splitL s.data.toList = outs ++ splitL (s.data.toList.drop f) ∧ cutL false (s.data.toList.drop f) + f = k + cutL q (s.data.toList.drop k)) ∨ (k = s.size + 1 ∧ splitL s.data.toList = outs)
theorem SpRel.length {s : ByteArray} {k f : Nat} {q : Bool} {outs : List (List UInt8)} (h : SpRel s k f q outs) : outs.length ≤ s.size + 1 := by
  have := split_length s.data.toList
  rw [← size_of] at this
  rcases h with ⟨_, _, h, _⟩ | ⟨_, h⟩
  · rw [h, List.length_append] at this; omega
  · rw [h] at this; omega
/-- The end of a member. -/
theorem SpRel.piece {s : ByteArray} {k f : Nat} {q : Bool} {outs : List (List UInt8)} (hk : k ≤ s.size) (hf : f ≤ k) (h1 : splitL s.data.toList = outs ++ splitL (s.data.toList.drop f)) (h2 : cutL false (s.data.toList.drop f) + f = k) :
    SpRel s (k + 1) (k + 1) q (outs ++ pieceL ((s.data.toList.drop f).take (k - f))) ∨ (q = true ∧ k < s.size) := by
  have hc : cutL false (s.data.toList.drop f) = k - f := by omega
  have hl : (s.data.toList.drop f).length = s.size - f := by rw [List.length_drop, ← size_of]
  have hp := splitL_piece _ _ _ h1
  rw [hc, hl] at hp
  by_cases hlt : k < s.size
  · cases q
    · left
      have := hp.1 (by omega)
      refine .inl ⟨by omega, Nat.le_refl _, ?_, by omega⟩
      rw [this, List.drop_drop]
      congr 3; omega
    · exact .inr ⟨rfl, hlt⟩
  · left
    exact .inr ⟨by omega, hp.2 (by omega)⟩

end Go.Proofs.YtbgbggodjhbgbaaDoor
