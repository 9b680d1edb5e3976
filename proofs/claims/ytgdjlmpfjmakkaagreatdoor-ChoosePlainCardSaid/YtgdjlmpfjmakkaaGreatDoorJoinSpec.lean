/- Members joined are split into the same members: plain lists. -/
import Derived.Test.YtgdjlmpfjmakkaaGreatDoorRefName
import Derived.Test.YtgdjlmpfjmakkaaGreatDoorHas
namespace Go.Proofs.YtgdjlmpfjmakkaaGreatDoor

theorem cut_blank : ∀ (p r : List UInt8), p.all blankB = true → cutL false (p ++ r) = p.length + cutL false r
  | [], r, _ => by simp
  | c :: p, r, h => by
    simp only [List.all_cons, Bool.and_eq_true] at h
    have hc : c ≠ 34 ∧ c ≠ 44 := by
      constructor <;> (rintro rfl; exact absurd h.1 (by decide))
    rw [List.cons_append, cutL_other false c _ (by simp) hc.1 (by simp [hc.2]), cut_blank p r h.2, List.length_cons]; omega
theorem name_not {c : UInt8} (h : nameB c = true) : c ≠ 34 ∧ c ≠ 44 ∧ c ≠ 92 ∧ blankB c = false := by
  refine ⟨?_, ?_, ?_, ?_⟩
  · rintro rfl; exact absurd h (by decide)
  · rintro rfl; exact absurd h (by decide)
  · rintro rfl; exact absurd h (by decide)
  · rcases hb : blankB c with _ | _
    · rfl
    · have : c = 32 ∨ c = 9 := by simpa [blankB] using hb
      rcases this with rfl | rfl <;> exact absurd h (by decide)
theorem cut_names : ∀ (q : Bool) (p r : List UInt8), p.all nameB = true → cutL q (p ++ r) = p.length + cutL q r
  | q, [], r, _ => by simp
  | q, c :: p, r, h => by
    simp only [List.all_cons, Bool.and_eq_true] at h
    obtain ⟨h1, h2, h3, _⟩ := name_not h.1
    rw [List.cons_append, cutL_other q c _ (by simp [h3]) h1 (by simp [h2]), cut_names q p r h.2, List.length_cons]; omega

/-- A member that is found again. -/
structure Memb (x : List UInt8) : Prop where
  ne : x ≠ []
  scan : ∀ r, cutL false (x ++ r) = x.length + cutL false r
  first : x = [] ∨ ∃ a, x.head? = some a ∧ blankB a = false
  last : x = [] ∨ ∃ a, x.getLast? = some a ∧ blankB a = false
def quotedL (x : List UInt8) : List UInt8 := [34] ++ x ++ [44, 92, 34] ++ x ++ [34]
theorem quotedL_len (x : List UInt8) : (quotedL x).length = x.length + x.length + 5 := by simp [quotedL]; omega
theorem memb_name {x : List UInt8} (h : goodNameL x = true) : Memb x := by
  simp only [goodNameL, Bool.and_eq_true, decide_eq_true_eq] at h
  have hne : x ≠ [] := by rintro rfl; simp at h
  refine ⟨hne, fun r => cut_names false x r h.1.1, .inr ?_, .inr ?_⟩
  · refine ⟨x.head hne, List.head?_eq_some_head hne, (name_not (List.all_eq_true.1 h.1.1 _ (List.head_mem hne))).2.2.2⟩
  · refine ⟨x.getLast hne, List.getLast?_eq_some_getLast hne, (name_not (List.all_eq_true.1 h.1.1 _ (List.getLast_mem hne))).2.2.2⟩
theorem memb_quoted {x : List UInt8} (h : goodNameL x = true) : Memb (quotedL x) := by
  simp only [goodNameL, Bool.and_eq_true, decide_eq_true_eq] at h
  refine ⟨by simp [quotedL], fun r => ?_, .inr ⟨34, by simp [quotedL], by decide⟩, by right; refine ⟨34, ?_, by decide⟩; unfold quotedL; exact List.getLast?_concat⟩
  have e : quotedL x ++ r = 34 :: (x ++ (44 :: 92 :: 34 :: (x ++ (34 :: r)))) := by simp [quotedL]
  rw [e, quotedL_len, cutL_quote false 34 _ rfl, cut_names _ x _ h.1.1, Bool.not_false, cutL_other true 44 _ (by simp) (by decide) (by simp), cutL_esc 92 _ rfl]
  simp only []
  rw [cut_names _ x _ h.1.1, cutL_quote true 34 _ rfl, Bool.not_true]; omega

theorem split_at (a r : List UInt8) (h : ∀ r, cutL false (a ++ r) = a.length + cutL false r) : splitL (a ++ 44 :: r) = pieceL a ++ splitL r := by
  have h1 : cutL false (a ++ 44 :: r) = a.length := by rw [h, cutL_comma 44 r rfl]; rfl
  rw [splitL_step _ (by rw [h1]; simp), h1]
  rw [List.take_left, List.drop_append, List.drop_eq_nil_of_le (by omega)]
  simp
theorem piece_memb {x p s : List UInt8} (h : Memb x) (hp : p.all blankB = true) (hs : s.all blankB = true) : pieceL (p ++ x ++ s) = [x] := by
  unfold pieceL; rw [trim_mid p x s hp hs h.first h.last, if_neg h.ne]
def joinL (sep : List UInt8) : List (List UInt8) → List UInt8
  | [] => []
  | [x] => x
  | x :: y :: l => x ++ sep ++ joinL sep (y :: l)
theorem joinL_snoc (sep x : List UInt8) : ∀ (l : List (List UInt8)), l ≠ [] → joinL sep (l ++ [x]) = joinL sep l ++ sep ++ x
  | [], h => absurd rfl h
  | [y], _ => rfl
  | y :: z :: l, _ => by
    have := joinL_snoc sep x (z :: l) (by simp)
    show y ++ sep ++ joinL sep (z :: l ++ [x]) = y ++ sep ++ joinL sep (z :: l) ++ sep ++ x
    rw [this]; simp
theorem joinL_len (sep : List UInt8) (hs : sep.length ≤ 4) : ∀ (l : List (List UInt8)), (∀ x ∈ l, x.length ≤ 600) → (joinL sep l).length ≤ l.length * 604
  | [], _ => by simp [joinL]
  | [x], h => by have := h x (by simp); simp [joinL]; omega
  | x :: y :: l, h => by
    have h1 := h x (by simp)
    have h2 := joinL_len sep hs (y :: l) fun z hz => h z (by simp at hz ⊢; right; exact hz)
    show (x ++ sep ++ joinL sep (y :: l)).length ≤ _
    rw [List.length_append, List.length_append, List.length_cons]; omega
/-- A separator: blanks, a comma, and perhaps more. -/
theorem split_join (s1 s2 : List UInt8) (h1 : s1.all blankB = true) (h2 : s2.all blankB = true ∨ ∃ s3, s2 = 44 :: s3 ∧ s3.all blankB = true) : ∀ (l : List (List UInt8)) (p : List UInt8), p.all blankB = true → (∀ x ∈ l, Memb x) →
    splitL (p ++ joinL (s1 ++ 44 :: s2) l) = l
  | [], p, hp, _ => by
    have hc : cutL false p = p.length := by have := cut_blank p [] hp; simpa [cutL] using this
    have ht : trimL p = [] := by have := trim_mid p [] [] hp rfl (.inl rfl) (.inl rfl); simpa using this
    show splitL (p ++ []) = []
    rw [List.append_nil, splitL_last p (by omega), pieceL, ht]; rfl
  | [x], p, hp, hm => by
    have hx := hm x (by simp)
    have hc : cutL false (p ++ x) = (p ++ x).length := by
      have e := hx.scan []
      rw [cut_blank p x hp, List.length_append]; simp [cutL] at e; omega
    show splitL (p ++ x) = [x]
    rw [splitL_last _ (by omega)]
    have := piece_memb hx hp (s := []) rfl
    simpa using this
  | x :: y :: l, p, hp, hm => by
    have hx := hm x (by simp)
    have hl : ∀ z ∈ y :: l, Memb z := fun z hz => hm z (by simp at hz ⊢; right; exact hz)
    have e : p ++ joinL (s1 ++ 44 :: s2) (x :: y :: l) = (p ++ x ++ s1) ++ 44 :: (s2 ++ joinL (s1 ++ 44 :: s2) (y :: l)) := by simp [joinL]
    rw [e, split_at _ _ (fun r => by rw [List.append_assoc, List.append_assoc, cut_blank p _ hp, hx.scan, cut_blank s1 r h1]; simp; omega), piece_memb hx hp h1]
    rcases h2 with h2 | ⟨s3, rfl, h3⟩
    · rw [split_join s1 s2 h1 (.inl h2) (y :: l) s2 h2 hl]; rfl
    · have := split_at [] (s3 ++ joinL (s1 ++ 44 :: 44 :: s3) (y :: l)) (fun r => by simp)
      simp only [List.nil_append] at this
      show [x] ++ splitL (44 :: (s3 ++ joinL (s1 ++ 44 :: 44 :: s3) (y :: l))) = _
      rw [this, split_join s1 (44 :: s3) h1 (.inr ⟨s3, rfl, h3⟩) (y :: l) s3 h3 hl]
      have h0 : trimL [] = [] := by have := trim_mid [] [] [] rfl rfl (.inl rfl) (.inl rfl); simpa using this
      simp [pieceL, h0]
/-- The item of a place. -/
def itemL (i : Nat) (x : List UInt8) : List (List UInt8) := if goodNameL x then [if i % 3 = 2 then quotedL x else x] else []
def itemsL (ls : List (List UInt8)) (k : Nat) : List (List UInt8) := (List.range k).flatMap fun i => itemL i (ls.getD i [])
theorem itemsL_succ (ls : List (List UInt8)) (k : Nat) (h : k < ls.length) : itemsL ls (k + 1) = itemsL ls k ++ itemL k ls[k] := by
  unfold itemsL
  rw [List.range_succ, List.flatMap_append, List.flatMap_cons, List.flatMap_nil, List.append_nil, List.getD_eq_getElem?_getD, List.getElem?_eq_getElem h]; rfl
theorem itemL_len (i : Nat) (x : List UInt8) : (itemL i x).length ≤ 1 ∧ ∀ y ∈ itemL i x, Memb y ∧ y.length ≤ 600 := by
  unfold itemL
  split
  · rename_i h
    refine ⟨by simp, fun y hy => ?_⟩
    have hx : x.length ≤ 256 := by simp only [goodNameL, Bool.and_eq_true, decide_eq_true_eq] at h; exact h.2
    simp only [List.mem_singleton] at hy
    subst hy
    split
    · exact ⟨memb_quoted h, by rw [quotedL_len]; omega⟩
    · exact ⟨memb_name h, by omega⟩
  · simp
theorem itemsL_all (ls : List (List UInt8)) (k : Nat) : (itemsL ls k).length ≤ k ∧ ∀ y ∈ itemsL ls k, Memb y ∧ y.length ≤ 600 := by
  induction k with
  | zero => simp [itemsL]
  | succ k ih =>
    have e : itemsL ls (k + 1) = itemsL ls k ++ itemL k (ls.getD k []) := by unfold itemsL; rw [List.range_succ, List.flatMap_append, List.flatMap_cons, List.flatMap_nil, List.append_nil]
    have hi := itemL_len k (ls.getD k [])
    rw [e]
    refine ⟨by rw [List.length_append]; omega, fun y hy => ?_⟩
    rcases List.mem_append.1 hy with hy | hy
    · exact ih.2 y hy
    · exact hi.2 y hy
def sepL (q : Nat) : List UInt8 := if q = 0 then [44] else if q = 1 then [44, 32] else if q = 2 then [32, 44] else [9, 44, 44, 32]
theorem sepL_len (q : Nat) : (sepL q).length ≤ 4 := by unfold sepL; split <;> (try split) <;> (try split) <;> simp
theorem split_items (q : Nat) (ls : List (List UInt8)) (k : Nat) : splitL (joinL (sepL q) (itemsL ls k)) = itemsL ls k := by
  have hm := fun x hx => ((itemsL_all ls k).2 x hx).1
  by_cases h0 : q = 0
  · have e : sepL q = [] ++ 44 :: [] := by simp [sepL, h0]
    rw [e]; exact split_join [] [] rfl (.inl rfl) _ [] rfl hm
  · by_cases h1 : q = 1
    · have e : sepL q = [] ++ 44 :: [32] := by simp [sepL, h1]
      rw [e]; exact split_join [] [32] rfl (.inl rfl) _ [] rfl hm
    · by_cases h2 : q = 2
      · have e : sepL q = [32] ++ 44 :: [] := by simp [sepL, h2]
        rw [e]; exact split_join [32] [] rfl (.inl rfl) _ [] rfl hm
      · have e : sepL q = [9] ++ 44 :: [44, 32] := by simp [sepL, h0, h1, h2]
        rw [e]; exact split_join [9] [44, 32] rfl (.inr ⟨[32], rfl, rfl⟩) _ [] rfl hm
end Go.Proofs.YtgdjlmpfjmakkaaGreatDoor
