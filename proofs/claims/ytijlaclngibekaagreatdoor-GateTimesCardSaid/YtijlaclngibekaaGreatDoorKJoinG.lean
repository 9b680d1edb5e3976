/- Members joined are split into the same members: plain lists. -/
import Derived.Test.YtijlaclngibekaaGreatDoorKRefName
import Derived.Test.YtijlaclngibekaaGreatDoorKHasG
import Derived.Test.YtijlaclngibekaaGreatDoorKTextsG
import Derived.Test.YtijlaclngibekaaGreatDoorKBoxG
namespace Go.Proofs.YtijlaclngibekaaGreatDoor

theorem cut_blank : ∀ (p r : List UInt8), p.all blankB = true → cutL false (p ++ r) = p.length + cutL false r
  | [], r, _ => by simp
  | c :: p, r, h => by
    simp only [List.all_cons, Bool.and_eq_true] at h
    have hc : c ≠ 34 ∧ c ≠ 44 := by
      constructor <;> (rintro rfl; exact absurd h.1 (by decide))
    rw [List.cons_append, cutL_other false c _ (by simp) hc.1 (by simp [hc.2]), cut_blank p r h.2, List.length_cons]; omega
theorem name_not {c : UInt8} (h : nameB c = true) : c ≠ 34 ∧ c ≠ 44 ∧ c ≠ 92 ∧ blankB c = false := by
  refine ⟨?_, ?_, ?_, ?_⟩
  · rintro rfl; exact absurd h (by decide)
  · rintro rfl; exact absurd h (by decide)
  · rintro rfl; exact absurd h (by decide)
  · rcases hb : blankB c with _ | _
    · rfl
    · have : c = 32 ∨ c = 9 := by simpa [blankB] using hb
      rcases this with rfl | rfl <;> exact absurd h (by decide)
theorem cut_names : ∀ (q : Bool) (p r : List UInt8), p.all nameB = true → cutL q (p ++ r) = p.length + cutL q r
  | q, [], r, _ => by simp
  | q, c :: p, r, h => by
    simp only [List.all_cons, Bool.and_eq_true] at h
    obtain ⟨h1, h2, h3, _⟩ := name_not h.1
    rw [List.cons_append, cutL_other q c _ (by simp [h3]) h1 (by simp [h2]), cut_names q p r h.2, List.length_cons]; omega

/-- A member that is found again. -/
structure Memb (x : List UInt8) : Prop where
  ne : x ≠ []
  scan : ∀ r, cutL false (x ++ r) = x.length + cutL false r
  first : x = [] ∨ ∃ a, x.head? = some a ∧ blankB a = false
  last : x = [] ∨ ∃ a, x.getLast? = some a ∧ blankB a = false
def quotedL (x : List UInt8) : List UInt8 := [34] ++ x ++ [44, 92, 34] ++ x ++ [34]
theorem quotedL_len (x : List UInt8) : (quotedL x).length = x.length + x.length + 5 := by simp [quotedL]; omega
theorem memb_name {x : List UInt8} (h : goodNameL x = true) : Memb x := by
  simp only [goodNameL, Bool.and_eq_true, decide_eq_true_eq] at h
  have hne : x ≠ [] := by rintro rfl; simp at h
  refine ⟨hne, fun r => cut_names false x r h.1.1, .inr ?_, .inr ?_⟩
  · refine ⟨x.head hne, List.head?_eq_some_head hne, (name_not (List.all_eq_true.1 h.1.1 _ (List.head_mem hne))).2.2.2⟩
  · refine ⟨x.getLast hne, List.getLast?_eq_some_getLast hne, (name_not (List.all_eq_true.1 h.1.1 _ (List.getLast_mem hne))).2.2.2⟩
theorem memb_quoted {x : List UInt8} (h : goodNameL x = true) : Memb (quotedL x) := by
  simp only [goodNameL, Bool.and_eq_true, decide_eq_true_eq] at h
  refine ⟨by simp [quotedL], fun r => ?_, .inr ⟨34, by simp [quotedL], by decide⟩, by right; refine ⟨34, ?_, by decide⟩; unfold quotedL; exact List.getLast?_concat⟩
  have e : quotedL x ++ r = 34 :: (x ++ (44 :: 92 :: 34 :: (x ++ (34 :: r)))) := by simp [quotedL]
  rw [e, quotedL_len, cutL_quote false 34 _ rfl, cut_names _ x _ h.1.1, Bool.not_false, cutL_other true 44 _ (by simp) (by decide) (by simp), cutL_esc 92 _ rfl]
  simp only []
  rw [cut_names _ x _ h.1.1, cutL_quote true 34 _ rfl, Bool.not_true]; omega

theorem split_at (a r : List UInt8) (h : ∀ r, cutL false (a ++ r) = a.length + cutL false r) : splitL (a ++ 44 :: r) = pieceL a ++ splitL r := by
  have h1 : cutL false (a ++ 44 :: r) = a.length := by rw [h, cutL_comma 44 r rfl]; rfl
  rw [splitL_step _ (by rw [h1]; simp), h1]
  rw [List.take_left, List.drop_append, List.drop_eq_nil_of_le (by omega)]
  simp
theorem piece_memb {x p s : List UInt8} (h : Memb x) (hp : p.all blankB = true) (hs : s.all blankB = true) : pieceL (p ++ x ++ s) = [x] := by
  unfold pieceL; rw [trim_mid p x s hp hs h.first h.last, if_neg h.ne]
def joinL (sep : List UInt8) : List (List UInt8) → List UInt8
  | [] => []
  | [x] => x
  | x :: y :: l => x ++ sep ++ joinL sep (y :: l)
theorem joinL_snoc (sep x : List UInt8) : ∀ (l : List (List UInt8)), l ≠ [] → joinL sep (l ++ [x]) = joinL sep l ++ sep ++ x
  | [], h => absurd rfl h
  | [y], _ => rfl
  | y :: z :: l, _ => by
    have := joinL_snoc sep x (z :: l) (by simp)
    show y ++ sep ++ joinL sep (z :: l ++ [x]) = y ++ sep ++ joinL sep (z :: l) ++ sep ++ x
    rw [this]; simp
theorem joinL_len (sep : List UInt8) (hs : sep.length ≤ 4) : ∀ (l : List (List UInt8)), (∀ x ∈ l, x.length ≤ 600) → (joinL sep l).length ≤ l.length * 604
  | [], _ => by simp [joinL]
  | [x], h => by have := h x (by simp); simp [joinL]; omega
  | x :: y :: l, h => by
    have h1 := h x (by simp)
    have h2 := joinL_len sep hs (y :: l) fun z hz => h z (by simp at hz ⊢; right; exact hz)
    show (x ++ sep ++ joinL sep (y :: l)).length ≤ _
    rw [List.length_append, List.length_append, List.length_cons]; omega
/-- A separator: blanks, a comma, and perhaps more. -/
theorem split_join (s1 s2 : List UInt8) (h1 : s1.all blankB = true) (h2 : s2.all blankB = true ∨ ∃ s3, s2 = 44 :: s3 ∧ s3.all blankB = true) : ∀ (l : List (List UInt8)) (p : List UInt8), p.all blankB = true → (∀ x ∈ l, Memb x) →
    splitL (p ++ joinL (s1 ++ 44 :: s2) l) = l
  | [], p, hp, _ => by
    have hc : cutL false p = p.length := by have := cut_blank p [] hp; simpa [cutL] using this
    have ht : trimL p = [] := by have := trim_mid p [] [] hp rfl (.inl rfl) (.inl rfl); simpa using this
    show splitL (p ++ []) = []
    rw [List.append_nil, splitL_last p (by omega), pieceL, ht]; rfl
  | [x], p, hp, hm => by
    have hx := hm x (by simp)
    have hc : cutL false (p ++ x) = (p ++ x).length := by
      have e := hx.scan []
      rw [cut_blank p x hp, List.length_append]; simp [cutL] at e; omega
    show splitL (p ++ x) = [x]
    rw [splitL_last _ (by omega)]
    have := piece_memb hx hp (s := []) rfl
    simpa using this
  | x :: y :: l, p, hp, hm => by
    have hx := hm x (by simp)
    have hl : ∀ z ∈ y :: l, Memb z := fun z hz => hm z (by simp at hz ⊢; right; exact hz)
    have e : p ++ joinL (s1 ++ 44 :: s2) (x :: y :: l) = (p ++ x ++ s1) ++ 44 :: (s2 ++ joinL (s1 ++ 44 :: s2) (y :: l)) := by simp [joinL]
    rw [e, split_at _ _ (fun r => by rw [List.append_assoc, List.append_assoc, cut_blank p _ hp, hx.scan, cut_blank s1 r h1]; simp; omega), piece_memb hx hp h1]
    rcases h2 with h2 | ⟨s3, rfl, h3⟩
    · rw [split_join s1 s2 h1 (.inl h2) (y :: l) s2 h2 hl]; rfl
    · have := split_at [] (s3 ++ joinL (s1 ++ 44 :: 44 :: s3) (y :: l)) (fun r => by simp)
      simp only [List.nil_append] at this
      show [x] ++ splitL (44 :: (s3 ++ joinL (s1 ++ 44 :: 44 :: s3) (y :: l))) = _
      rw [this, split_join s1 (44 :: s3) h1 (.inr ⟨s3, rfl, h3⟩) (y :: l) s3 h3 hl]
      have h0 : trimL [] = [] := by have := trim_mid [] [] [] rfl rfl (.inl rfl) (.inl rfl); simpa using this
      simp [pieceL, h0]
/-- The item of a place. -/
def itemL (i : Nat) (x : List UInt8) : List (List UInt8) := if goodNameL x then [if i % 3 = 2 then quotedL x else x] else []
def itemsL (ls : List (List UInt8)) (k : Nat) : List (List UInt8) := (List.range k).flatMap fun i => itemL i (ls.getD i [])
theorem itemsL_succ (ls : List (List UInt8)) (k : Nat) (h : k < ls.length) : itemsL ls (k + 1) = itemsL ls k ++ itemL k ls[k] := by
  unfold itemsL
  rw [List.range_succ, List.flatMap_append, List.flatMap_cons, List.flatMap_nil, List.append_nil, List.getD_eq_getElem?_getD, List.getElem?_eq_getElem h]; rfl
theorem itemL_len (i : Nat) (x : List UInt8) : (itemL i x).length ≤ 1 ∧ ∀ y ∈ itemL i x, Memb y ∧ y.length ≤ 600 := by
  unfold itemL
  split
  · rename_i h
    refine ⟨by simp, fun y hy => ?_⟩
    have hx : x.length ≤ 256 := by simp only [goodNameL, Bool.and_eq_true, decide_eq_true_eq] at h; exact h.2
    simp only [List.mem_singleton] at hy
    subst hy
    split
    · exact ⟨memb_quoted h, by rw [quotedL_len]; omega⟩
    · exact ⟨memb_name h, by omega⟩
  · simp
theorem itemsL_all (ls : List (List UInt8)) (k : Nat) : (itemsL ls k).length ≤ k ∧ ∀ y ∈ itemsL ls k, Memb y ∧ y.length ≤ 600 := by
  induction k with
  | zero => simp [itemsL]
  | succ k ih =>
    have e : itemsL ls (k + 1) = itemsL ls k ++ itemL k (ls.getD k []) := by unfold itemsL; rw [List.range_succ, List.flatMap_append, List.flatMap_cons, List.flatMap_nil, List.append_nil]
    have hi := itemL_len k (ls.getD k [])
    rw [e]
    refine ⟨by rw [List.length_append]; omega, fun y hy => ?_⟩
    rcases List.mem_append.1 hy with hy | hy
    · exact ih.2 y hy
    · exact hi.2 y hy
def sepL (q : Nat) : List UInt8 := if q = 0 then [44] else if q = 1 then [44, 32] else if q = 2 then [32, 44] else [9, 44, 44, 32]
theorem sepL_len (q : Nat) : (sepL q).length ≤ 4 := by unfold sepL; split <;> (try split) <;> (try split) <;> simp
theorem split_items (q : Nat) (ls : List (List UInt8)) (k : Nat) : splitL (joinL (sepL q) (itemsL ls k)) = itemsL ls k := by
  have hm := fun x hx => ((itemsL_all ls k).2 x hx).1
  by_cases h0 : q = 0
  · have e : sepL q = [] ++ 44 :: [] := by simp [sepL, h0]
    rw [e]; exact split_join [] [] rfl (.inl rfl) _ [] rfl hm
  · by_cases h1 : q = 1
    · have e : sepL q = [] ++ 44 :: [32] := by simp [sepL, h1]
      rw [e]; exact split_join [] [32] rfl (.inl rfl) _ [] rfl hm
    · by_cases h2 : q = 2
      · have e : sepL q = [32] ++ 44 :: [] := by simp [sepL, h2]
        rw [e]; exact split_join [32] [] rfl (.inl rfl) _ [] rfl hm
      · have e : sepL q = [9] ++ 44 :: [44, 32] := by simp [sepL, h0, h1, h2]
        rw [e]; exact split_join [9] [44, 32] rfl (.inr ⟨[32], rfl, rfl⟩) _ [] rfl hm
end Go.Proofs.YtijlaclngibekaaGreatDoor
/- EditHops' fields: plain lists. -/
namespace Go.Proofs.YtijlaclngibekaaGreatDoor

theorem nameB_low' (c : UInt8) : nameB (lowB c) = nameB c := by
  have h : ∀ n, n < 256 → nameB (lowB (UInt8.ofNat n)) = nameB (UInt8.ofNat n) := by decide +kernel
  have := h c.toNat c.toNat_lt
  rwa [UInt8.ofNat_toNat] at this
theorem goodNameL_low' (l : List UInt8) : goodNameL (lowL l) = goodNameL l := by
  unfold goodNameL
  rw [lowL_length]
  congr 2
  unfold lowL
  rw [List.all_map]
  exact congrArg (fun f => l.all f) (funext nameB_low')
def stayN : Nat → List UInt8
  | 0 => [67, 111, 110, 116, 101, 110, 116, 45, 76, 101, 110, 103, 116, 104]
  | 1 => [99, 111, 110, 116, 101, 110, 116, 45, 101, 110, 99, 111, 100, 105, 110, 103]
  | 2 => [72, 79, 83, 84]
  | 3 => [86, 97, 114, 121]
  | _ => [101, 116, 97, 103]
def fixN : Nat → List UInt8
  | 0 => nameCL
  | 1 => codeL
  | 2 => hostL
  | 3 => varyL
  | _ => etagL
def hopF (fs : List (List UInt8 × List UInt8)) (nm v st : List UInt8) : List (List UInt8 × List UInt8) := fs ++ [(connL, lowL nm ++ [32, 44, 32] ++ st), (nm, v), (st, [53])]
theorem stay_facts : ∀ k, k < 5 → staysB (stayN k) = true ∧ goodNameL (stayN k) = true ∧ (stayN k).length ≤ 16 := by decide
theorem stays_congr {a b : List UInt8} (h : lowL a = lowL b) : staysB a = staysB b := by rw [stays_low, stays_low, h]
theorem stay_not {st n : List UInt8} (hs : staysB st = true) (hn : goesB n = true) : sameL st n = false := by
  rcases h : sameL st n with _ | _
  · rfl
  · have := stays_congr (sameL_iff.1 h)
    rw [hs] at this
    rw [goesB, ← this] at hn; cases hn
theorem names_go (fs : List (List UInt8 × List UInt8)) : ∀ n ∈ hopL ++ namesL fs, goesB n = true := by
  intro n hn
  rcases List.mem_append.1 hn with h | h
  · exact (by decide : ∀ n ∈ hopL, goesB n = true) n h
  · exact (List.mem_filter.1 h).2
theorem hop_last (fs : List (List UInt8 × List UInt8)) (nm v st : List UInt8) (hs : staysB st = true) : ∃ G, getL (withoutL (hopF fs nm v st)) st = G ++ [[53]] := by
  have h1 : getL (withoutL (hopF fs nm v st)) st = getL (hopF fs nm v st) st := getL_stays (fun n hn => stay_not hs (names_go _ n hn)) _
  rw [h1]
  unfold hopF
  have h2 : fs ++ [(connL, lowL nm ++ [32, 44, 32] ++ st), (nm, v), (st, [53])] = (fs ++ [(connL, lowL nm ++ [32, 44, 32] ++ st), (nm, v)]) ++ [(st, [53])] := by simp
  have h3 : getL [(st, [53])] st = [[53]] := by rw [getL_cons, if_pos (sameL_refl st)]; rfl
  rw [h2, getL_append, h3]
  exact ⟨_, rfl⟩
theorem hop_gone (fs : List (List UInt8 × List UInt8)) (nm v st : List UInt8) (hg : goodNameL nm = true) (hgs : goodNameL st = true) (hs : staysB nm = false) : getL (withoutL (hopF fs nm v st)) nm = [] := by
  have hsp : splitL (lowL nm ++ [32, 44, 32] ++ st) = [lowL nm, st] := by
    have := split_join [32] [32] (by decide) (.inl (by decide)) [lowL nm, st] [] rfl (by
      intro x hx
      simp only [List.mem_cons, List.not_mem_nil, or_false] at hx
      rcases hx with rfl | rfl
      · exact memb_name (by rw [goodNameL_low']; exact hg)
      · exact memb_name hgs)
    simpa [joinL] using this
  have hval : (lowL nm ++ [32, 44, 32] ++ st) ∈ getL (hopF fs nm v st) connL := by
    unfold hopF
    rw [getL_append, getL_cons, if_pos (sameL_refl connL)]
    exact List.mem_append_right _ (by simp)
  have hmem : lowL nm ∈ namesL (hopF fs nm v st) := by
    refine List.mem_filter.2 ⟨List.mem_flatMap.2 ⟨_, hval, by rw [hsp]; simp⟩, ?_⟩
    rw [goesB, stays_congr (lowL_idem nm), hs]; rfl
  exact getL_drops (List.mem_append_right _ hmem) (lowL_idem nm).symm _
theorem hop_ok {fs : List (List UInt8 × List UInt8)} (h : fsOk fs) {nm v st : List UInt8} (h1 : nm.length ≤ 1000) (h2 : v.length ≤ 1000) (h3 : st.length ≤ 1000) : fsOk (hopF fs nm v st) := by
  refine fsOk_append h ?_
  intro f hf
  simp only [List.mem_cons, List.not_mem_nil, or_false] at hf
  rcases hf with rfl | rfl | rfl
  · refine ⟨(by decide : connL.length ≤ 1000000), ?_⟩
    show (lowL nm ++ [32, 44, 32] ++ st).length ≤ 1000000
    simp only [List.length_append, lowL_length, List.length_cons, List.length_nil]; omega
  · exact ⟨show nm.length ≤ 1000000 by omega, show v.length ≤ 1000000 by omega⟩
  · exact ⟨show st.length ≤ 1000000 by omega, (by decide : ([53] : List UInt8).length ≤ 1000000)⟩
theorem kept_any (nm : List UInt8) : staysB nm = (decide (lowL nm = fixN 0) || (decide (lowL nm = fixN 1) || (decide (lowL nm = fixN 2) || (decide (lowL nm = fixN 3) || decide (lowL nm = fixN 4))))) := by
  rw [stays_low, Bool.eq_iff_iff]; simp [stayL, fixN]
/-- Kept, by the first k of the fixed names. -/
def keptB (nm : List UInt8) (k : Nat) : Bool := (List.range k).any fun j => decide (lowL nm = fixN j)
theorem kept_snoc (nm : List UInt8) (k : Nat) : keptB nm (k + 1) = (keptB nm k || decide (lowL nm = fixN k)) := by
  unfold keptB; rw [List.range_succ, List.any_append]; simp
theorem kept_all (nm : List UInt8) : keptB nm 5 = staysB nm := by
  rw [kept_any]
  simp [keptB, List.range_succ, List.range_zero]
end Go.Proofs.YtijlaclngibekaaGreatDoor
/- EditTells: what a converted response says of its body: plain lists. -/
namespace Go.Proofs.YtijlaclngibekaaGreatDoor

theorem get_turn4 {m : List UInt8} (h : sameL varyC m = false) (fs : List (List UInt8 × List UInt8)) : getL (turn4 fs) m = getL fs m := by
  unfold turn4; split
  · have e : getL [varyF] m = [] := by
      have : getL [varyF] m = if sameL varyC m then [aeC] else [] := by rw [getL_cons]; rfl
      rw [this, if_neg (by rw [h]; simp)]
    rw [getL_append, e, List.append_nil]
  · rfl
theorem get_turn3 {m : List UInt8} (h : sameL codeC m = false) (fs : List (List UInt8 × List UInt8)) (kd : Nat) : getL (turn3 fs kd) m = getL fs m := by
  unfold turn3; split
  · exact getL_set_other h _ _
  · rfl
theorem get_turn2 {m : List UInt8} (h : sameL etagC m = false) (fs : List (List UInt8 × List UInt8)) : getL (turn2 fs) m = getL fs m := by
  unfold turn2; split
  · exact getL_set_other h _ _
  · rfl
theorem get_turn1 {m : List UInt8} (h : ∀ n ∈ [codeC, lenC, md5C, rangesC], sameL m n = false) (fs : List (List UInt8 × List UInt8)) : getL (turn1 fs) m = getL fs m := by rw [turn1_drops]; exact getL_stays h fs
theorem get_stay {m : List UInt8} (h : staysB m = true) (fs : List (List UInt8 × List UInt8)) : getL (withoutL fs) m = getL fs m := getL_stays (fun n hn => stay_not h (names_go _ n hn)) fs
section
variable (fs : List (List UInt8 × List UInt8)) (kd : Nat) (kind minor : Int) (keep : Bool)
theorem get_resp {m : List UInt8} (h1 : sameL teC m = false) (h2 : sameL connC m = false) : getL (respF fs false kd kind minor keep) m = getL (turnedL (withoutL fs) kd) m := by
  have e1 : getL [chunkF] m = [] := by
    have : getL [chunkF] m = if sameL teC m then [chunkedL] else [] := by rw [getL_cons]; rfl
    rw [this, if_neg (by rw [h1]; simp)]
  have e2 : getL [closeF] m = [] := by
    have : getL [closeF] m = if sameL connC m then [closeF.2] else [] := by rw [getL_cons]; rfl
    rw [this, if_neg (by rw [h2]; simp)]
  unfold respF
  rw [getL_append, getL_append]
  have a : getL (if ¬ (kind = 0 ∨ false = true ∧ kind = 1) ∧ minor = 1 then [chunkF] else []) m = [] := by split; exact e1; rfl
  have b : getL (if keep = false ∨ respK false kind minor = 3 then [closeF] else []) m = [] := by split; exact e2; rfl
  rw [a, b, List.append_nil, List.append_nil]; rfl
theorem resp_len_nil : getL (respF fs false kd kind minor keep) lenC = [] := by
  rw [get_resp fs kd kind minor keep (by decide) (by decide)]
  unfold turnedL
  rw [get_turn4 (by decide), get_turn3 (by decide), get_turn2 (by decide), turn1_drops]
  exact getL_drops (n := lenC) (by decide) rfl _
theorem resp_te : getL (respF fs false kd kind minor keep) teC = if ¬ kind = 0 ∧ minor = 1 then [chunkedL] else [] := by
  have h0 : getL (turnedL (withoutL fs) kd) teC = [] := by
    unfold turnedL
    rw [get_turn4 (by decide), get_turn3 (by decide), get_turn2 (by decide), get_turn1 (by decide)]
    exact get_hop (n := nameTE) (by decide) (by decide) fs
  have b : getL (if keep = false ∨ respK false kind minor = 3 then [closeF] else []) teC = [] := by split; decide; rfl
  unfold respF
  rw [getL_append, getL_append, b, List.append_nil, if_neg (by simp), h0, List.nil_append]
  by_cases hc : ¬ kind = 0 ∧ minor = 1
  · rw [if_pos hc, if_pos ⟨fun h => h.elim hc.1 (fun h => by simp at h), hc.2⟩]; decide
  · rw [if_neg hc, if_neg (fun h => hc ⟨fun e => h.1 (.inl e), h.2⟩)]; rfl
theorem resp_tag : getL (respF fs false kd kind minor keep) etagC = if 0 < (getL fs etagC).length then [weakL ((getL fs etagC).headD [])] else [] := by
  have h0 : getL (turn1 (withoutL fs)) etagC = getL fs etagC := by rw [get_turn1 (by decide), get_stay (by decide)]
  rw [get_resp fs kd kind minor keep (by decide) (by decide)]
  unfold turnedL
  rw [get_turn4 (by decide), get_turn3 (by decide)]
  unfold turn2
  rw [h0]
  split
  · exact getL_set _ _ _
  · rename_i h
    have : (getL fs etagC).length = 0 := by omega
    rw [h0]; exact List.eq_nil_of_length_eq_zero this
theorem split_name {x : List UInt8} (h : goodNameL x = true) : splitL x = [x] := by
  have := split_join [32] [32] (by decide) (.inl (by decide)) [x] [] rfl (by intro y hy; rw [List.mem_singleton.1 hy]; exact memb_name h)
  simpa [joinL] using this
theorem has_of {fs : List (List UInt8 × List UInt8)} {n x : List UInt8} (h : x ∈ getL fs n) (hg : goodNameL x = true) : hasL fs n x = true := by
  unfold hasL hasV
  rw [List.any_eq_true]
  refine ⟨x, h, ?_⟩
  unfold hasM
  rw [split_name hg, List.any_cons, sameL_refl]; rfl
theorem resp_vary : hasL (respF fs false kd kind minor keep) varyC aeC = true ∨ hasL (respF fs false kd kind minor keep) varyC [42] = true := by
  have e : getL (respF fs false kd kind minor keep) varyC = getL (turnedL (withoutL fs) kd) varyC := get_resp fs kd kind minor keep (by decide) (by decide)
  unfold hasL
  rw [e]
  unfold turnedL
  obtain ⟨g, hg⟩ : ∃ g, g = turn3 (turn2 (turn1 (withoutL fs))) kd := ⟨_, rfl⟩
  rw [← hg]
  unfold turn4
  by_cases h : hasL g varyC aeC = false ∧ hasL g varyC [42] = false
  · rw [if_pos h]
    left
    refine has_of (fs := g ++ [varyF]) ?_ (by decide)
    rw [getL_append]
    exact List.mem_append_right _ (by decide)
  · rw [if_neg h]
    rcases h1 : hasL g varyC aeC with _ | _
    · rcases h2 : hasL g varyC [42] with _ | _
      · exact absurd ⟨h1, h2⟩ h
      · exact .inr h2
    · exact .inl h1
theorem resp_code : allL (respF fs false kd kind minor keep) codeL = if kd = 0 then [] else splitL (cnameL kd) := by
  have e : getL (respF fs false kd kind minor keep) codeL = getL (turnedL (withoutL fs) kd) codeL := get_resp fs kd kind minor keep (by decide) (by decide)
  unfold allL
  rw [e]
  unfold turnedL
  rw [get_turn4 (by decide)]
  unfold turn3
  by_cases h : kd = 0
  · rw [if_neg (by simpa using h), if_pos h, get_turn2 (by decide), turn1_drops, getL_drops (n := codeC) (by decide) (by decide)]; rfl
  · rw [if_pos h, if_neg h]
    have : getL (setL (turn2 (turn1 (withoutL fs))) codeC (cnameL kd)) codeL = [cnameL kd] := by rw [getL_congr (b := codeL) (c := codeC) (by decide)]; exact getL_set _ _ _
    rw [this]; simp [allV]
theorem resp_close (h : keep = false ∨ respK false kind minor = 3) : hasL (respF fs false kd kind minor keep) connC [99, 108, 111, 115, 101] = true := by
  refine has_of ?_ (by decide)
  unfold respF
  rw [if_pos h, getL_append]
  exact List.mem_append_right _ (by decide)
end
def codingL (l : List (List UInt8)) : Nat := match l with
  | [] => 0
  | [x] => if lowL x = cnameL 0 then 0 else if lowL x = cnameL 1 ∨ lowL x = [120, 45, 103, 122, 105, 112] then 1 else if lowL x = cnameL 2 then 2 else 3
  | _ => 3
theorem resp_coding (fs : List (List UInt8 × List UInt8)) (kd : Nat) (kind minor : Int) (keep : Bool) (h : kd ≤ 2) : codingL (allL (respF fs false kd kind minor keep) codeL) = kd := by
  rw [resp_code]
  have : kd = 0 ∨ kd = 1 ∨ kd = 2 := by omega
  rcases this with rfl | rfl | rfl
  · rfl
  · rw [if_neg (by decide), split_name (by decide)]; decide
  · rw [if_neg (by decide), split_name (by decide)]; decide
theorem told_kind (T L : List (List UInt8)) (minor : Int) (h : (toldL T L minor 3).2.2 = 0) : (toldL T L minor 3).1 ≠ 0 := by
  unfold toldL at h ⊢
  split
  · split
    · simp
    · rename_i h1 h2; rw [if_pos h1, if_neg h2] at h; cases h
  · split
    · split
      · simp
      · rename_i h1 h2 h3; rw [if_neg h1, if_pos h2, if_neg h3] at h; cases h
    · simp
theorem resp_frame (m : ByteArray) (fs : List (List UInt8 × List UInt8)) (rminor status : Int) (kd : Nat) (minor : Int) (keep : Bool) (h0 : (frResp m fs rminor status).2.2 = 0) :
    frResp m (respF fs false kd (frResp m fs rminor status).1 minor keep) 1 status = ((respK false (frResp m fs rminor status).1 minor).toNat, 0, 0) := by
  unfold frResp at h0 ⊢
  by_cases he : emptyB m status = true
  · rw [if_pos he, if_pos he]
    simp [respK]
  · rw [if_neg he] at h0 ⊢
    rw [if_neg he]
    have hk : (frOf fs rminor 3).1 ≠ 0 := told_kind _ _ _ h0
    obtain ⟨kind, hkd⟩ : ∃ k, k = (frOf fs rminor 3).1 := ⟨_, rfl⟩
    rw [← hkd] at hk ⊢
    have hki : ¬ ((kind : Int) = 0) := by omega
    have hT : getL (respF fs false kd kind minor keep) nameTE = if ¬ (kind : Int) = 0 ∧ minor = 1 then [chunkedL] else [] := by rw [getL_congr (b := nameTE) (c := teC) (by decide)]; exact resp_te fs kd kind minor keep
    have hL : getL (respF fs false kd kind minor keep) nameCL = [] := by rw [getL_congr (b := nameCL) (c := lenC) (by decide)]; exact resp_len_nil fs kd kind minor keep
    unfold frOf
    rw [hT, hL]
    unfold respK
    rw [if_neg (c := (kind : Int) = 0 ∨ false = true ∧ (kind : Int) = 1) (fun h => h.elim hki (fun h => by simp at h))]
    by_cases hm : minor = 1
    · rw [if_pos ⟨hki, hm⟩, if_pos hm]; decide
    · rw [if_neg (fun h => hm h.2), if_neg hm]; rfl
theorem weakL_pre (t : List UInt8) : (weakL t).take 2 = [87, 47] := by
  unfold weakL; split
  · rename_i h; exact h
  · rfl
end Go.Proofs.YtijlaclngibekaaGreatDoor
/- The reference's Coding and Of; law 23's kind. -/
namespace Go.Proofs.YtijlaclngibekaaGreatDoor
open Go.RowKit

def ofL (x : List UInt8) : Nat := if lowL x = cnameL 0 then 0 else if lowL x = cnameL 1 ∨ lowL x = [120, 45, 103, 122, 105, 112] then 1 else if lowL x = cnameL 2 then 2 else 3
set_option maxRecDepth 100000 in
set_option maxHeartbeats 3200000 in
theorem of_any (s : ByteArray) (w : World) (hs : s.size ≤ 1000000) :
    Calls Tryz.prog 46 #[.string s] w fun e w' => e = .returned (.int .i64 (ofL s.data.toList)) ∧ Below w.heap.size w w' := by
  have hlw := reflower_any s w (by omega)
  obtain ⟨x, hx⟩ : ∃ x, x = lowL s.data.toList := ⟨_, rfl⟩
  obtain ⟨r, hr⟩ : ∃ r, r = ofL s.data.toList := ⟨_, rfl⟩
  rw [← hr]
  unfold ofL at hr
  rw [← hx] at hr hlw
  obtain ⟨b, hb⟩ : ∃ b : ByteArray, b = ⟨x.toArray⟩ := ⟨_, rfl⟩
  rw [← hb] at hlw
  have q0 : (b.toList == [105, 100, 101, 110, 116, 105, 116, 121]) = decide (x = cnameL 0) := by rw [ByteArray.toList_eq, hb, Bool.eq_iff_iff, decide_eq_true_iff]; simp [cnameL]
  have q1 : (b.toList == [103, 122, 105, 112]) = decide (x = cnameL 1) := by rw [ByteArray.toList_eq, hb, Bool.eq_iff_iff, decide_eq_true_iff]; simp [cnameL]
  have q2 : (b.toList == [120, 45, 103, 122, 105, 112]) = decide (x = [120, 45, 103, 122, 105, 112]) := by rw [ByteArray.toList_eq, hb, Bool.eq_iff_iff, decide_eq_true_iff]; simp
  have q3 : (b.toList == [100, 101, 102, 108, 97, 116, 101]) = decide (x = cnameL 2) := by rw [ByteArray.toList_eq, hb, Bool.eq_iff_iff, decide_eq_true_iff]; simp [cnameL]
  by_cases h0 : x = cnameL 0
  · rw [if_pos h0] at hr
    rw [decide_eq_true h0] at q0
    subst hr
    clear hb hx h0 q1 q2 q3
    go_enter Tryz.func46, Tryz.ntmps46
    go_wp2_with fail
    refine hlw.mono ?_
    rintro e w1 ⟨rfl, b1⟩
    go_wp2
    go_ret
    exact ⟨rfl, b1⟩
  rw [if_neg h0] at hr
  rw [decide_eq_false h0] at q0
  by_cases h1 : x = cnameL 1
  · rw [if_pos (.inl h1)] at hr
    rw [decide_eq_true h1] at q1
    subst hr
    clear hb hx h0 h1 q2 q3
    go_enter Tryz.func46, Tryz.ntmps46
    go_wp2_with fail
    refine hlw.mono ?_
    rintro e w1 ⟨rfl, b1⟩
    go_wp2
    go_ret
    exact ⟨rfl, b1⟩
  rw [decide_eq_false h1] at q1
  by_cases h2 : x = [120, 45, 103, 122, 105, 112]
  · rw [if_pos (.inr h2)] at hr
    rw [decide_eq_true h2] at q2
    subst hr
    clear hb hx h0 h1 h2 q3
    go_enter Tryz.func46, Tryz.ntmps46
    go_wp2_with fail
    refine hlw.mono ?_
    rintro e w1 ⟨rfl, b1⟩
    go_wp2
    go_ret
    exact ⟨rfl, b1⟩
  rw [decide_eq_false h2] at q2
  rw [if_neg (fun h => h.elim h1 h2)] at hr
  by_cases h3 : x = cnameL 2
  · rw [if_pos h3] at hr
    rw [decide_eq_true h3] at q3
    subst hr
    clear hb hx h0 h1 h2 h3
    go_enter Tryz.func46, Tryz.ntmps46
    go_wp2_with fail
    refine hlw.mono ?_
    rintro e w1 ⟨rfl, b1⟩
    go_wp2
    go_ret
    exact ⟨rfl, b1⟩
  rw [if_neg h3] at hr
  rw [decide_eq_false h3] at q3
  subst hr
  clear hb hx h0 h1 h2 h3
  go_enter Tryz.func46, Tryz.ntmps46
  go_wp2_with fail
  refine hlw.mono ?_
  rintro e w1 ⟨rfl, b1⟩
  go_wp2
  go_ret
  exact ⟨rfl, b1⟩
theorem codingL_one (x : List UInt8) : codingL [x] = ofL x := rfl
set_option maxRecDepth 100000 in
set_option maxHeartbeats 3200000 in
theorem coding_any (minor status : Int) (s_ : ByteArray) (A : Option Addr) (n c B : Nat) (fs : List (List UInt8 × List UInt8)) (w : World) (h : Rd w B 2 A n (fcells fs)) (hB : B ≤ w.heap.size) (hn : n ≤ 1000) (hok : fsOk fs) :
    Calls Tryz.prog 24 #[.agg #[.int .i64 minor, .int .i64 status, .string s_, .slice A n c]] w fun e w' => e = .returned (.int .i64 (codingL (allL fs codeL))) ∧ Below w.heap.size w w' := by
  have t1 : Below w.heap.size w (w.alloc (.cells #[.int .i64 minor, .int .i64 status, .string s_, .slice A n c] 46)) := (Below.refl _ _).alloc (Nat.le_refl _) _
  have q := all_any A n c B fs ⟨#[99, 111, 110, 116, 101, 110, 116, 45, 101, 110, 99, 111, 100, 105, 110, 103]⟩ _ (h.below (t1.mono hB)) (Nat.le_trans hB t1.size) hn hok (by decide)
  change Calls Tryz.prog 45 _ _ (fun e w' => ∃ A' c', e = .returned (.slice A' (allL fs codeL).length c') ∧ w'.ownsRow (w.alloc (.cells #[.int .i64 minor, .int .i64 status, .string s_, .slice A n c] 46)).heap.size 9 1 (.slice A' (allL fs codeL).length c') (allL fs codeL).length (scells (allL fs codeL)) ∧ (allL fs codeL).length ≤ c' ∧ Below (w.alloc (.cells #[.int .i64 minor, .int .i64 status, .string s_, .slice A n c] 46)).heap.size _ w') at q
  have hmem := allV_mem _ (getL_mem hok codeL)
  change ∀ x ∈ allL fs codeL, _ at hmem
  obtain ⟨T, hT⟩ : ∃ T, T = allL fs codeL := ⟨_, rfl⟩
  rw [← hT] at q hmem ⊢
  clear hT h hok
  rcases T with _ | ⟨x, _ | ⟨y, T⟩⟩
  · simp only [List.length_nil] at q
    go_enter Tryz.func24, Tryz.ntmps24
    go_wp2_with fail
    refine q.mono ?_
    rintro e w2 ⟨A2, c2, rfl, o2, hc2, b2⟩
    go_wp2
    go_ret
    exact ⟨rfl, t1.trans (b2.mono t1.size)⟩
  · simp only [List.length_cons, List.length_nil, Nat.zero_add] at q
    have hxl := hmem x (by simp)
    rw [codingL_one]
    go_enter Tryz.func24, Tryz.ntmps24
    go_wp2_with fail
    refine q.mono ?_
    rintro e w2 ⟨A2, c2, rfl, o2, hc2, b2⟩
    have rT := Rd.of_own o2
    obtain ⟨a, rfl, -, hcell⟩ := rT.text (k := 0) (by omega) (by simp)
    rw [Addr.add_zero'] at hcell
    have hcell' : w2.cell? a = some (.string ⟨x.toArray⟩) := hcell
    have t2 := t1.trans (b2.mono t1.size)
    have ho := of_any ⟨x.toArray⟩ w2 (by rw [mk_size]; omega)
    rw [mk_list] at ho
    obtain ⟨sx, hsx⟩ : ∃ s : ByteArray, s = ⟨x.toArray⟩ := ⟨_, rfl⟩
    rw [← hsx] at hcell' ho
    clear hcell o2 rT hsx
    go_wp2_with fail
    refine ho.mono ?_
    rintro e w3 ⟨rfl, b3⟩
    go_wp2
    go_ret
    exact ⟨rfl, t2.trans (b3.mono t2.size)⟩
  · obtain ⟨m, hm⟩ : ∃ m, m = T.length := ⟨_, rfl⟩
    have e : (x :: y :: T).length = m + 2 := by rw [hm]; rfl
    rw [e] at q
    have e0 : ((m : Int) + 2 == 0) = false := by simp; omega
    have e1 : ((m : Int) + 2 == 1) = false := by simp; omega
    have e3 : codingL (x :: y :: T) = 3 := rfl
    rw [e3]
    clear e3 e hm hmem
    go_enter Tryz.func24, Tryz.ntmps24
    go_wp2_with fail
    refine q.mono ?_
    rintro e w2 ⟨A2, c2, rfl, o2, hc2, b2⟩
    go_wp2
    go_ret
    exact ⟨rfl, t1.trans (b2.mono t1.size)⟩
end Go.Proofs.YtijlaclngibekaaGreatDoor
