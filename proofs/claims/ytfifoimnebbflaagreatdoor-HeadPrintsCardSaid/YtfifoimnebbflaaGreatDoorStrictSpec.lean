/- Law 17's strict heads: what each of its texts is as a head. No program here. -/
import Derived.Test.YtfifoimnebbflaaGreatDoorHeadSpec
namespace Go.Proofs.YtfifoimnebbflaaGreatDoor
open Go.RowKit

theorem no13_name {l : List UInt8} (h : goodNameL l = true) {c : UInt8} (hc : nameB c = false) : c ∉ l := fun hm => by
  unfold goodNameL at h
  simp only [Bool.and_eq_true] at h
  have := List.all_eq_true.1 h.1.1 c hm
  rw [hc] at this; cases this
theorem no13_value {l : List UInt8} (h : goodValueL l = true) {c : UInt8} (hc : valueB c = false) : c ∉ l := fun hm => by
  unfold goodValueL at h
  simp only [Bool.and_eq_true] at h
  have := List.all_eq_true.1 h.1.1 c hm
  rw [hc] at this; cases this
theorem lines_one {a : List UInt8} (h : (13 : UInt8) ∉ a) : linesL a = [a] := split_none h
theorem lines_cons {a b : List UInt8} (h : (13 : UInt8) ∉ a) : linesL (a ++ crlfL ++ b) = a :: linesL b := split_hit h
theorem words_one {a : List UInt8} (h : (32 : UInt8) ∉ a) : Lib.split a [32] = [a] := split_none h
theorem words_cons {a b : List UInt8} (h : (32 : UInt8) ∉ a) : Lib.split (a ++ [32] ++ b) [32] = a :: Lib.split b [32] := split_hit h
theorem parse_of (x : List UInt8) (h : x.length ≤ 16380) :
    parseE (x ++ endL) = (if 65 < (linesL x).length then 6 else if (linesL x).tail.all lineOk then 0 else 2) ∧ firstL (x ++ endL) = (linesL x).headD [] ∧ fieldsL (x ++ endL) = (linesL x).tail.map lineF := by
  have h1 := (trimSuffix_append x endL).1
  have h2 := (trimSuffix_append x endL).2
  unfold parseE firstL fieldsL
  rw [h1, h2, if_neg (by simp [endL]; omega), if_neg (by simp)]
  exact ⟨rfl, rfl, rfl⟩
theorem req_of {x : List UInt8} (h : x.length ≤ 16380) (hn : (linesL x).length ≤ 65) :
    reqE (x ++ endL) = if (linesL x).tail.all lineOk && reqOk (Lib.split ((linesL x).headD []) [32]) then 0 else 2 := by
  obtain ⟨h1, h2, _⟩ := parse_of x h
  unfold reqE reqWords
  rw [h1, h2, if_neg (show ¬ 65 < (linesL x).length by omega)]
  rcases (linesL x).tail.all lineOk with _ | _ <;> rcases reqOk (Lib.split ((linesL x).headD []) [32]) with _ | _ <;> rfl

def get1 : List UInt8 := [71, 69, 84, 32, 47, 32, 72, 84, 84, 80, 47, 49, 46, 49]
theorem get1_no13 : (13 : UInt8) ∉ get1 := by decide
theorem get1_ok : reqOk (Lib.split get1 [32]) = true := by decide
/-- A head of the good first line and one more line. -/
theorem two_lines {b : List UInt8} (hb : (13 : UInt8) ∉ b) : linesL (get1 ++ crlfL ++ b) = [get1, b] := by rw [lines_cons get1_no13, lines_one hb]
theorem req_two {b : List UInt8} (hb : (13 : UInt8) ∉ b) (hl : b.length ≤ 16000) : reqE (get1 ++ crlfL ++ b ++ endL) = if lineOk b then 0 else 2 := by
  have ht := two_lines hb
  rw [req_of (by simp [get1, crlfL]; omega) (by rw [ht]; simp), ht]
  simp [get1_ok]
theorem cutHead_name {a b : List UInt8} (h : (58 : UInt8) ∉ a) : cutHead 58 (a ++ 58 :: b) = a ∧ cutTail 58 (a ++ 58 :: b) = b ∧ cutHas 58 (a ++ 58 :: b) = true := by
  have h1 : cutHead 58 (a ++ 58 :: b) = a := by
    unfold cutHead
    rw [List.takeWhile_append_of_pos (by intro c hc; simp; rintro rfl; exact h hc), List.takeWhile_cons_of_neg (by simp), List.append_nil]
  refine ⟨h1, ?_, ?_⟩
  · unfold cutTail; rw [h1]; simp
  · unfold cutHas; rw [h1]; simp
theorem cutHas_none {a : List UInt8} (h : (58 : UInt8) ∉ a) : cutHas 58 a = false := by
  unfold cutHas cutHead
  rw [show a.takeWhile (fun c => !(c == 58)) = a from by
    have := List.takeWhile_append_of_pos (p := fun c : UInt8 => !(c == 58)) (l₁ := a) (l₂ := []) (by intro c hc; simp; rintro rfl; exact h hc)
    simpa using this]
  simp
theorem line_of {a b : List UInt8} (h : (58 : UInt8) ∉ a) : lineOk (a ++ 58 :: b) = (goodNameL a && goodValueL (trimL b)) ∧ lineF (a ++ 58 :: b) = (a, trimL b) := by
  obtain ⟨h1, h2, h3⟩ := cutHead_name (b := b) h
  unfold lineOk lineF
  rw [h1, h2, h3]
  exact ⟨by simp, rfl⟩

theorem trim_suffix (m suf : List UInt8) (hs : suf.all blankB = true) : trimL (m ++ suf) = trimL m := by
  show Lib.trimLeftS (((m ++ suf).reverse.dropWhile blankB).reverse) [32, 9] = Lib.trimLeftS ((m.reverse.dropWhile blankB).reverse) [32, 9]
  rw [List.reverse_append, dropWhile_all _ _ (by rw [List.all_reverse]; exact hs)]

section
variable {name value : List UInt8}
theorem name_facts (hn : goodNameL name = true) : (13 : UInt8) ∉ name ∧ (58 : UInt8) ∉ name ∧ (32 : UInt8) ∉ name ∧ name.length ≤ 256 ∧ name ≠ [] := by
  refine ⟨no13_name hn (by decide), no13_name hn (by decide), no13_name hn (by decide), ?_, ?_⟩
  · unfold goodNameL at hn; simp only [Bool.and_eq_true, decide_eq_true_eq] at hn; exact hn.2
  · rintro rfl; exact absurd hn (by decide)
theorem strict0 (hn : goodNameL name = true) (hv : goodValueL value = true) (hvl : value.length ≤ 1000) : reqE (get1 ++ crlfL ++ (name ++ [32, 58, 32] ++ value) ++ endL) = 2 := by
  obtain ⟨n1, n2, n3, n4, n5⟩ := name_facts hn
  have v1 : (13 : UInt8) ∉ value := no13_value hv (by decide)
  rw [req_two (by simp; exact ⟨n1, v1⟩) (by simp; omega)]
  have : name ++ [32, 58, 32] ++ value = (name ++ [32]) ++ 58 :: (32 :: value) := by simp
  rw [this, (line_of (by simp; exact n2)).1]
  have : goodNameL (name ++ [32]) = false := by
    unfold goodNameL
    have h32 : nameB 32 = false := by decide
    simp [h32]
  rw [this]; rfl
theorem strict1 (hn : goodNameL name = true) (hv : goodValueL value = true) (hvl : value.length ≤ 1000) : reqE (get1 ++ crlfL ++ (name ++ [58, 32] ++ value) ++ crlfL ++ [32, 109, 111, 114, 101] ++ endL) = 2 := by
  obtain ⟨n1, n2, n3, n4, n5⟩ := name_facts hn
  have v1 : (13 : UInt8) ∉ value := no13_value hv (by decide)
  have hl : linesL (get1 ++ crlfL ++ (name ++ [58, 32] ++ value) ++ crlfL ++ [32, 109, 111, 114, 101]) = [get1, name ++ [58, 32] ++ value, [32, 109, 111, 114, 101]] := by
    rw [show get1 ++ crlfL ++ (name ++ [58, 32] ++ value) ++ crlfL ++ [32, 109, 111, 114, 101] = get1 ++ crlfL ++ ((name ++ [58, 32] ++ value) ++ crlfL ++ [32, 109, 111, 114, 101]) by simp, lines_cons get1_no13, lines_cons (by simp; exact ⟨n1, v1⟩), lines_one (by decide)]
  rw [req_of (by simp [get1, crlfL]; omega) (by rw [hl]; simp), hl]
  have : lineOk [32, 109, 111, 114, 101] = false := by decide
  simp [this]
theorem strict2 (hn : goodNameL name = true) (hv : goodValueL value = true) (hvl : value.length ≤ 1000) : reqE ([71, 69, 84, 32, 47, 32, 72, 84, 84, 80, 47, 49, 46, 49, 10] ++ name ++ [58, 32] ++ value ++ endL) = 2 := by
  obtain ⟨n1, n2, n3, n4, n5⟩ := name_facts hn
  have v1 : (13 : UInt8) ∉ value := no13_value hv (by decide)
  have hl : linesL ([71, 69, 84, 32, 47, 32, 72, 84, 84, 80, 47, 49, 46, 49, 10] ++ name ++ [58, 32] ++ value) = [[71, 69, 84, 32, 47, 32, 72, 84, 84, 80, 47, 49, 46, 49, 10] ++ name ++ [58, 32] ++ value] := lines_one (by simp; exact ⟨n1, v1⟩)
  rw [req_of (by simp; omega) (by rw [hl]; simp), hl]
  have hw : Lib.split ([71, 69, 84, 32, 47, 32, 72, 84, 84, 80, 47, 49, 46, 49, 10] ++ name ++ [58, 32] ++ value) [32] = [71, 69, 84] :: [47] :: ([72, 84, 84, 80, 47, 49, 46, 49, 10] ++ name ++ [58]) :: Lib.split value [32] := by
    rw [show [71, 69, 84, 32, 47, 32, 72, 84, 84, 80, 47, 49, 46, 49, 10] ++ name ++ [58, 32] ++ value = [71, 69, 84] ++ [32] ++ ([47] ++ [32] ++ (([72, 84, 84, 80, 47, 49, 46, 49, 10] ++ name ++ [58]) ++ [32] ++ value)) by simp, words_cons (by decide), words_cons (by decide), words_cons (by simp; exact n3)]
  have hp := split_pos value [32]
  have hr : reqOk (Lib.split ([71, 69, 84, 32, 47, 32, 72, 84, 84, 80, 47, 49, 46, 49, 10] ++ name ++ [58, 32] ++ value) [32]) = false := by
    rw [hw]; unfold reqOk
    rw [decide_eq_false (by simp only [List.length_cons]; omega)]; rfl
  rw [List.headD_cons, hr, Bool.and_false]; rfl
theorem strict7 (hn : goodNameL name = true) : reqE (get1 ++ crlfL ++ name ++ endL) = 2 := by
  obtain ⟨n1, n2, n3, n4, n5⟩ := name_facts hn
  rw [req_two n1 (by omega)]
  unfold lineOk
  rw [cutHas_none n2]; rfl
theorem strict10 (hv : goodValueL value = true) (hvl : value.length ≤ 1000) : reqE (get1 ++ crlfL ++ ([58, 32] ++ value) ++ endL) = 2 := by
  have v1 : (13 : UInt8) ∉ value := no13_value hv (by decide)
  rw [req_two (by simp; exact v1) (by simp; omega)]
  have : ([58, 32] : List UInt8) ++ value = [] ++ 58 :: (32 :: value) := by simp
  rw [this, (line_of (by simp)).1]
  rfl
theorem strict11 (hn : goodNameL name = true) : reqE (get1 ++ crlfL ++ (name ++ [58, 32, 97, 0, 98]) ++ endL) = 2 := by
  obtain ⟨n1, n2, n3, n4, n5⟩ := name_facts hn
  rw [req_two (by simp; exact n1) (by simp; omega)]
  have : name ++ [58, 32, 97, 0, 98] = name ++ 58 :: [32, 97, 0, 98] := by simp
  rw [this, (line_of n2).1]
  have : goodValueL (trimL [32, 97, 0, 98]) = false := by decide
  rw [this, Bool.and_false]; rfl
theorem trim_good (hv : goodValueL value = true) : trimL (value ++ [32, 9]) = value := by
  have ht : trimL value = value := by
    unfold goodValueL at hv; simp only [Bool.and_eq_true, beq_iff_eq] at hv; exact hv.2
  rw [trim_suffix value _ (by decide), ht]
theorem strictOk (hn : goodNameL name = true) (hv : goodValueL value = true) (hvl : value.length ≤ 1000) : reqE (get1 ++ crlfL ++ (name ++ [58] ++ value ++ [32, 9]) ++ endL) = 0 ∧ fieldsL (get1 ++ crlfL ++ (name ++ [58] ++ value ++ [32, 9]) ++ endL) = [(name, value)] := by
  obtain ⟨n1, n2, n3, n4, n5⟩ := name_facts hn
  have v1 : (13 : UInt8) ∉ value := no13_value hv (by decide)
  have hl : (13 : UInt8) ∉ name ++ [58] ++ value ++ [32, 9] := by simp; exact ⟨n1, v1⟩
  have he : name ++ [58] ++ value ++ [32, 9] = name ++ 58 :: (value ++ [32, 9]) := by simp
  have ht := trim_good hv
  constructor
  · rw [req_two hl (by simp; omega), he, (line_of n2).1, ht, hn, hv]; rfl
  · rw [(parse_of _ (by simp [get1, crlfL]; omega)).2.2, two_lines hl, List.tail_cons, List.map_cons, he, (line_of n2).2, ht]; rfl
end
theorem strict3 : reqE ([71, 69, 84, 32, 32, 47, 32, 72, 84, 84, 80, 47, 49, 46, 49] ++ endL) = 2 := by decide
theorem strict4 : reqE ([71, 69, 84, 32, 47, 32, 72, 84, 84, 80, 47, 49, 46, 50] ++ endL) = 2 := by decide
theorem strict5 : reqE ([71, 69, 84, 32, 47, 32, 72, 84, 84, 80, 47, 49, 46, 49, 32] ++ endL) = 2 := by decide
theorem strict6 : reqE ([32, 71, 69, 84, 32, 47, 32, 72, 84, 84, 80, 47, 49, 46, 49] ++ endL) = 2 := by decide
theorem strict8 : reqE ([13, 10] ++ get1 ++ endL) = 2 := by decide
theorem strict9 : reqE ([71, 69, 84, 32, 97, 32, 72, 84, 84, 80, 47, 49, 46, 49] ++ endL) = 2 := by decide
end Go.Proofs.YtfifoimnebbflaaGreatDoor
