/- Heads as plain lists: lines, fields, first lines. No program here. -/
import Derived.Test.YtfifoimnebbflaaGreatDoorCut
import Derived.Test.YtfifoimnebbflaaGreatDoorTrim
import Derived.Test.YtfifoimnebbflaaGreatDoorHeadEndI
import Derived.Test.YtfifoimnebbflaaGreatDoorUdec
namespace Go.Proofs.YtfifoimnebbflaaGreatDoor
open Go.RowKit

/-! ### Heads -/
def linesL (s : List UInt8) : List (List UInt8) := Lib.split s crlfL
/-- A field of a line. -/
def lineOk (l : List UInt8) : Bool := cutHas 58 l && (goodNameL (cutHead 58 l) && goodValueL (trimL (cutTail 58 l)))
def lineF (l : List UInt8) : List UInt8 × List UInt8 := (cutHead 58 l, trimL (cutTail 58 l))
def slashB (c : UInt8) : Bool := decide (33 ≤ c.toNat ∧ c.toNat ≤ 126)
def slashOk (l : List UInt8) : Bool := l.all slashB
def targetL (l : List UInt8) : Bool := slashOk l && (Lib.hasPrefix l [47] && decide (l.length ≤ 2048))
def verL : List UInt8 := [72, 84, 84, 80, 47, 49, 46]
def minorOk (l : List UInt8) : Bool := Lib.hasPrefix l verL && (Lib.trimPrefix l verL == [48] || Lib.trimPrefix l verL == [49])
def minorN (l : List UInt8) : Nat := ((Lib.trimPrefix l verL).headD 48).toNat - 48
/-- The error of the lines ahead of the words, 0 for none. -/
def parseE (b : List UInt8) : Nat :=
  if 16384 < b.length then 6 else if Lib.hasSuffix b endL = false then 2 else
  if 65 < (linesL (Lib.trimSuffix b endL)).length then 6 else if (linesL (Lib.trimSuffix b endL)).tail.all lineOk then 0 else 2
def firstL (b : List UInt8) : List UInt8 := (linesL (Lib.trimSuffix b endL)).headD []
def fieldsL (b : List UInt8) : List (List UInt8 × List UInt8) := (linesL (Lib.trimSuffix b endL)).tail.map lineF
def reqWords (b : List UInt8) : List (List UInt8) := Lib.split (firstL b) [32]
def reqOk (ws : List (List UInt8)) : Bool :=
  decide (ws.length = 3) && (goodNameL (ws.getD 0 []) && (targetL (ws.getD 1 []) && minorOk (ws.getD 2 [])))
def reqE (b : List UInt8) : Nat := if parseE b = 0 then (if reqOk (reqWords b) then 0 else 2) else parseE b

end Go.Proofs.YtfifoimnebbflaaGreatDoor

/- Law 17's strict heads: what each of its texts is as a head. No program here. -/
namespace Go.Proofs.YtfifoimnebbflaaGreatDoor
open Go.RowKit

theorem no13_name {l : List UInt8} (h : goodNameL l = true) {c : UInt8} (hc : nameB c = false) : c ∉ l := fun hm => by
  unfold goodNameL at h
  simp only [Bool.and_eq_true] at h
  have := List.all_eq_true.1 h.1.1 c hm
  rw [hc] at this; cases this
theorem no13_value {l : List UInt8} (h : goodValueL l = true) {c : UInt8} (hc : valueB c = false) : c ∉ l := fun hm => by
  unfold goodValueL at h
  simp only [Bool.and_eq_true] at h
  have := List.all_eq_true.1 h.1.1 c hm
  rw [hc] at this; cases this
theorem lines_one {a : List UInt8} (h : (13 : UInt8) ∉ a) : linesL a = [a] := split_none h
theorem lines_cons {a b : List UInt8} (h : (13 : UInt8) ∉ a) : linesL (a ++ crlfL ++ b) = a :: linesL b := split_hit h
theorem words_one {a : List UInt8} (h : (32 : UInt8) ∉ a) : Lib.split a [32] = [a] := split_none h
theorem words_cons {a b : List UInt8} (h : (32 : UInt8) ∉ a) : Lib.split (a ++ [32] ++ b) [32] = a :: Lib.split b [32] := split_hit h
theorem parse_of (x : List UInt8) (h : x.length ≤ 16380) :
    parseE (x ++ endL) = (if 65 < (linesL x).length then 6 else if (linesL x).tail.all lineOk then 0 else 2) ∧ firstL (x ++ endL) = (linesL x).headD [] ∧ fieldsL (x ++ endL) = (linesL x).tail.map lineF := by
  have h1 := (trimSuffix_append x endL).1
  have h2 := (trimSuffix_append x endL).2
  unfold parseE firstL fieldsL
  rw [h1, h2, if_neg (by simp [endL]; omega), if_neg (by simp)]
  exact ⟨rfl, rfl, rfl⟩
theorem req_of {x : List UInt8} (h : x.length ≤ 16380) (hn : (linesL x).length ≤ 65) :
    reqE (x ++ endL) = if (linesL x).tail.all lineOk && reqOk (Lib.split ((linesL x).headD []) [32]) then 0 else 2 := by
  obtain ⟨h1, h2, _⟩ := parse_of x h
  unfold reqE reqWords
  rw [h1, h2, if_neg (show ¬ 65 < (linesL x).length by omega)]
  rcases (linesL x).tail.all lineOk with _ | _ <;> rcases reqOk (Lib.split ((linesL x).headD []) [32]) with _ | _ <;> rfl

def get1 : List UInt8 := [71, 69, 84, 32, 47, 32, 72, 84, 84, 80, 47, 49, 46, 49]
theorem get1_no13 : (13 : UInt8) ∉ get1 := by decide
theorem get1_ok : reqOk (Lib.split get1 [32]) = true := by decide
/-- A head of the good first line and one more line. -/
theorem two_lines {b : List UInt8} (hb : (13 : UInt8) ∉ b) : linesL (get1 ++ crlfL ++ b) = [get1, b] := by rw [lines_cons get1_no13, lines_one hb]
theorem req_two {b : List UInt8} (hb : (13 : UInt8) ∉ b) (hl : b.length ≤ 16000) : reqE (get1 ++ crlfL ++ b ++ endL) = if lineOk b then 0 else 2 := by
  have ht := two_lines hb
  rw [req_of (by simp [get1, crlfL]; omega) (by rw [ht]; simp), ht]
  simp [get1_ok]
theorem cutHead_name {a b : List UInt8} (h : (58 : UInt8) ∉ a) : cutHead 58 (a ++ 58 :: b) = a ∧ cutTail 58 (a ++ 58 :: b) = b ∧ cutHas 58 (a ++ 58 :: b) = true := by
  have h1 : cutHead 58 (a ++ 58 :: b) = a := by
    unfold cutHead
    rw [List.takeWhile_append_of_pos (by intro c hc; simp; rintro rfl; exact h hc), List.takeWhile_cons_of_neg (by simp), List.append_nil]
  refine ⟨h1, ?_, ?_⟩
  · unfold cutTail; rw [h1]; simp
  · unfold cutHas; rw [h1]; simp
theorem cutHas_none {a : List UInt8} (h : (58 : UInt8) ∉ a) : cutHas 58 a = false := by
  unfold cutHas cutHead
  rw [show a.takeWhile (fun c => !(c == 58)) = a from by
    have := List.takeWhile_append_of_pos (p := fun c : UInt8 => !(c == 58)) (l₁ := a) (l₂ := []) (by intro c hc; simp; rintro rfl; exact h hc)
    simpa using this]
  simp
theorem line_of {a b : List UInt8} (h : (58 : UInt8) ∉ a) : lineOk (a ++ 58 :: b) = (goodNameL a && goodValueL (trimL b)) ∧ lineF (a ++ 58 :: b) = (a, trimL b) := by
  obtain ⟨h1, h2, h3⟩ := cutHead_name (b := b) h
  unfold lineOk lineF
  rw [h1, h2, h3]
  exact ⟨by simp, rfl⟩

theorem trim_suffix (m suf : List UInt8) (hs : suf.all blankB = true) : trimL (m ++ suf) = trimL m := by
  show Lib.trimLeftS (((m ++ suf).reverse.dropWhile blankB).reverse) [32, 9] = Lib.trimLeftS ((m.reverse.dropWhile blankB).reverse) [32, 9]
  rw [List.reverse_append, dropWhile_all _ _ (by rw [List.all_reverse]; exact hs)]

section
variable {name value : List UInt8}
theorem name_facts (hn : goodNameL name = true) : (13 : UInt8) ∉ name ∧ (58 : UInt8) ∉ name ∧ (32 : UInt8) ∉ name ∧ name.length ≤ 256 ∧ name ≠ [] := by
  refine ⟨no13_name hn (by decide), no13_name hn (by decide), no13_name hn (by decide), ?_, ?_⟩
  · unfold goodNameL at hn; simp only [Bool.and_eq_true, decide_eq_true_eq] at hn; exact hn.2
  · rintro rfl; exact absurd hn (by decide)
theorem strict0 (hn : goodNameL name = true) (hv : goodValueL value = true) (hvl : value.length ≤ 1000) : reqE (get1 ++ crlfL ++ (name ++ [32, 58, 32] ++ value) ++ endL) = 2 := by
  obtain ⟨n1, n2, n3, n4, n5⟩ := name_facts hn
  have v1 : (13 : UInt8) ∉ value := no13_value hv (by decide)
  rw [req_two (by simp; exact ⟨n1, v1⟩) (by simp; omega)]
  have : name ++ [32, 58, 32] ++ value = (name ++ [32]) ++ 58 :: (32 :: value) := by simp
  rw [this, (line_of (by simp; exact n2)).1]
  have : goodNameL (name ++ [32]) = false := by
    unfold goodNameL
    have h32 : nameB 32 = false := by decide
    simp [h32]
  rw [this]; rfl
theorem strict1 (hn : goodNameL name = true) (hv : goodValueL value = true) (hvl : value.length ≤ 1000) : reqE (get1 ++ crlfL ++ (name ++ [58, 32] ++ value) ++ crlfL ++ [32, 109, 111, 114, 101] ++ endL) = 2 := by
  obtain ⟨n1, n2, n3, n4, n5⟩ := name_facts hn
  have v1 : (13 : UInt8) ∉ value := no13_value hv (by decide)
  have hl : linesL (get1 ++ crlfL ++ (name ++ [58, 32] ++ value) ++ crlfL ++ [32, 109, 111, 114, 101]) = [get1, name ++ [58, 32] ++ value, [32, 109, 111, 114, 101]] := by
    rw [show get1 ++ crlfL ++ (name ++ [58, 32] ++ value) ++ crlfL ++ [32, 109, 111, 114, 101] = get1 ++ crlfL ++ ((name ++ [58, 32] ++ value) ++ crlfL ++ [32, 109, 111, 114, 101]) by simp, lines_cons get1_no13, lines_cons (by simp; exact ⟨n1, v1⟩), lines_one (by decide)]
  rw [req_of (by simp [get1, crlfL]; omega) (by rw [hl]; simp), hl]
  have : lineOk [32, 109, 111, 114, 101] = false := by decide
  simp [this]
theorem strict2 (hn : goodNameL name = true) (hv : goodValueL value = true) (hvl : value.length ≤ 1000) : reqE ([71, 69, 84, 32, 47, 32, 72, 84, 84, 80, 47, 49, 46, 49, 10] ++ name ++ [58, 32] ++ value ++ endL) = 2 := by
  obtain ⟨n1, n2, n3, n4, n5⟩ := name_facts hn
  have v1 : (13 : UInt8) ∉ value := no13_value hv (by decide)
  have hl : linesL ([71, 69, 84, 32, 47, 32, 72, 84, 84, 80, 47, 49, 46, 49, 10] ++ name ++ [58, 32] ++ value) = [[71, 69, 84, 32, 47, 32, 72, 84, 84, 80, 47, 49, 46, 49, 10] ++ name ++ [58, 32] ++ value] := lines_one (by simp; exact ⟨n1, v1⟩)
  rw [req_of (by simp; omega) (by rw [hl]; simp), hl]
  have hw : Lib.split ([71, 69, 84, 32, 47, 32, 72, 84, 84, 80, 47, 49, 46, 49, 10] ++ name ++ [58, 32] ++ value) [32] = [71, 69, 84] :: [47] :: ([72, 84, 84, 80, 47, 49, 46, 49, 10] ++ name ++ [58]) :: Lib.split value [32] := by
    rw [show [71, 69, 84, 32, 47, 32, 72, 84, 84, 80, 47, 49, 46, 49, 10] ++ name ++ [58, 32] ++ value = [71, 69, 84] ++ [32] ++ ([47] ++ [32] ++ (([72, 84, 84, 80, 47, 49, 46, 49, 10] ++ name ++ [58]) ++ [32] ++ value)) by simp, words_cons (by decide), words_cons (by decide), words_cons (by simp; exact n3)]
  have hp := split_pos value [32]
  have hr : reqOk (Lib.split ([71, 69, 84, 32, 47, 32, 72, 84, 84, 80, 47, 49, 46, 49, 10] ++ name ++ [58, 32] ++ value) [32]) = false := by
    rw [hw]; unfold reqOk
    rw [decide_eq_false (by simp only [List.length_cons]; omega)]; rfl
  rw [List.headD_cons, hr, Bool.and_false]; rfl
theorem strict7 (hn : goodNameL name = true) : reqE (get1 ++ crlfL ++ name ++ endL) = 2 := by
  obtain ⟨n1, n2, n3, n4, n5⟩ := name_facts hn
  rw [req_two n1 (by omega)]
  unfold lineOk
  rw [cutHas_none n2]; rfl
theorem strict10 (hv : goodValueL value = true) (hvl : value.length ≤ 1000) : reqE (get1 ++ crlfL ++ ([58, 32] ++ value) ++ endL) = 2 := by
  have v1 : (13 : UInt8) ∉ value := no13_value hv (by decide)
  rw [req_two (by simp; exact v1) (by simp; omega)]
  have : ([58, 32] : List UInt8) ++ value = [] ++ 58 :: (32 :: value) := by simp
  rw [this, (line_of (by simp)).1]
  rfl
theorem strict11 (hn : goodNameL name = true) : reqE (get1 ++ crlfL ++ (name ++ [58, 32, 97, 0, 98]) ++ endL) = 2 := by
  obtain ⟨n1, n2, n3, n4, n5⟩ := name_facts hn
  rw [req_two (by simp; exact n1) (by simp; omega)]
  have : name ++ [58, 32, 97, 0, 98] = name ++ 58 :: [32, 97, 0, 98] := by simp
  rw [this, (line_of n2).1]
  have : goodValueL (trimL [32, 97, 0, 98]) = false := by decide
  rw [this, Bool.and_false]; rfl
theorem trim_good (hv : goodValueL value = true) : trimL (value ++ [32, 9]) = value := by
  have ht : trimL value = value := by
    unfold goodValueL at hv; simp only [Bool.and_eq_true, beq_iff_eq] at hv; exact hv.2
  rw [trim_suffix value _ (by decide), ht]
theorem strictOk (hn : goodNameL name = true) (hv : goodValueL value = true) (hvl : value.length ≤ 1000) : reqE (get1 ++ crlfL ++ (name ++ [58] ++ value ++ [32, 9]) ++ endL) = 0 ∧ fieldsL (get1 ++ crlfL ++ (name ++ [58] ++ value ++ [32, 9]) ++ endL) = [(name, value)] := by
  obtain ⟨n1, n2, n3, n4, n5⟩ := name_facts hn
  have v1 : (13 : UInt8) ∉ value := no13_value hv (by decide)
  have hl : (13 : UInt8) ∉ name ++ [58] ++ value ++ [32, 9] := by simp; exact ⟨n1, v1⟩
  have he : name ++ [58] ++ value ++ [32, 9] = name ++ 58 :: (value ++ [32, 9]) := by simp
  have ht := trim_good hv
  constructor
  · rw [req_two hl (by simp; omega), he, (line_of n2).1, ht, hn, hv]; rfl
  · rw [(parse_of _ (by simp [get1, crlfL]; omega)).2.2, two_lines hl, List.tail_cons, List.map_cons, he, (line_of n2).2, ht]; rfl
end
theorem strict3 : reqE ([71, 69, 84, 32, 32, 47, 32, 72, 84, 84, 80, 47, 49, 46, 49] ++ endL) = 2 := by decide
theorem strict4 : reqE ([71, 69, 84, 32, 47, 32, 72, 84, 84, 80, 47, 49, 46, 50] ++ endL) = 2 := by decide
theorem strict5 : reqE ([71, 69, 84, 32, 47, 32, 72, 84, 84, 80, 47, 49, 46, 49, 32] ++ endL) = 2 := by decide
theorem strict6 : reqE ([32, 71, 69, 84, 32, 47, 32, 72, 84, 84, 80, 47, 49, 46, 49] ++ endL) = 2 := by decide
theorem strict8 : reqE ([13, 10] ++ get1 ++ endL) = 2 := by decide
theorem strict9 : reqE ([71, 69, 84, 32, 97, 32, 72, 84, 84, 80, 47, 49, 46, 49] ++ endL) = 2 := by decide
end Go.Proofs.YtfifoimnebbflaaGreatDoor

/- Heads printed, as plain lists. No program here. -/
namespace Go.Proofs.YtfifoimnebbflaaGreatDoor
open Go.RowKit

theorem app_list (a b : ByteArray) : (a ++ b).data.toList = a.data.toList ++ b.data.toList := by simp
def fldOk (f : List UInt8 × List UInt8) : Bool := goodNameL f.1 && goodValueL f.2
def fldLn (f : List UInt8 × List UInt8) : List UInt8 := f.1 ++ [58, 32] ++ f.2 ++ crlfL
def linesB (fs : List (List UInt8 × List UInt8)) : List UInt8 := fs.flatMap fldLn
def headB (first : List UInt8) (fs : List (List UInt8 × List UInt8)) : List UInt8 := first ++ crlfL ++ linesB fs ++ crlfL
def printE (first : List UInt8) (fs : List (List UInt8 × List UInt8)) : Nat :=
  if 64 < fs.length then 2 else if fs.all fldOk = false then 2 else if 16384 < (headB first fs).length then 6 else 0
def printB (first : List UInt8) (fs : List (List UInt8 × List UInt8)) : List UInt8 := if printE first fs = 0 then headB first fs else []
theorem linesB_snoc (fs : List (List UInt8 × List UInt8)) (f : List UInt8 × List UInt8) : linesB (fs ++ [f]) = linesB fs ++ fldLn f := by simp [linesB]
theorem linesB_len (fs : List (List UInt8 × List UInt8)) (k : Nat) (hok : ∀ f ∈ fs, f.1.length ≤ 1000000 ∧ f.2.length ≤ 1000000) (hk : fs.length ≤ k) : (linesB fs).length ≤ k * 2000004 := by
  induction fs generalizing k with
  | nil => simp [linesB]
  | cons f fs ih =>
    obtain ⟨h1, h2⟩ := hok f (by simp)
    have := ih (k - 1) (fun g hg => hok g (by simp [hg])) (by simp at hk; omega)
    have e : (linesB (f :: fs)).length = (fldLn f).length + (linesB fs).length := by simp [linesB]
    have e2 : (fldLn f).length = f.1.length + 2 + f.2.length + 2 := by simp [fldLn, crlfL]; omega
    simp at hk
    have e3 : k * 2000004 = (k - 1) * 2000004 + 2000004 := by omega
    omega
theorem print_bad {first : List UInt8} {fs : List (List UInt8 × List UInt8)} (h : fs.all fldOk = false) : printE first fs = 2 ∧ printB first fs = [] := by
  have h1 : printE first fs = 2 := by unfold printE; rw [if_pos h]; split <;> rfl
  exact ⟨h1, by unfold printB; rw [h1]; rfl⟩
theorem print_many {first : List UInt8} {fs : List (List UInt8 × List UInt8)} (h : 64 < fs.length) : printE first fs = 2 ∧ printB first fs = [] := by
  have h1 : printE first fs = 2 := by unfold printE; rw [if_pos h]
  exact ⟨h1, by unfold printB; rw [h1]; rfl⟩
theorem print_long {first : List UInt8} {fs : List (List UInt8 × List UInt8)} (hn : ¬ 64 < fs.length) (ha : fs.all fldOk = true) (h : 16384 < (headB first fs).length) : printE first fs = 6 ∧ printB first fs = [] := by
  have h1 : printE first fs = 6 := by unfold printE; rw [if_neg hn, if_neg (by simp [ha]), if_pos h]
  exact ⟨h1, by unfold printB; rw [h1]; rfl⟩
theorem print_ok {first : List UInt8} {fs : List (List UInt8 × List UInt8)} (hn : ¬ 64 < fs.length) (ha : fs.all fldOk = true) (h : ¬ 16384 < (headB first fs).length) : printE first fs = 0 ∧ printB first fs = headB first fs := by
  have h1 : printE first fs = 0 := by unfold printE; rw [if_neg hn, if_neg (by simp [ha]), if_neg h]
  exact ⟨h1, by unfold printB; rw [h1]; rfl⟩
end Go.Proofs.YtfifoimnebbflaaGreatDoor

/- A printed head, read again; law 17's full heads. No program here. -/
namespace Go.Proofs.YtfifoimnebbflaaGreatDoor
open Go.RowKit

theorem lines_join : ∀ (ls : List (List UInt8)) (first : List UInt8), (13 : UInt8) ∉ first → (∀ x ∈ ls, (13 : UInt8) ∉ x) → linesL (first ++ ls.flatMap (fun x => crlfL ++ x)) = first :: ls
  | [], first, h0, _ => by rw [List.flatMap_nil, List.append_nil]; exact lines_one h0
  | x :: ls, first, h0, h => by
    have ih := lines_join ls x (h x (by simp)) (fun y hy => h y (by simp [hy]))
    rw [List.flatMap_cons, show first ++ (crlfL ++ x ++ ls.flatMap fun x => crlfL ++ x) = first ++ crlfL ++ (x ++ ls.flatMap fun x => crlfL ++ x) by simp, lines_cons h0, ih]
def fldTx (f : List UInt8 × List UInt8) : List UInt8 := f.1 ++ 58 :: 32 :: f.2
theorem fldLn_tx (f : List UInt8 × List UInt8) : fldLn f = fldTx f ++ crlfL := by simp [fldLn, fldTx]
theorem linesB_join : ∀ fs : List (List UInt8 × List UInt8), crlfL ++ linesB fs = (fs.map fldTx).flatMap (fun x => crlfL ++ x) ++ crlfL
  | [] => by simp [linesB]
  | f :: fs => by
    have ih := linesB_join fs
    have e : linesB (f :: fs) = fldLn f ++ linesB fs := by simp [linesB]
    rw [e, fldLn_tx, List.map_cons, List.flatMap_cons, List.append_assoc (fldTx f), ih]
    simp
theorem headB_end (first : List UInt8) (fs : List (List UInt8 × List UInt8)) : headB first fs = (first ++ (fs.map fldTx).flatMap (fun x => crlfL ++ x)) ++ endL := by
  have := linesB_join fs
  unfold headB
  rw [List.append_assoc first, this]
  simp [endL, crlfL]
theorem trim_blank (v : List UInt8) : trimL (32 :: v) = trimL v := by
  show (((32 :: v).reverse.dropWhile blankB).reverse).dropWhile blankB = ((v.reverse.dropWhile blankB).reverse).dropWhile blankB
  rw [List.reverse_cons, List.dropWhile_append]
  rcases h : (List.dropWhile blankB v.reverse).isEmpty with _ | _
  · rw [if_neg (by simp), List.reverse_append]
    rfl
  · rw [if_pos rfl]
    rw [List.isEmpty_iff] at h
    rw [h]
    rfl
theorem tx_facts {f : List UInt8 × List UInt8} (h : fldOk f = true) : (13 : UInt8) ∉ fldTx f ∧ lineOk (fldTx f) = true ∧ lineF (fldTx f) = f := by
  unfold fldOk at h
  simp only [Bool.and_eq_true] at h
  obtain ⟨h1, h2⟩ := h
  have n1 := no13_name h1 (c := 13) (by decide)
  have n2 := no13_name h1 (c := 58) (by decide)
  have v1 := no13_value h2 (c := 13) (by decide)
  have ht : trimL (32 :: f.2) = f.2 := by
    rw [trim_blank]
    unfold goodValueL at h2
    simp only [Bool.and_eq_true, beq_iff_eq] at h2
    exact h2.2
  obtain ⟨l1, l2⟩ := line_of (b := 32 :: f.2) n2
  refine ⟨by simp [fldTx]; exact ⟨n1, v1⟩, ?_, ?_⟩
  · unfold fldTx; rw [l1, ht, h1, h2]; rfl
  · unfold fldTx; rw [l2, ht]
theorem parse_head {first : List UInt8} {fs : List (List UInt8 × List UInt8)} (hf : (13 : UInt8) ∉ first) (hall : fs.all fldOk = true) (hl : (headB first fs).length ≤ 16384) :
    parseE (headB first fs) = (if 64 < fs.length then 6 else 0) ∧ firstL (headB first fs) = first ∧ fieldsL (headB first fs) = fs := by
  have hj := lines_join (fs.map fldTx) first hf (fun x hx => by
    obtain ⟨f, hfm, rfl⟩ := List.mem_map.1 hx
    exact (tx_facts (List.all_eq_true.1 hall f hfm)).1)
  have hE := headB_end first fs
  rw [hE] at hl ⊢
  obtain ⟨p1, p2, p3⟩ := parse_of (first ++ (fs.map fldTx).flatMap (fun x => crlfL ++ x)) (by rw [List.length_append] at hl; simp only [endL, List.length_cons, List.length_nil] at hl; omega)
  rw [hj] at p1 p2 p3
  have hok : (fs.map fldTx).all lineOk = true := by
    rw [List.all_map, List.all_eq_true]
    intro f hfm
    exact (tx_facts (List.all_eq_true.1 hall f hfm)).2.1
  refine ⟨?_, p2, ?_⟩
  · rw [p1, List.tail_cons, hok, List.length_cons, List.length_map]
    by_cases h : 64 < fs.length
    · rw [if_pos (by omega), if_pos h]
    · rw [if_neg (by omega), if_neg h]; rfl
  · rw [p3, List.tail_cons, List.map_map]
    conv => rhs; rw [← List.map_id fs]
    exact List.map_congr_left fun f hfm => (tx_facts (List.all_eq_true.1 hall f hfm)).2.2

theorem udig_digits (n : Nat) : ∀ c ∈ udig n, nameB c = true := by
  have hd : ∀ k : Nat, k < 10 → nameB (48 + UInt8.ofNat k) = true := by decide
  induction n using udig.induct with
  | case1 n h => rw [udig, dif_pos h]; intro c hc; simp only [List.mem_singleton] at hc; subst hc; exact hd _ (Nat.mod_lt _ (by decide))
  | case2 n h ih =>
    rw [udig, dif_neg h]; intro c hc
    rcases List.mem_append.1 hc with h1 | h1
    · exact ih c h1
    · simp only [List.mem_singleton] at h1; subst h1; exact hd _ (Nat.mod_lt _ (by decide))
/-- The fields "a0: b" and so on. -/
def fullF (i : Nat) : List UInt8 × List UInt8 := (97 :: udig i, [98])
def fullL (k : Nat) : List (List UInt8 × List UInt8) := (List.range k).map fullF
theorem fullL_succ (k : Nat) : fullL (k + 1) = fullL k ++ [fullF k] := by simp [fullL, List.range_succ]
theorem fullL_len (k : Nat) : (fullL k).length = k := by simp [fullL]
theorem full_good (i : Nat) (hi : i < 70) : fldOk (fullF i) = true := by
  have hl := udig_length i
  have ha : (97 :: udig i).all nameB = true := by
    rw [List.all_cons, List.all_eq_true.2 (udig_digits i)]; rfl
  unfold fldOk fullF goodNameL
  simp only [ha, Bool.true_and]
  rw [decide_eq_true (by simp), decide_eq_true (by simp only [List.length_cons]; omega)]
  decide
theorem full_all (k : Nat) (hk : k ≤ 70) : (fullL k).all fldOk = true := by
  rw [List.all_eq_true]
  intro f hf
  obtain ⟨i, hi, rfl⟩ := List.mem_map.1 hf
  exact full_good i (by have := List.mem_range.1 hi; omega)
theorem full_len (k : Nat) (hk : k ≤ 70) : (linesB (fullL k)).length ≤ k * 16 := by
  induction k with
  | zero => simp [fullL, linesB]
  | succ k ih =>
    have := ih (by omega)
    have hl := udig_length k
    rw [fullL_succ, linesB_snoc, List.length_append]
    have : (fldLn (fullF k)).length = (udig k).length + 6 := by simp [fldLn, fullF, crlfL]
    omega
theorem full_head (k : Nat) (hk : k < 70) : (headB get1 (fullL k)).length ≤ 2000 := by
  have := full_len k (by omega)
  unfold headB
  simp only [List.length_append, get1, crlfL, List.length_cons, List.length_nil]
  omega
theorem full_parse (k : Nat) (hk : k < 70) : reqE (headB get1 (fullL k)) = (if 64 < k then 6 else 0) ∧ fieldsL (headB get1 (fullL k)) = fullL k := by
  have hl := full_head k hk
  obtain ⟨h1, h2, h3⟩ := parse_head get1_no13 (full_all k (by omega)) (show (headB get1 (fullL k)).length ≤ 16384 by omega)
  refine ⟨?_, h3⟩
  unfold reqE reqWords
  rw [h1, h2, fullL_len, get1_ok]
  by_cases h : 64 < k
  · rw [if_pos h]; rfl
  · rw [if_neg h]; rfl
theorem full_print (k : Nat) (hk : k < 70) : printE get1 (fullL k) = if 64 < k then 2 else 0 := by
  have hl := full_head k hk
  by_cases h : 64 < k
  · rw [if_pos h, (print_many (by rw [fullL_len]; exact h)).1]
  · rw [if_neg h, (print_ok (by rw [fullL_len]; exact h) (full_all k (by omega)) (by omega)).1]
theorem full_value (u : Nat) (hu : u < 4200) : reqE (get1 ++ crlfL ++ ([97, 58, 32] ++ List.replicate u 118) ++ endL) = if u ≤ 4096 then 0 else 2 := by
  have hb : (13 : UInt8) ∉ ([97, 58, 32] ++ List.replicate u 118 : List UInt8) := by
    intro h
    rcases List.mem_append.1 h with h | h
    · revert h; decide
    · have := List.eq_of_mem_replicate h; revert this; decide
  have ht : trimL (List.replicate u 118) = List.replicate u (118 : UInt8) := by
    have := trim_mid [] (List.replicate u 118) [] rfl rfl (by
      rcases u with _ | u
      · exact .inl rfl
      · exact .inr ⟨118, rfl, by decide⟩) (by
      rcases u with _ | u
      · exact .inl rfl
      · exact .inr ⟨118, by rw [List.getLast?_replicate]; rfl, by decide⟩)
    simpa using this
  have ha : (List.replicate u (118 : UInt8)).all valueB = true := by
    rw [List.all_eq_true]; intro c hc; rw [List.eq_of_mem_replicate hc]; decide
  rw [req_two hb (by simp; omega), show ([97, 58, 32] ++ List.replicate u 118 : List UInt8) = [97] ++ 58 :: (32 :: List.replicate u 118) by simp, (line_of (a := [97]) (by decide)).1, trim_blank, ht]
  unfold goodValueL
  rw [ha, ht, List.length_replicate]
  by_cases h : u ≤ 4096
  · rw [decide_eq_true h, if_pos h]; simp; decide
  · rw [decide_eq_false h, if_neg h]; simp
end Go.Proofs.YtfifoimnebbflaaGreatDoor

/- Printed heads read again: where they end, and as which request or response. No program here. -/
namespace Go.Proofs.YtfifoimnebbflaaGreatDoor
open Go.RowKit

theorem occ_drop (a b sub : List UInt8) (j : Nat) : Lib.occAt (a ++ b) sub (a.length + j) = Lib.occAt b sub j := by
  unfold Lib.occAt
  rw [← List.drop_drop, List.drop_left]
theorem no_end_before : ∀ (ls : List (List UInt8)) (first more : List UInt8), (13 : UInt8) ∉ first → (∀ x ∈ ls, (13 : UInt8) ∉ x ∧ x ≠ []) →
    ∀ j, j < (first ++ ls.flatMap (fun x => crlfL ++ x)).length → Lib.occAt ((first ++ ls.flatMap (fun x => crlfL ++ x)) ++ (endL ++ more)) endL j = false
  | [], first, more, h0, _, j, hj => by
    rw [List.flatMap_nil, List.append_nil] at hj ⊢
    exact noc_at h0 hj
  | x :: ls, first, more, h0, h, j, hj => by
    have hx := h x (by simp)
    have ih := no_end_before ls x more hx.1 (fun y hy => h y (by simp [hy]))
    have e : (first ++ (x :: ls).flatMap (fun x => crlfL ++ x)) ++ (endL ++ more) = first ++ (crlfL ++ ((x ++ ls.flatMap (fun x => crlfL ++ x)) ++ (endL ++ more))) := by simp
    have el : (first ++ (x :: ls).flatMap (fun x => crlfL ++ x)).length = first.length + (2 + (x ++ ls.flatMap (fun x => crlfL ++ x)).length) := by simp [crlfL]; omega
    rw [el] at hj
    rw [e]
    generalize hy : (x ++ ls.flatMap (fun x => crlfL ++ x)) = y at ih hj ⊢
    by_cases h1 : j < first.length
    · exact noc_at h0 h1
    · obtain ⟨k, rfl⟩ : ∃ k, j = first.length + k := ⟨j - first.length, by omega⟩
      rw [occ_drop]
      obtain ⟨c, x', rfl⟩ : ∃ c x', x = c :: x' := by
        cases x with
        | nil => exact absurd rfl hx.2
        | cons c x' => exact ⟨c, x', rfl⟩
      have hc : c ≠ 13 := fun e => hx.1 (by simp [e])
      match k, hj with
      | 0, _ =>
        subst hy
        simp [Lib.occAt, crlfL, endL, List.isPrefixOf]
        intro e; exact absurd e.symm hc
      | 1, _ => simp [Lib.occAt, crlfL, endL, List.isPrefixOf]
      | k + 2, hj =>
        have := ih k (by omega)
        rw [show k + 2 = crlfL.length + k by simp [crlfL]; omega, occ_drop]
        exact this
theorem take_app (a b : List UInt8) (n : Nat) (h : a.length ≤ n) : (a ++ b).take n = a ++ b.take (n - a.length) := by
  rw [List.take_append, List.take_of_length_le h]
theorem head_end {first : List UInt8} {fs : List (List UInt8 × List UInt8)} (hf : (13 : UInt8) ∉ first) (hall : fs.all fldOk = true) (hl : (headB first fs).length ≤ 16384) (more : List UInt8) :
    endE (headB first fs ++ more) = 0 ∧ endN (headB first fs ++ more) = (headB first fs).length := by
  have hno := no_end_before (fs.map fldTx) first (more.take (16384 - (headB first fs).length)) hf (fun x hx => by
    obtain ⟨f, hfm, rfl⟩ := List.mem_map.1 hx
    exact ⟨(tx_facts (List.all_eq_true.1 hall f hfm)).1, by simp [fldTx]⟩)
  have hE := headB_end first fs
  generalize hx : (first ++ (fs.map fldTx).flatMap (fun x => crlfL ++ x)) = X at hno hE
  have hlen : (headB first fs).length = X.length + 4 := by rw [hE]; simp [endL]
  have hi : endI (headB first fs ++ more) = (X.length : Int) := by
    unfold endI
    rw [take_app _ _ _ hl]
    generalize more.take (16384 - (headB first fs).length) = m at hno ⊢
    rw [hE, List.append_assoc]
    refine Lib.index_first (by simp) ?_ hno
    unfold Lib.occAt
    rw [List.drop_left, List.isPrefixOf_iff_prefix]
    exact List.prefix_append _ _
  obtain ⟨e1, e2⟩ := end_hit hi
  exact ⟨e1, by rw [e2, hlen]⟩
end Go.Proofs.YtfifoimnebbflaaGreatDoor
