/- field.Lower, concertinaref16.Lower, field.Same: texts with small letters. -/
import Derived.Test.YtbgbggodjhbgbaaDoorProg
import Derived.Test.YtbgbggodjhbgbaaDoorOwn
import Derived.Test.YtbgbggodjhbgbaaDoorShelf
namespace Go.Proofs.YtbgbggodjhbgbaaDoor
open Go.RowKit

/-- A letter that is small. -/
def lowB (c : UInt8) : UInt8 := if 65 ≤ c.toNat ∧ c.toNat ≤ 90 then c + 32 else c
def lowL (l : List UInt8) : List UInt8 := l.map lowB
theorem lowL_length (l : List UInt8) : (lowL l).length = l.length := by simp [lowL]
theorem lowB_hit (c : UInt8) (h : 65 ≤ c.toNat ∧ c.toNat ≤ 90) : ((lowB c).toNat : Int) = c.toNat + 32 := by
  unfold lowB; rw [if_pos h, UInt8.toNat_add]; have : (32 : UInt8).toNat = 32 := rfl; omega
theorem lowB_miss (c : UInt8) (h : ¬ (65 ≤ c.toNat ∧ c.toNat ≤ 90)) : lowB c = c := by unfold lowB; rw [if_neg h]

theorem lowL_step (l : List UInt8) (k : Nat) (h : k < l.length) : (lowL (l.take k) ++ l.drop k).set k (lowB l[k]) = lowL (l.take (k + 1)) ++ l.drop (k + 1) := by
  have hk : (lowL (l.take k)).length = k := by rw [lowL_length, List.length_take]; omega
  have h1 : l.drop k = l[k] :: l.drop (k + 1) := List.drop_eq_getElem_cons h
  have h2 : lowL (l.take (k + 1)) = lowL (l.take k) ++ [lowB l[k]] := by rw [list_take_snoc l k h]; simp only [lowL, List.map_append, List.map_cons, List.map_nil]
  rw [List.set_append_right _ _ (by omega), hk, Nat.sub_self, h1, h2, List.set_cons_zero, List.append_assoc]
  rfl
theorem bcells_set (l : List UInt8) (k : Nat) (c : UInt8) : (bcells l).set k (.int .u8 c.toNat) = bcells (l.set k c) := by simp [bcells, List.map_set]

theorem infoU8 : (Tryd.prog.info? 5).map (fun i => (i.zero, i.size, i.bytes)) = some (some (.int .u8 0), 1, 1) := by kernel_rfl
theorem own_snoc_byte {w : World} {base e n : Nat} {v : Value} {l : List UInt8} {x : Int} {b : UInt8} (h : w.ownsRow base e 1 v (n + 1) (bcells l ++ (#[Value.int .u8 x]).toList)) (hx : x = b.toNat) : w.ownsRow base e 1 v (n + 1) (bcells (l ++ [b])) := by
  subst hx; simpa [bcells] using h

/-- Without regard to case. -/
def sameL (a b : List UInt8) : Bool := lowL a == lowL b
end Go.Proofs.YtbgbggodjhbgbaaDoor

/- Which bytes, names and values are good: field's and the reference's. -/
namespace Go.Proofs.YtbgbggodjhbgbaaDoor
open Go.RowKit

def marksL : List UInt8 := [33, 35, 36, 37, 38, 39, 42, 43, 45, 46, 94, 95, 96, 124, 126]
/-- May a byte be in a name? -/
def nameB (c : UInt8) : Bool := decide (48 ≤ c.toNat ∧ c.toNat ≤ 57) || decide (97 ≤ c.toNat ∧ c.toNat ≤ 122) || decide (65 ≤ c.toNat ∧ c.toNat ≤ 90) || marksL.contains c
def goodNameL (l : List UInt8) : Bool := l.all nameB && decide (1 ≤ l.length) && decide (l.length ≤ 256)
/-- May a byte be in a value? -/
def valueB (c : UInt8) : Bool := decide (c.toNat = 9) || (decide (32 ≤ c.toNat) && decide (c.toNat ≠ 127))

theorem index_nonneg (l : List UInt8) (c : UInt8) : (0 : Int) ≤ Lib.indexByte l c ↔ l.contains c = true := by
  induction l with
  | nil => simp [Lib.indexByte]
  | cons b l ih =>
    simp only [Lib.indexByte, List.contains_cons]
    by_cases h : b = c
    · subst h; simp
    · have h1 : (b == c) = false := by simpa using h
      have h2 : (c == b) = false := by simpa using fun e => h e.symm
      rw [h1, h2]
      by_cases h3 : Lib.indexByte l c = -1
      · simp only [h3] at ih ⊢; simp at ih ⊢; exact ih
      · have h4 : (Lib.indexByte l c == -1) = false := by simpa using h3
        rw [h4]
        have h5 : (-1 : Int) ≤ Lib.indexByte l c := by
          clear ih h3 h4
          induction l with
          | nil => simp [Lib.indexByte]
          | cons x l ih2 => simp only [Lib.indexByte]; split; omega; split <;> omega
        simp only [Bool.false_or, Bool.false_eq_true, if_false]
        rw [← ih]; omega
theorem toUInt8_back (c : UInt8) : ((c.toNat : Int)).toNat.toUInt8 = c := by simp

theorem all_take_snoc {p : UInt8 → Bool} (s : ByteArray) (k : Nat) (h : k < s.size) : (s.data.toList.take (k + 1)).all p = ((s.data.toList.take k).all p && p s[k]) := by rw [take_snoc s k h, List.all_append]; simp
theorem all_false {p : UInt8 → Bool} (s : ByteArray) (k : Nat) (h : k < s.size) (hp : p s[k] = false) : s.data.toList.all p = false := by
  rw [← List.take_append_drop (k + 1) s.data.toList, List.all_append, all_take_snoc s k h, hp]; simp

end Go.Proofs.YtbgbggodjhbgbaaDoor

/- field.Trim and the reference's: without blanks at both ends. -/
namespace Go.Proofs.YtbgbggodjhbgbaaDoor
open Go.RowKit

/-- A blank? -/
def blankB (c : UInt8) : Bool := [32, 9].contains c
def trimL (l : List UInt8) : List UInt8 := Lib.trimS l [32, 9]
theorem blank_cases (b : UInt8) (h : blankB b = true) : b.toNat = 32 ∨ (¬ b.toNat = 32 ∧ b.toNat = 9) := by
  simp [blankB] at h
  rcases h with rfl | rfl <;> decide
theorem blank_not (b : UInt8) (h : ¬ blankB b = true) : ¬ b.toNat = 32 ∧ ¬ b.toNat = 9 := by
  constructor
  · intro e; obtain rfl : b = 32 := UInt8.toNat_inj.1 (by simpa using e); exact h (by decide)
  · intro e; obtain rfl : b = 9 := UInt8.toNat_inj.1 (by simpa using e); exact h (by decide)
theorem dropWhile_all {p : UInt8 → Bool} : ∀ (l r : List UInt8), l.all p = true → (l ++ r).dropWhile p = r.dropWhile p
  | [], r, _ => rfl
  | a :: l, r, h => by
    simp only [List.all_cons, Bool.and_eq_true] at h
    rw [List.cons_append, List.dropWhile_cons, if_pos h.1]
    exact dropWhile_all l r h.2
theorem dropWhile_head {p : UInt8 → Bool} (m : List UInt8) (h : m = [] ∨ ∃ a, m.head? = some a ∧ p a = false) : m.dropWhile p = m := by
  rcases h with rfl | ⟨a, ha, hp⟩
  · rfl
  · cases m with
    | nil => rfl
    | cons x m => simp at ha; subst ha; rw [List.dropWhile_cons, if_neg (by simp [hp])]
/-- Blanks, what is in the midst, blanks. -/
theorem trim_mid (pre m suf : List UInt8) (hp : pre.all blankB = true) (hs : suf.all blankB = true) (h1 : m = [] ∨ ∃ a, m.head? = some a ∧ blankB a = false) (h2 : m = [] ∨ ∃ a, m.getLast? = some a ∧ blankB a = false) :
    trimL (pre ++ m ++ suf) = m := by
  have hr : ∀ l : List UInt8, l.all blankB = true → l.reverse.all blankB = true := fun l h => by rw [List.all_reverse]; exact h
  have e1 : Lib.trimRightS (pre ++ m ++ suf) [32, 9] = if m = [] then [] else pre ++ m := by
    show ((pre ++ m ++ suf).reverse.dropWhile blankB).reverse = _
    rw [List.reverse_append, dropWhile_all _ _ (hr _ hs)]
    by_cases hm : m = []
    · subst hm
      have := dropWhile_all (p := blankB) pre.reverse [] (hr _ hp)
      simp only [List.append_nil] at this ⊢
      rw [this]; simp
    · rw [if_neg hm, dropWhile_head]
      · simp
      · right
        obtain ⟨a, ha, hb⟩ := h2.resolve_left hm
        refine ⟨a, ?_, hb⟩
        rw [List.head?_reverse, List.getLast?_append, ha]; rfl
  show Lib.trimLeftS (Lib.trimRightS (pre ++ m ++ suf) [32, 9]) [32, 9] = m
  rw [e1]
  by_cases hm : m = []
  · subst hm; rfl
  · rw [if_neg hm]
    show (pre ++ m).dropWhile blankB = m
    rw [dropWhile_all _ _ hp, dropWhile_head _ h1]

theorem nil_of_size {u : ByteArray} (h : u.size = 0) : u.data.toList = [] := List.eq_nil_of_length_eq_zero (by rw [← size_of]; exact h)
theorem head_get (u : ByteArray) (h : 0 < u.size) : u.data.toList.head? = some u[0] := by
  rw [List.head?_eq_getElem?, get_toList u 0 h]
theorem last_get (u : ByteArray) (h : 0 < u.size) : u.data.toList.getLast? = some u[u.size - 1] := by
  rw [List.getLast?_eq_getElem?, ← size_of, get_toList u (u.size - 1) (by omega)]
theorem trim_end {l pre t u suf : List UInt8} (hl : l = pre ++ t ∧ pre.all blankB = true) (hu : t = u ++ suf) (hs : suf.all blankB = true) (ht : t = [] ∨ ∃ a, t.head? = some a ∧ blankB a = false) (h : u = [] ∨ ∃ b, u.getLast? = some b ∧ blankB b = false) : trimL l = u := by
  obtain ⟨rfl, hp⟩ := hl
  subst hu
  rw [← List.append_assoc]
  refine trim_mid pre u suf hp hs ?_ h
  rcases h with h | ⟨b, hb, _⟩
  · exact .inl h
  · right
    have hne : u ≠ [] := by rintro rfl; simp at hb
    rcases ht with h0 | ⟨a, ha, hb'⟩
    · exact absurd (List.append_eq_nil_iff.1 h0).1 hne
    · refine ⟨a, ?_, hb'⟩
      cases u with
      | nil => exact absurd rfl hne
      | cons x u => simpa using ha
theorem trim_snoc {t suf : List UInt8} {u : ByteArray} {b : UInt8} (hu : t = u.data.toList ++ suf) (hs : suf.all blankB = true) (hl : u.data.toList.getLast? = some b) (hb : blankB b = true) :
    t = (u.extract 0 (u.size - 1)).data.toList ++ (b :: suf) ∧ (b :: suf).all blankB = true := by
  refine ⟨?_, by simp [hb, hs]⟩
  have e : (u.extract 0 (u.size - 1)).data.toList = u.data.toList.dropLast := by
    rw [extract_list, List.drop_zero, List.dropLast_eq_take, size_of]
  have hne : u.data.toList ≠ [] := by intro h; rw [h] at hl; simp at hl
  have h2 := List.dropLast_concat_getLast hne
  rw [List.getLast?_eq_some_getLast hne] at hl
  rw [hu, e]
  conv => lhs; rw [← h2]
  simp only [Option.some.injEq] at hl
  rw [hl]; simp
theorem trim_front {l pre : List UInt8} {t : ByteArray} {b : UInt8} (hl : l = pre ++ t.data.toList ∧ pre.all blankB = true) (hp : 0 < t.size) (ht : t[0] = b) (hb : blankB b = true) :
    l = (pre ++ [b]) ++ (t.extract 1 t.size).data.toList ∧ (pre ++ [b]).all blankB = true := by
  refine ⟨?_, by rw [List.all_append, hl.2]; simp [hb]⟩
  rw [hl.1, extract_list, List.append_assoc, take_all t t.size (Nat.le_refl _)]
  have := drop_cons t 0 hp
  rw [List.drop_zero, ht] at this
  rw [this]; rfl
/-- For a measure: a string's length. -/
def strLen : Value → Nat | .string s => s.size | _ => 0

end Go.Proofs.YtbgbggodjhbgbaaDoor

/- Good values, and the reference's names and values. -/
namespace Go.Proofs.YtbgbggodjhbgbaaDoor
open Go.RowKit

def goodValueL (l : List UInt8) : Bool := l.all valueB && decide (l.length ≤ 4096) && (trimL l == l)

def plainL (l : List UInt8) : Bool := l.all valueB
theorem plainL_of {l : List UInt8} {b : Bool} (h : l.all valueB = b) : plainL l = b := h
end Go.Proofs.YtbgbggodjhbgbaaDoor
