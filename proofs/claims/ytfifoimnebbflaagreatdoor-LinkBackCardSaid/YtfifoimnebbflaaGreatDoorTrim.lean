/- field.Lower, concertinaref16.Lower, field.Same: texts with small letters. -/
import Derived.Test.YtfifoimnebbflaaGreatDoorProg
import Derived.Test.YtfifoimnebbflaaGreatDoorOwn
import Derived.Test.YtfifoimnebbflaaGreatDoorShelf
namespace Go.Proofs.YtfifoimnebbflaaGreatDoor
open Go.RowKit

/-- A letter that is small. -/
def lowB (c : UInt8) : UInt8 := if 65 ≤ c.toNat ∧ c.toNat ≤ 90 then c + 32 else c
def lowL (l : List UInt8) : List UInt8 := l.map lowB
theorem lowL_length (l : List UInt8) : (lowL l).length = l.length := by simp [lowL]
theorem lowB_hit (c : UInt8) (h : 65 ≤ c.toNat ∧ c.toNat ≤ 90) : ((lowB c).toNat : Int) = c.toNat + 32 := by
  unfold lowB; rw [if_pos h, UInt8.toNat_add]; have : (32 : UInt8).toNat = 32 := rfl; omega
theorem lowB_miss (c : UInt8) (h : ¬ (65 ≤ c.toNat ∧ c.toNat ≤ 90)) : lowB c = c := by unfold lowB; rw [if_neg h]

set_option maxHeartbeats 400000 in
theorem small_any (c : UInt8) (w : World) :
    Calls Tryz.prog 89 #[.int .u8 c.toNat] w fun e w' => e = .returned (.int .u8 (lowB c).toNat) ∧ w = w' := by
  have hc : c.toNat < 256 := c.toNat_lt
  by_cases h1 : 65 ≤ c.toNat
  · by_cases h2 : c.toNat ≤ 90
    · have h := lowB_hit c ⟨h1, h2⟩
      have H := hide h
      clear h
      go_enter Tryz.func89, Tryz.ntmps89
      go_wp2
      go_ret
      exact ⟨ret_int (by rw [H.out]; omega), rfl⟩
    · have h := lowB_miss c (by omega)
      have H := hide h
      clear h
      go_enter Tryz.func89, Tryz.ntmps89
      go_wp2
      go_ret
      exact ⟨ret_int (by rw [H.out]), rfl⟩
  · have h := lowB_miss c (by omega)
    have H := hide h
    clear h
    go_enter Tryz.func89, Tryz.ntmps89
    go_wp2
    go_ret
    exact ⟨ret_int (by rw [H.out]), rfl⟩
theorem lowL_step (l : List UInt8) (k : Nat) (h : k < l.length) : (lowL (l.take k) ++ l.drop k).set k (lowB l[k]) = lowL (l.take (k + 1)) ++ l.drop (k + 1) := by
  have hk : (lowL (l.take k)).length = k := by rw [lowL_length, List.length_take]; omega
  have h1 : l.drop k = l[k] :: l.drop (k + 1) := List.drop_eq_getElem_cons h
  have h2 : lowL (l.take (k + 1)) = lowL (l.take k) ++ [lowB l[k]] := by rw [list_take_snoc l k h]; simp only [lowL, List.map_append, List.map_cons, List.map_nil]
  rw [List.set_append_right _ _ (by omega), hk, Nat.sub_self, h1, h2, List.set_cons_zero, List.append_assoc]
  rfl
theorem bcells_set (l : List UInt8) (k : Nat) (c : UInt8) : (bcells l).set k (.int .u8 c.toNat) = bcells (l.set k c) := by simp [bcells, List.map_set]

theorem infoU8 : (Tryz.prog.info? 5).map (fun i => (i.zero, i.size, i.bytes)) = some (some (.int .u8 0), 1, 1) := by kernel_rfl
theorem own_snoc_byte {w : World} {base e n : Nat} {v : Value} {l : List UInt8} {x : Int} {b : UInt8} (h : w.ownsRow base e 1 v (n + 1) (bcells l ++ (#[Value.int .u8 x]).toList)) (hx : x = b.toNat) : w.ownsRow base e 1 v (n + 1) (bcells (l ++ [b])) := by
  subst hx; simpa [bcells] using h

/-- Without regard to case. -/
def sameL (a b : List UInt8) : Bool := lowL a == lowL b
end Go.Proofs.YtfifoimnebbflaaGreatDoor

/- Which bytes, names and values are good: field's and the reference's. -/
namespace Go.Proofs.YtfifoimnebbflaaGreatDoor
open Go.RowKit

def marksL : List UInt8 := [33, 35, 36, 37, 38, 39, 42, 43, 45, 46, 94, 95, 96, 124, 126]
/-- May a byte be in a name? -/
def nameB (c : UInt8) : Bool := decide (48 ≤ c.toNat ∧ c.toNat ≤ 57) || decide (97 ≤ c.toNat ∧ c.toNat ≤ 122) || decide (65 ≤ c.toNat ∧ c.toNat ≤ 90) || marksL.contains c
def goodNameL (l : List UInt8) : Bool := l.all nameB && decide (1 ≤ l.length) && decide (l.length ≤ 256)
/-- May a byte be in a value? -/
def valueB (c : UInt8) : Bool := decide (c.toNat = 9) || (decide (32 ≤ c.toNat) && decide (c.toNat ≠ 127))

theorem index_nonneg (l : List UInt8) (c : UInt8) : (0 : Int) ≤ Lib.indexByte l c ↔ l.contains c = true := by
  induction l with
  | nil => simp [Lib.indexByte]
  | cons b l ih =>
    simp only [Lib.indexByte, List.contains_cons]
    by_cases h : b = c
    · subst h; simp
    · have h1 : (b == c) = false := by simpa using h
      have h2 : (c == b) = false := by simpa using fun e => h e.symm
      rw [h1, h2]
      by_cases h3 : Lib.indexByte l c = -1
      · simp only [h3] at ih ⊢; simp at ih ⊢; exact ih
      · have h4 : (Lib.indexByte l c == -1) = false := by simpa using h3
        rw [h4]
        have h5 : (-1 : Int) ≤ Lib.indexByte l c := by
          clear ih h3 h4
          induction l with
          | nil => simp [Lib.indexByte]
          | cons x l ih2 => simp only [Lib.indexByte]; split; omega; split <;> omega
        simp only [Bool.false_or, Bool.false_eq_true, if_false]
        rw [← ih]; omega
theorem toUInt8_back (c : UInt8) : ((c.toNat : Int)).toNat.toUInt8 = c := by simp

set_option maxRecDepth 100000 in
set_option maxHeartbeats 800000 in
theorem nameByte_any (c : UInt8) (w : World) :
    Calls Tryz.prog 67 #[.int .u8 c.toNat] w fun e w' => e = .returned (.bool (nameB c)) ∧ w = w' := by
  have hc : c.toNat < 256 := c.toNat_lt
  have hsm := small_any c
  by_cases h1 : 48 ≤ c.toNat ∧ c.toNat ≤ 57
  · have hr : nameB c = true := by simp [nameB, h1]
    have HR := hide hr
    obtain ⟨h1, h2⟩ := h1
    clear hr
    go_enter Tryz.func67, Tryz.ntmps67
    go_wp2_with (go_at_call 89; refine (hsm _).mono ?_; rintro e w' ⟨rfl, rfl⟩)
    go_ret
    exact ⟨ret_bool HR.out.symm, rfl⟩
  · by_cases h2 : 97 ≤ c.toNat ∧ c.toNat ≤ 122
    · have hr : nameB c = true := by simp [nameB, h2]
      have HR := hide hr
      have hl := lowB_miss c (by omega)
      rw [hl] at hsm
      obtain ⟨h2, h3⟩ := h2
      clear hr hl h1
      go_enter Tryz.func67, Tryz.ntmps67
      go_wp2_with (go_at_call 89; refine (hsm _).mono ?_; rintro e w' ⟨rfl, rfl⟩)
      go_ret
      exact ⟨ret_bool HR.out.symm, rfl⟩
    · by_cases h3 : 65 ≤ c.toNat ∧ c.toNat ≤ 90
      · have hr : nameB c = true := by simp [nameB, h3]
        have HR := hide hr
        have hl := lowB_hit c h3
        obtain ⟨d, hd⟩ : ∃ d, d = lowB c := ⟨_, rfl⟩
        rw [← hd] at hsm hl
        have hl1 : (97 : Int) ≤ (d.toNat : Int) := by omega
        have hl2 : (d.toNat : Int) ≤ 122 := by omega
        obtain ⟨h3, h4⟩ := h3
        clear hr hl h1 h2 hd
        go_enter Tryz.func67, Tryz.ntmps67
        go_wp2_with (go_at_call 89; refine (hsm _).mono ?_; rintro e w' ⟨rfl, rfl⟩)
        all_goals go_ret
        all_goals exact ⟨ret_bool HR.out.symm, rfl⟩
      · have hl := lowB_miss c (by omega)
        rw [hl] at hsm
        have hr : nameB c = marksL.contains c := by simp [nameB, h1, h2, h3]
        have hix := fun w => Tryz.strings_IndexByte ⟨#[33, 35, 36, 37, 38, 39, 42, 43, 45, 46, 94, 95, 96, 124, 126]⟩ c.toNat w
        rw [toUInt8_back] at hix
        have hin := index_nonneg marksL c
        obtain ⟨ix, hixe⟩ : ∃ ix, ix = Lib.indexByte marksL c := ⟨_, rfl⟩
        have hix' : ∀ w, Calls Tryz.prog 90 #[.string ⟨#[33, 35, 36, 37, 38, 39, 42, 43, 45, 46, 94, 95, 96, 124, 126]⟩, .int .u8 c.toNat] w fun e w' => e = .returned (.int .i64 ix) ∧ w' = w := by rw [hixe]; exact hix
        rw [← hixe] at hin
        have h0 : c.toNat = 0 → marksL.contains c = false := fun h => by
          have : c = 0 := UInt8.toNat_inj.1 (by simpa using h)
          subst this; decide
        have hn : (48 : Int) ≤ (c.toNat : Int) → (57 : Int) < (c.toNat : Int) := by omega
        have hn2 : (97 : Int) ≤ (c.toNat : Int) → (122 : Int) < (c.toNat : Int) := by omega
        have HIN := hide hin
        have HR := hide hr
        have H0 := hide h0
        have H1 := hide h1
        have H2 := hide h2
        have HN := hide hn
        have HN2 := hide hn2
        have HIX := hide hix'
        have HS := hide hsm
        clear hin hr hix hixe h0 h1 h2 h3 hl hn hn2 hix' hsm
        by_cases hz : c.toNat = 0
        · obtain rfl : c = 0 := UInt8.toNat_inj.1 (by simpa using hz)
          clear hz
          go_enter Tryz.func67, Tryz.ntmps67
          go_wp2_with (go_at_call 89; refine (HS.out _).mono ?_; rintro e w' ⟨rfl, rfl⟩)
          go_ret
          exact ⟨ret_bool (by rw [HR.out]; decide), rfl⟩
        · have hz' : ((c.toNat : Int) != 0) = true := by simp; omega
          have HZ := hide hz
          clear hz
          rcases Nat.lt_or_ge c.toNat 48 with hA | hA
          · by_cases hpos : 0 ≤ ix
            all_goals
              go_enter Tryz.func67, Tryz.ntmps67
              go_wp2_with (first | (go_at_call 89; refine (HS.out _).mono ?_; rintro e w' ⟨rfl, rfl⟩) | (go_at_call 90; refine (HIX.out _).mono ?_; rintro e w' ⟨rfl, rfl⟩))
              go_ret
              exact ⟨ret_bool (by rw [HR.out, Bool.eq_iff_iff, ← HIN.out]; simp [hpos] <;> omega), rfl⟩
          · have hB : (57 : Int) < (c.toNat : Int) := HN.out (by omega)
            rcases Nat.lt_or_ge c.toNat 97 with hC | hC
            · by_cases hpos : 0 ≤ ix
              all_goals
                go_enter Tryz.func67, Tryz.ntmps67
                go_wp2_with (first | (go_at_call 89; refine (HS.out _).mono ?_; rintro e w' ⟨rfl, rfl⟩) | (go_at_call 90; refine (HIX.out _).mono ?_; rintro e w' ⟨rfl, rfl⟩))
                go_ret
                exact ⟨ret_bool (by rw [HR.out, Bool.eq_iff_iff, ← HIN.out]; simp [hpos] <;> omega), rfl⟩
            · have hD : (122 : Int) < (c.toNat : Int) := HN2.out (by omega)
              by_cases hpos : 0 ≤ ix
              all_goals
                go_enter Tryz.func67, Tryz.ntmps67
                go_wp2_with (first | (go_at_call 89; refine (HS.out _).mono ?_; rintro e w' ⟨rfl, rfl⟩) | (go_at_call 90; refine (HIX.out _).mono ?_; rintro e w' ⟨rfl, rfl⟩))
                go_ret
                exact ⟨ret_bool (by rw [HR.out, Bool.eq_iff_iff, ← HIN.out]; simp [hpos] <;> omega), rfl⟩

theorem all_take_snoc {p : UInt8 → Bool} (s : ByteArray) (k : Nat) (h : k < s.size) : (s.data.toList.take (k + 1)).all p = ((s.data.toList.take k).all p && p s[k]) := by rw [take_snoc s k h, List.all_append]; simp
theorem all_false {p : UInt8 → Bool} (s : ByteArray) (k : Nat) (h : k < s.size) (hp : p s[k] = false) : s.data.toList.all p = false := by
  rw [← List.take_append_drop (k + 1) s.data.toList, List.all_append, all_take_snoc s k h, hp]; simp

set_option maxRecDepth 100000 in
set_option maxHeartbeats 800000 in
theorem goodName_any (s : ByteArray) (w : World) (hs : s.size ≤ 140737488355328) :
    Calls Tryz.prog 42 #[.string s] w fun e w' => e = .returned (.bool (goodNameL s.data.toList)) ∧ w = w' := by
  have HL := hide (size_of s)
  go_enter Tryz.func42, Tryz.ntmps42
  go_wp2_with fail
  go_loop [6] (fun i => ∃ k : Nat, k ≤ s.size ∧ i = .int .i64 k ∧ (s.data.toList.take k).all nameB = true) (fun i => s.size - (intOf i).toNat)
  case atStart => exact ⟨0, Nat.zero_le _, rfl, rfl⟩
  case round =>
    obtain ⟨k, hk, rfl, ha⟩ := hrel
    have HA := hide ha
    clear ha
    by_cases hlt : k < s.size
    · have hn := nameByte_any s[k] w
      have hts := all_take_snoc (p := nameB) s k hlt
      rcases hb : nameB s[k] with _ | _
      · rw [hb] at hn
        have hfa := all_false (p := nameB) s k hlt hb
        have HF := hide hfa
        clear hb hts hfa
        go_wp2_with (go_at_call 67; refine hn.mono ?_; rintro e w' ⟨rfl, rfl⟩)
        go_ret
        exact ⟨ret_bool (by rw [goodNameL, HF.out]; rfl), rfl⟩
      · rw [hb] at hn
        have HB := hide hb
        have HT := hide hts
        clear hb hts
        go_wp2_with (go_at_call 67; refine hn.mono ?_; rintro e w' ⟨rfl, rfl⟩)
        go_round
        case rel => exact ⟨k + 1, by omega, by go_num, by rw [HT.out, HA.out, HB.out]; rfl⟩
        case measure => simp [intOf]; omega
    · have hfin : s.data.toList.all nameB = true := by have := HA.out; rwa [take_all s k (by omega)] at this
      have HF := hide hfin
      clear hfin
      go_wp2
      all_goals go_ret
      all_goals
        refine ⟨ret_bool ?_, rfl⟩
        have hl := HL.out
        simp only [goodNameL, HF.out, Bool.true_and]
        rw [← hl, Bool.eq_iff_iff]
        simp
        omega
end Go.Proofs.YtfifoimnebbflaaGreatDoor

/- field.Trim and the reference's: without blanks at both ends. -/
namespace Go.Proofs.YtfifoimnebbflaaGreatDoor
open Go.RowKit

/-- A blank? -/
def blankB (c : UInt8) : Bool := [32, 9].contains c
def trimL (l : List UInt8) : List UInt8 := Lib.trimS l [32, 9]
theorem blank_cases (b : UInt8) (h : blankB b = true) : b.toNat = 32 ∨ (¬ b.toNat = 32 ∧ b.toNat = 9) := by
  simp [blankB] at h
  rcases h with rfl | rfl <;> decide
theorem blank_not (b : UInt8) (h : ¬ blankB b = true) : ¬ b.toNat = 32 ∧ ¬ b.toNat = 9 := by
  constructor
  · intro e; obtain rfl : b = 32 := UInt8.toNat_inj.1 (by simpa using e); exact h (by decide)
  · intro e; obtain rfl : b = 9 := UInt8.toNat_inj.1 (by simpa using e); exact h (by decide)
theorem dropWhile_all {p : UInt8 → Bool} : ∀ (l r : List UInt8), l.all p = true → (l ++ r).dropWhile p = r.dropWhile p
  | [], r, _ => rfl
  | a :: l, r, h => by
    simp only [List.all_cons, Bool.and_eq_true] at h
    rw [List.cons_append, List.dropWhile_cons, if_pos h.1]
    exact dropWhile_all l r h.2
theorem dropWhile_head {p : UInt8 → Bool} (m : List UInt8) (h : m = [] ∨ ∃ a, m.head? = some a ∧ p a = false) : m.dropWhile p = m := by
  rcases h with rfl | ⟨a, ha, hp⟩
  · rfl
  · cases m with
    | nil => rfl
    | cons x m => simp at ha; subst ha; rw [List.dropWhile_cons, if_neg (by simp [hp])]
/-- Blanks, what is in the midst, blanks. -/
theorem trim_mid (pre m suf : List UInt8) (hp : pre.all blankB = true) (hs : suf.all blankB = true) (h1 : m = [] ∨ ∃ a, m.head? = some a ∧ blankB a = false) (h2 : m = [] ∨ ∃ a, m.getLast? = some a ∧ blankB a = false) :
    trimL (pre ++ m ++ suf) = m := by
  have hr : ∀ l : List UInt8, l.all blankB = true → l.reverse.all blankB = true := fun l h => by rw [List.all_reverse]; exact h
  have e1 : Lib.trimRightS (pre ++ m ++ suf) [32, 9] = if m = [] then [] else pre ++ m := by
    show ((pre ++ m ++ suf).reverse.dropWhile blankB).reverse = _
    rw [List.reverse_append, dropWhile_all _ _ (hr _ hs)]
    by_cases hm : m = []
    · subst hm
      have := dropWhile_all (p := blankB) pre.reverse [] (hr _ hp)
      simp only [List.append_nil] at this ⊢
      rw [this]; simp
    · rw [if_neg hm, dropWhile_head]
      · simp
      · right
        obtain ⟨a, ha, hb⟩ := h2.resolve_left hm
        refine ⟨a, ?_, hb⟩
        rw [List.head?_reverse, List.getLast?_append, ha]; rfl
  show Lib.trimLeftS (Lib.trimRightS (pre ++ m ++ suf) [32, 9]) [32, 9] = m
  rw [e1]
  by_cases hm : m = []
  · subst hm; rfl
  · rw [if_neg hm]
    show (pre ++ m).dropWhile blankB = m
    rw [dropWhile_all _ _ hp, dropWhile_head _ h1]

theorem nil_of_size {u : ByteArray} (h : u.size = 0) : u.data.toList = [] := List.eq_nil_of_length_eq_zero (by rw [← size_of]; exact h)
theorem head_get (u : ByteArray) (h : 0 < u.size) : u.data.toList.head? = some u[0] := by
  rw [List.head?_eq_getElem?, get_toList u 0 h]
theorem last_get (u : ByteArray) (h : 0 < u.size) : u.data.toList.getLast? = some u[u.size - 1] := by
  rw [List.getLast?_eq_getElem?, ← size_of, get_toList u (u.size - 1) (by omega)]
theorem trim_end {l pre t u suf : List UInt8} (hl : l = pre ++ t ∧ pre.all blankB = true) (hu : t = u ++ suf) (hs : suf.all blankB = true) (ht : t = [] ∨ ∃ a, t.head? = some a ∧ blankB a = false) (h : u = [] ∨ ∃ b, u.getLast? = some b ∧ blankB b = false) : trimL l = u := by
  obtain ⟨rfl, hp⟩ := hl
  subst hu
  rw [← List.append_assoc]
  refine trim_mid pre u suf hp hs ?_ h
  rcases h with h | ⟨b, hb, _⟩
  · exact .inl h
  · right
    have hne : u ≠ [] := by rintro rfl; simp at hb
    rcases ht with h0 | ⟨a, ha, hb'⟩
    · exact absurd (List.append_eq_nil_iff.1 h0).1 hne
    · refine ⟨a, ?_, hb'⟩
      cases u with
      | nil => exact absurd rfl hne
      | cons x u => simpa using ha
theorem trim_snoc {t suf : List UInt8} {u : ByteArray} {b : UInt8} (hu : t = u.data.toList ++ suf) (hs : suf.all blankB = true) (hl : u.data.toList.getLast? = some b) (hb : blankB b = true) :
    t = (u.extract 0 (u.size - 1)).data.toList ++ (b :: suf) ∧ (b :: suf).all blankB = true := by
  refine ⟨?_, by simp [hb, hs]⟩
  have e : (u.extract 0 (u.size - 1)).data.toList = u.data.toList.dropLast := by
    rw [extract_list, List.drop_zero, List.dropLast_eq_take, size_of]
  have hne : u.data.toList ≠ [] := by intro h; rw [h] at hl; simp at hl
  have h2 := List.dropLast_concat_getLast hne
  rw [List.getLast?_eq_some_getLast hne] at hl
  rw [hu, e]
  conv => lhs; rw [← h2]
  simp only [Option.some.injEq] at hl
  rw [hl]; simp
theorem trim_front {l pre : List UInt8} {t : ByteArray} {b : UInt8} (hl : l = pre ++ t.data.toList ∧ pre.all blankB = true) (hp : 0 < t.size) (ht : t[0] = b) (hb : blankB b = true) :
    l = (pre ++ [b]) ++ (t.extract 1 t.size).data.toList ∧ (pre ++ [b]).all blankB = true := by
  refine ⟨?_, by rw [List.all_append, hl.2]; simp [hb]⟩
  rw [hl.1, extract_list, List.append_assoc, take_all t t.size (Nat.le_refl _)]
  have := drop_cons t 0 hp
  rw [List.drop_zero, ht] at this
  rw [this]; rfl
/-- For a measure: a string's length. -/
def strLen : Value → Nat | .string s => s.size | _ => 0

set_option maxRecDepth 100000 in
set_option maxHeartbeats 800000 in
theorem trim_any (s : ByteArray) (w : World) (hs : s.size ≤ 140737488355328) :
    Calls Tryz.prog 95 #[.string s] w fun e w' => e = .returned (.string ⟨(trimL s.data.toList).toArray⟩) ∧ Below w.heap.size w w' := by
  have hcon := Tryz.strings_Trim_ascii s ⟨#[32, 9]⟩ w (by omega) (by decide) (fun j b h => by
    have hb : b ∈ ([32, 9] : List UInt8) := List.mem_of_getElem? h
    simp at hb; rcases hb with rfl | rfl <;> decide)
  change Calls Tryz.prog 114 _ _ (fun e w' => e = .returned (.string ⟨(trimL s.data.toList).toArray⟩) ∧ Below w.heap.size w w') at hcon
  generalize (⟨(trimL s.data.toList).toArray⟩ : ByteArray) = r at hcon ⊢
  go_enter Tryz.func95, Tryz.ntmps95
  go_wp2_with (go_at_call 114; refine hcon.mono ?_; rintro e w' ⟨rfl, hB⟩)
  go_ret
  exact ⟨rfl, hB⟩

set_option maxRecDepth 100000 in
set_option maxHeartbeats 3200000 in
theorem reftrim_any (s : ByteArray) (w : World) (hs : s.size ≤ 140737488355328) :
    Calls Tryz.prog 85 #[.string s] w fun e w' => e = .returned (.string ⟨(trimL s.data.toList).toArray⟩) ∧ w = w' := by
  go_enter Tryz.func85, Tryz.ntmps85
  go_wp2_with fail
  go_loop [0] (fun v => ∃ (t : ByteArray) (pre : List UInt8), v = .string t ∧ t.size ≤ s.size ∧ (s.data.toList = pre ++ t.data.toList ∧ pre.all blankB = true)) (fun v => strLen v)
  case atStart => exact ⟨s, [], rfl, Nat.le_refl _, rfl, rfl⟩
  case round =>
    obtain ⟨t, pre, rfl, ht, hpre⟩ := hrel
    have HPRE := hide hpre
    clear hpre
    by_cases hz : t.size = 0
    · have hz1 : ¬ ((0 : Int) < (t.size : Int)) := by omega
      have HT : Hid (t.data.toList = [] ∨ ∃ a, t.data.toList.head? = some a ∧ blankB a = false) := .inl (nil_of_size hz)
      clear hz
      go_wp2_with fail
      go_loop [0] (fun v => ∃ (u : ByteArray) (suf : List UInt8), v = .string u ∧ u.size ≤ t.size ∧ t.data.toList = u.data.toList ++ suf ∧ suf.all blankB = true) (fun v => strLen v)
      case atStart => exact ⟨t, [], rfl, Nat.le_refl _, by simp, rfl⟩
      case round =>
        obtain ⟨u, suf, rfl, hu, hus, hsuf⟩ := hrel
        have HUS := hide hus
        have HSUF := hide hsuf
        clear hus hsuf
        by_cases hz : u.size = 0
        · have hz1 : ¬ ((0 : Int) < (u.size : Int)) := by omega
          have hend := trim_end HPRE.out HUS.out HSUF.out HT.out (.inl (nil_of_size hz))
          have HEND := hide hend
          clear hend hz
          go_wp2
          go_ret
          exact ⟨ret_string (by rw [HEND.out]), rfl⟩
        · have hp : 0 < u.size := by omega
          have hlast := last_get u hp
          have hlt : u.size - 1 < u.size := by omega
          obtain ⟨b, hb⟩ : ∃ b, u[u.size - 1] = b := ⟨_, rfl⟩
          rw [hb] at hlast
          have e1 : (u.size : Int) - 1 = ((u.size - 1 : Nat) : Int) := by omega
          by_cases hbl : blankB b = true
          · have hsn := trim_snoc HUS.out HSUF.out hlast hbl
            have HSN := hide hsn
            have hor : b.toNat = 32 ∨ (¬ b.toNat = 32 ∧ b.toNat = 9) := blank_cases b hbl
            clear hlast hbl hsn
            rcases hor with hx | ⟨hx1, hx⟩
            · have hx' : ((b.toNat : Int) == 32) = true := by simp; omega
              clear hx
              go_wp2
              go_round
              case rel => exact ⟨u.extract 0 (u.size - 1), _, congrArg Value.string (by first | rfl | (congr 1; omega)), by rw [size_of, extract_list]; simp; omega, HSN.out.1, HSN.out.2⟩
              case measure => simp [strLen]; omega
            · have hx' : ((b.toNat : Int) == 32) = false := by simp; omega
              have hx2 : ((b.toNat : Int) == 9) = true := by simp; omega
              clear hx hx1
              go_wp2
              go_round
              case rel => exact ⟨u.extract 0 (u.size - 1), _, congrArg Value.string (by first | rfl | (congr 1; omega)), by rw [size_of, extract_list]; simp; omega, HSN.out.1, HSN.out.2⟩
              case measure => simp [strLen]; omega
          · have hend := trim_end HPRE.out HUS.out HSUF.out HT.out (.inr ⟨b, hlast, by simpa using hbl⟩)
            have HEND := hide hend
            have hx := blank_not b hbl
            have hx1 : ((b.toNat : Int) == 32) = false := by simp; omega
            have hx2 : ((b.toNat : Int) == 9) = false := by simp; omega
            clear hend hx hlast hbl
            go_wp2
            go_ret
            exact ⟨ret_string (by rw [HEND.out]), rfl⟩
    · have hp : 0 < t.size := by omega
      have hhead := head_get t hp
      obtain ⟨b, hb⟩ : ∃ b, t[0] = b := ⟨_, rfl⟩
      rw [hb] at hhead
      by_cases hbl : blankB b = true
      · have hsn := trim_front HPRE.out hp hb hbl
        have HSN := hide hsn
        have hor : b.toNat = 32 ∨ (¬ b.toNat = 32 ∧ b.toNat = 9) := blank_cases b hbl
        have h1s : (1 : Int) ≤ (t.size : Int) := by omega
        clear hhead hbl hsn
        rcases hor with hx | ⟨hx1, hx⟩
        · have hx' : ((b.toNat : Int) == 32) = true := by simp; omega
          clear hx
          go_wp2
          go_round
          case rel => exact ⟨t.extract 1 t.size, _, rfl, by rw [size_of, extract_list]; simp; omega, HSN.out⟩
          case measure => simp [strLen]; omega
        · have hx' : ((b.toNat : Int) == 32) = false := by simp; omega
          have hx2 : ((b.toNat : Int) == 9) = true := by simp; omega
          clear hx hx1
          go_wp2
          go_round
          case rel => exact ⟨t.extract 1 t.size, _, rfl, by rw [size_of, extract_list]; simp; omega, HSN.out⟩
          case measure => simp [strLen]; omega
      · have HT : Hid (t.data.toList = [] ∨ ∃ a, t.data.toList.head? = some a ∧ blankB a = false) := .inr ⟨b, hhead, by simpa using hbl⟩
        have hx := blank_not b hbl
        have hx1 : ((b.toNat : Int) == 32) = false := by simp; omega
        have hx2 : ((b.toNat : Int) == 9) = false := by simp; omega
        clear hx hhead hbl
        go_wp2_with fail
        go_loop [0] (fun v => ∃ (u : ByteArray) (suf : List UInt8), v = .string u ∧ u.size ≤ t.size ∧ t.data.toList = u.data.toList ++ suf ∧ suf.all blankB = true) (fun v => strLen v)
        case atStart => exact ⟨t, [], rfl, Nat.le_refl _, by simp, rfl⟩
        case round =>
          obtain ⟨u, suf, rfl, hu, hus, hsuf⟩ := hrel
          have HUS := hide hus
          have HSUF := hide hsuf
          clear hus hsuf
          by_cases hz : u.size = 0
          · have hz1 : ¬ ((0 : Int) < (u.size : Int)) := by omega
            have hend := trim_end HPRE.out HUS.out HSUF.out HT.out (.inl (nil_of_size hz))
            have HEND := hide hend
            clear hend hz
            go_wp2
            go_ret
            exact ⟨ret_string (by rw [HEND.out]), rfl⟩
          · have hp : 0 < u.size := by omega
            have hlast := last_get u hp
            have hlt : u.size - 1 < u.size := by omega
            obtain ⟨b, hb⟩ : ∃ b, u[u.size - 1] = b := ⟨_, rfl⟩
            rw [hb] at hlast
            have e1 : (u.size : Int) - 1 = ((u.size - 1 : Nat) : Int) := by omega
            by_cases hbl : blankB b = true
            · have hsn := trim_snoc HUS.out HSUF.out hlast hbl
              have HSN := hide hsn
              have hor : b.toNat = 32 ∨ (¬ b.toNat = 32 ∧ b.toNat = 9) := blank_cases b hbl
              clear hlast hbl hsn
              rcases hor with hx | ⟨hx1, hx⟩
              · have hx' : ((b.toNat : Int) == 32) = true := by simp; omega
                clear hx
                go_wp2
                go_round
                case rel => exact ⟨u.extract 0 (u.size - 1), _, congrArg Value.string (by first | rfl | (congr 1; omega)), by rw [size_of, extract_list]; simp; omega, HSN.out.1, HSN.out.2⟩
                case measure => simp [strLen]; omega
              · have hx' : ((b.toNat : Int) == 32) = false := by simp; omega
                have hx2 : ((b.toNat : Int) == 9) = true := by simp; omega
                clear hx hx1
                go_wp2
                go_round
                case rel => exact ⟨u.extract 0 (u.size - 1), _, congrArg Value.string (by first | rfl | (congr 1; omega)), by rw [size_of, extract_list]; simp; omega, HSN.out.1, HSN.out.2⟩
                case measure => simp [strLen]; omega
            · have hend := trim_end HPRE.out HUS.out HSUF.out HT.out (.inr ⟨b, hlast, by simpa using hbl⟩)
              have HEND := hide hend
              have hx := blank_not b hbl
              have hx1 : ((b.toNat : Int) == 32) = false := by simp; omega
              have hx2 : ((b.toNat : Int) == 9) = false := by simp; omega
              clear hend hx hlast hbl
              go_wp2
              go_ret
              exact ⟨ret_string (by rw [HEND.out]), rfl⟩
end Go.Proofs.YtfifoimnebbflaaGreatDoor

/- Good values, and the reference's names and values. -/
namespace Go.Proofs.YtfifoimnebbflaaGreatDoor
open Go.RowKit

def goodValueL (l : List UInt8) : Bool := l.all valueB && decide (l.length ≤ 4096) && (trimL l == l)

set_option maxRecDepth 100000 in
set_option maxHeartbeats 800000 in
theorem valueByte_any (c : UInt8) (w : World) :
    Calls Tryz.prog 94 #[.int .u8 c.toNat] w fun e w' => e = .returned (.bool (valueB c)) ∧ w = w' := by
  have hc : c.toNat < 256 := c.toNat_lt
  go_enter Tryz.func94, Tryz.ntmps94
  go_wp2
  all_goals go_ret
  all_goals
    refine ⟨ret_bool ?_, rfl⟩
    rw [Bool.eq_iff_iff]
    simp [valueB]
    omega

def plainL (l : List UInt8) : Bool := l.all valueB
theorem plainL_of {l : List UInt8} {b : Bool} (h : l.all valueB = b) : plainL l = b := h
set_option maxRecDepth 100000 in
set_option maxHeartbeats 800000 in
theorem plain_any (s : ByteArray) (w : World) (hs : s.size ≤ 9223372036854775807) :
    Calls Tryz.prog 74 #[.string s] w fun e w' => e = .returned (.bool (plainL s.data.toList)) ∧ w = w' := by
  go_enter Tryz.func74, Tryz.ntmps74
  go_wp2_with fail
  go_loop [3] (fun i => ∃ k : Nat, k ≤ s.size ∧ i = .int .i64 k ∧ (s.data.toList.take k).all valueB = true) (fun i => s.size - (intOf i).toNat)
  case atStart => exact ⟨0, Nat.zero_le _, rfl, rfl⟩
  case round =>
    obtain ⟨k, hk, rfl, ha⟩ := hrel
    have HA := hide ha
    clear ha
    by_cases hlt : k < s.size
    · have hts := all_take_snoc (p := valueB) s k hlt
      have HT := hide hts
      clear hts
      have hfa : valueB s[k] = false → s.data.toList.all valueB = false := all_false (p := valueB) s k hlt
      have HF := hide hfa
      clear hfa
      obtain ⟨b, hb⟩ : ∃ b, s[k] = b := ⟨_, rfl⟩
      rw [hb] at HT HF
      rcases hv : valueB b with _ | _
      · have h1 : ((b.toNat : Int) != 9) = true ∧ ((b.toNat : Int) < 32 ∨ (¬ (b.toNat : Int) < 32 ∧ ((b.toNat : Int) == 127) = true)) := by
          simp [valueB] at hv ⊢; omega
        obtain ⟨h1, h2⟩ := h1
        have HVF := hide hv
        clear hv
        rcases h2 with h2 | ⟨h2, h3⟩
        all_goals
          go_wp2
          go_ret
          refine ⟨ret_bool (by rw [plainL_of (HF.out HVF.out)]), rfl⟩
      · have h1 : (((b.toNat : Int) != 9) = false ∧ ((b.toNat : Int) == 127) = false) ∨ (((b.toNat : Int) != 9) = true ∧ ¬ (b.toNat : Int) < 32 ∧ ((b.toNat : Int) == 127) = false) := by
          simp [valueB] at hv ⊢; omega
        have HV := hide hv
        clear hv
        rcases h1 with ⟨h1, h2⟩ | ⟨h1, h2, h3⟩
        all_goals
          go_wp2
          go_round
          case rel => exact ⟨k + 1, by omega, by go_num, by rw [HT.out, HA.out, HV.out]; rfl⟩
          case measure => simp [intOf]; omega
    · have hfin : s.data.toList.all valueB = true := by have := HA.out; rwa [take_all s k (by omega)] at this
      have HF := hide hfin
      clear hfin
      go_wp2
      go_ret
      exact ⟨ret_bool (by rw [plainL_of HF.out]), rfl⟩
set_option maxRecDepth 100000 in
set_option maxHeartbeats 800000 in
theorem goodValue_any (s : ByteArray) (w : World) (hs : s.size ≤ 140737488355328) :
    Calls Tryz.prog 70 #[.string s] w fun e w' => e = .returned (.bool (goodValueL s.data.toList)) ∧ Below w.heap.size w w' := by
  have HL := hide (size_of s)
  go_enter Tryz.func70, Tryz.ntmps70
  go_wp2_with fail
  go_loop [6] (fun i => ∃ k : Nat, k ≤ s.size ∧ i = .int .i64 k ∧ (s.data.toList.take k).all valueB = true) (fun i => s.size - (intOf i).toNat)
  case atStart => exact ⟨0, Nat.zero_le _, rfl, rfl⟩
  case round =>
    obtain ⟨k, hk, rfl, ha⟩ := hrel
    have HA := hide ha
    clear ha
    by_cases hlt : k < s.size
    · have hn := valueByte_any s[k] w
      have hts := all_take_snoc (p := valueB) s k hlt
      rcases hb : valueB s[k] with _ | _
      · rw [hb] at hn
        have hfa := all_false (p := valueB) s k hlt hb
        have HF := hide hfa
        clear hb hts hfa
        go_wp2_with (go_at_call 94; refine hn.mono ?_; rintro e w' ⟨rfl, rfl⟩)
        go_ret
        exact ⟨ret_bool (by rw [goodValueL, HF.out]; rfl), Below.refl _ _⟩
      · rw [hb] at hn
        have HB := hide hb
        have HT := hide hts
        clear hb hts
        go_wp2_with (go_at_call 94; refine hn.mono ?_; rintro e w' ⟨rfl, rfl⟩)
        go_round
        case rel => exact ⟨k + 1, by omega, by go_num, by rw [HT.out, HA.out, HB.out]; rfl⟩
        case measure => simp [intOf]; omega
    · have hfin : s.data.toList.all valueB = true := by have := HA.out; rwa [take_all s k (by omega)] at this
      have HF := hide hfin
      have ht := trim_any s w hs
      clear hfin
      by_cases h4 : s.size ≤ 4096
      · go_wp2_with (go_at_call 95; refine ht.mono ?_; rintro e w' ⟨rfl, hB⟩)
        go_ret
        refine ⟨ret_bool ?_, hB⟩
        have hl := HL.out
        simp only [goodValueL, HF.out, Bool.true_and]
        rw [← hl, decide_eq_true h4, Bool.true_and, ByteArray.toList_eq]
      · go_wp2
        go_ret
        refine ⟨ret_bool ?_, Below.refl _ _⟩
        have hl := HL.out
        simp only [goodValueL, HF.out, Bool.true_and]
        rw [← hl, decide_eq_false h4]; rfl

set_option maxRecDepth 100000 in
set_option maxHeartbeats 800000 in
theorem refvalue_any (s : ByteArray) (w : World) (hs : s.size ≤ 9223372036854775807) :
    Calls Tryz.prog 55 #[.string s] w fun e w' => e = .returned (.bool (goodValueL s.data.toList)) ∧ w = w' := by
  have HL := hide (size_of s)
  have hp := plain_any s w hs
  rcases hv : s.data.toList.all valueB with _ | _
  · rw [plainL_of hv] at hp
    have HV := hide hv
    clear hv
    go_enter Tryz.func55, Tryz.ntmps55
    go_wp2_with (go_at_call 74; refine hp.mono ?_; rintro e w' ⟨rfl, rfl⟩)
    go_ret
    exact ⟨ret_bool (by rw [goodValueL, HV.out]; rfl), rfl⟩
  · rw [plainL_of hv] at hp
    have HV := hide hv
    clear hv
    by_cases h4 : s.size ≤ 4096
    · have ht := reftrim_any s w (by omega)
      go_enter Tryz.func55, Tryz.ntmps55
      go_wp2_with (first | (go_at_call 74; refine hp.mono ?_; rintro e w' ⟨rfl, rfl⟩) | (go_at_call 85; refine ht.mono ?_; rintro e w' ⟨rfl, rfl⟩))
      go_ret
      refine ⟨ret_bool ?_, rfl⟩
      have hl := HL.out
      simp only [goodValueL, HV.out, Bool.true_and]
      rw [← hl, decide_eq_true h4, Bool.true_and, ByteArray.toList_eq]
    · go_enter Tryz.func55, Tryz.ntmps55
      go_wp2_with (go_at_call 74; refine hp.mono ?_; rintro e w' ⟨rfl, rfl⟩)
      go_ret
      refine ⟨ret_bool ?_, rfl⟩
      have hl := HL.out
      simp only [goodValueL, HV.out, Bool.true_and]
      rw [← hl, decide_eq_false h4]; rfl
end Go.Proofs.YtfifoimnebbflaaGreatDoor
