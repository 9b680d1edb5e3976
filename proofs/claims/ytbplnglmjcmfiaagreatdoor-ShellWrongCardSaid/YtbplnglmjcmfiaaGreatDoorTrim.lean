/- field.Lower, concertinaref16.Lower, field.Same: texts with small letters. -/
import Derived.Test.YtbplnglmjcmfiaaGreatDoorProg
import Derived.Test.YtbplnglmjcmfiaaGreatDoorOwn
import Derived.Test.YtbplnglmjcmfiaaGreatDoorShelf
namespace Go.Proofs.YtbplnglmjcmfiaaGreatDoor
open Go.RowKit

/-- A letter that is small. -/
def lowB (c : UInt8) : UInt8 := if 65 ≤ c.toNat ∧ c.toNat ≤ 90 then c + 32 else c
def lowL (l : List UInt8) : List UInt8 := l.map lowB
theorem lowL_length (l : List UInt8) : (lowL l).length = l.length := by simp [lowL]
theorem lowB_hit (c : UInt8) (h : 65 ≤ c.toNat ∧ c.toNat ≤ 90) : ((lowB c).toNat : Int) = c.toNat + 32 := by
  unfold lowB; rw [if_pos h, UInt8.toNat_add]; have : (32 : UInt8).toNat = 32 := rfl; omega
theorem lowB_miss (c : UInt8) (h : ¬ (65 ≤ c.toNat ∧ c.toNat ≤ 90)) : lowB c = c := by unfold lowB; rw [if_neg h]

set_option maxHeartbeats 400000 in
theorem small_any (c : UInt8) (w : World) :
    Calls Tryz.prog 226 #[.int .u8 c.toNat] w fun e w' => e = .returned (.int .u8 (lowB c).toNat) ∧ w = w' := by
  have hc : c.toNat < 256 := c.toNat_lt
  by_cases h1 : 65 ≤ c.toNat
  · by_cases h2 : c.toNat ≤ 90
    · have h := lowB_hit c ⟨h1, h2⟩
      have H := hide h
      clear h
      go_enter Tryz.func226, Tryz.ntmps226
      go_wp2
      go_ret
      exact ⟨ret_int (by rw [H.out]; omega), rfl⟩
    · have h := lowB_miss c (by omega)
      have H := hide h
      clear h
      go_enter Tryz.func226, Tryz.ntmps226
      go_wp2
      go_ret
      exact ⟨ret_int (by rw [H.out]), rfl⟩
  · have h := lowB_miss c (by omega)
    have H := hide h
    clear h
    go_enter Tryz.func226, Tryz.ntmps226
    go_wp2
    go_ret
    exact ⟨ret_int (by rw [H.out]), rfl⟩
theorem lowL_step (l : List UInt8) (k : Nat) (h : k < l.length) : (lowL (l.take k) ++ l.drop k).set k (lowB l[k]) = lowL (l.take (k + 1)) ++ l.drop (k + 1) := by
  have hk : (lowL (l.take k)).length = k := by rw [lowL_length, List.length_take]; omega
  have h1 : l.drop k = l[k] :: l.drop (k + 1) := List.drop_eq_getElem_cons h
  have h2 : lowL (l.take (k + 1)) = lowL (l.take k) ++ [lowB l[k]] := by rw [list_take_snoc l k h]; simp only [lowL, List.map_append, List.map_cons, List.map_nil]
  rw [List.set_append_right _ _ (by omega), hk, Nat.sub_self, h1, h2, List.set_cons_zero, List.append_assoc]
  rfl
theorem bcells_set (l : List UInt8) (k : Nat) (c : UInt8) : (bcells l).set k (.int .u8 c.toNat) = bcells (l.set k c) := by simp [bcells, List.map_set]

set_option maxHeartbeats 800000 in
theorem lower_any (s : ByteArray) (w : World) (hs : s.size ≤ 140737488355328) :
    Calls Tryz.prog 156 #[.string s] w fun e w' => e = .returned (.string ⟨(lowL s.data.toList).toArray⟩) ∧ Below w.heap.size w w' := by
  have hcv := fun w => run_bytes_of_string (P := Tryz.prog) w 9 22 5 s Tryz.underlying9 Tryz.underlying22 Tryz.underlying5
  obtain ⟨c, hc⟩ : ∃ c, c = grownCap w s.size 0 5 := ⟨_, rfl⟩
  have hc1 : s.size ≤ c := by rw [hc]; exact grownCap_ge _ _ _ _
  have hc2 : c ≤ maxLen := by rw [hc]; exact grownCap_le_maxLen _ _ _ _ (by simp [maxLen]; omega)
  have hcv1 := hcv w
  rw [← hc] at hcv1
  have ho := ow_of_string w 5 s c hc1 hc2
  clear hcv hc
  have HL := hide (size_of s)
  go_enter Tryz.func156, Tryz.ntmps156
  go_wp2_with fail
  go_loopw [10] (fun i wr => ∃ k : Nat, k ≤ s.size ∧ i = .int .i64 k ∧ Ow wr w.heap.size 1 (.slice (some ⟨w.heap.size, 0, none⟩) s.size c) s.size (bcells (lowL (s.data.toList.take k) ++ s.data.toList.drop k)) ∧ Below w.heap.size w wr) (fun i _ => s.size - (intOf i).toNat)
  case atStart => exact ⟨0, Nat.zero_le _, rfl, ho, (Below.refl _ _).drew.alloc (Nat.le_refl _) _⟩
  case round =>
    clear ho hcv1
    obtain ⟨k, hk, rfl, ho, hb⟩ := hrel
    by_cases hlt : k < s.size
    · obtain ⟨g, off, hA, -, hg2, hcell, hfr⟩ := ho.at_ (j := k) (by omega)
      cases hA
      have hl := HL.out
      have hkl : k < s.data.toList.length := by omega
      have hkk : (lowL (s.data.toList.take k)).length = k := by rw [lowL_length, List.length_take]; omega
      have hget : (bcells (lowL (s.data.toList.take k) ++ s.data.toList.drop k))[k]? = some (.int .u8 s.data.toList[k].toNat) := by
        rw [bcells_get _ k (by rw [List.length_append, hkk, List.length_drop]; omega)]
        simp [hkk]
      rw [hget] at hcell
      have hst := ho.store (j := k) (by omega) (.int .u8 (lowB s.data.toList[k]).toNat)
      rw [bcells_set, lowL_step _ k hkl] at hst
      obtain ⟨b, hbb⟩ : ∃ b, b = s.data.toList[k] := ⟨_, rfl⟩
      rw [← hbb] at hcell hst
      simp only [Nat.zero_add] at hcell hfr hst
      clear hbb hget hl hkl hkk ho
      go_wp2_with (go_at_call 226; refine (small_any b _).mono ?_; rintro e w' ⟨rfl, rfl⟩)
      go_roundw
      case rel => exact ⟨k + 1, by omega, by go_num, hst, hb.setCell (Nat.le_refl _) _⟩
      case measure => simp [intOf]; omega
    · have hrs := run_string_of (P := Tryz.prog) 22 9 5 Tryz.underlying22 Tryz.underlying5 Tryz.underlying9 wr _ s.size c _ _ ho.rd
      have hfin : lowL (s.data.toList.take k) ++ s.data.toList.drop k = lowL s.data.toList := by
        have hl := HL.out
        rw [List.take_of_length_le (by omega), List.drop_eq_nil_of_le (by omega), List.append_nil]
      rw [hfin] at hrs
      clear hfin ho
      go_wp2_with fail
      go_ret
      exact ⟨rfl, hb⟩
theorem infoU8 : (Tryz.prog.info? 5).map (fun i => (i.zero, i.size, i.bytes)) = some (some (.int .u8 0), 1, 1) := by kernel_rfl
theorem own_snoc_byte {w : World} {base e n : Nat} {v : Value} {l : List UInt8} {x : Int} {b : UInt8} (h : w.ownsRow base e 1 v (n + 1) (bcells l ++ (#[Value.int .u8 x]).toList)) (hx : x = b.toNat) : w.ownsRow base e 1 v (n + 1) (bcells (l ++ [b])) := by
  subst hx; simpa [bcells] using h

/-- Without regard to case. -/
def sameL (a b : List UInt8) : Bool := lowL a == lowL b
set_option maxHeartbeats 400000 in
theorem fieldsame_any (a b : ByteArray) (w : World) (ha : a.size ≤ 140737488355328) (hb : b.size ≤ 140737488355328) :
    Calls Tryz.prog 158 #[.string a, .string b] w fun e w' => e = .returned (.bool (sameL a.data.toList b.data.toList)) ∧ Below w.heap.size w w' := by
  go_enter Tryz.func158, Tryz.ntmps158
  go_wp2_with fail
  refine (lower_any a _ ha).mono ?_
  rintro e w1 ⟨rfl, hb1⟩
  go_wp2_with fail
  refine (lower_any b _ hb).mono ?_
  rintro e w2 ⟨rfl, hb2⟩
  go_wp2
  go_ret
  exact ⟨ret_bool (by simp [sameL]), hb1.trans (hb2.mono hb1.size)⟩
end Go.Proofs.YtbplnglmjcmfiaaGreatDoor

/- Which bytes, names and values are good: field's and the reference's. -/
namespace Go.Proofs.YtbplnglmjcmfiaaGreatDoor
open Go.RowKit

def marksL : List UInt8 := [33, 35, 36, 37, 38, 39, 42, 43, 45, 46, 94, 95, 96, 124, 126]
/-- May a byte be in a name? -/
def nameB (c : UInt8) : Bool := decide (48 ≤ c.toNat ∧ c.toNat ≤ 57) || decide (97 ≤ c.toNat ∧ c.toNat ≤ 122) || decide (65 ≤ c.toNat ∧ c.toNat ≤ 90) || marksL.contains c
def goodNameL (l : List UInt8) : Bool := l.all nameB && decide (1 ≤ l.length) && decide (l.length ≤ 256)
/-- May a byte be in a value? -/
def valueB (c : UInt8) : Bool := decide (c.toNat = 9) || (decide (32 ≤ c.toNat) && decide (c.toNat ≠ 127))

theorem index_nonneg (l : List UInt8) (c : UInt8) : (0 : Int) ≤ Lib.indexByte l c ↔ l.contains c = true := by
  induction l with
  | nil => simp [Lib.indexByte]
  | cons b l ih =>
    simp only [Lib.indexByte, List.contains_cons]
    by_cases h : b = c
    · subst h; simp
    · have h1 : (b == c) = false := by simpa using h
      have h2 : (c == b) = false := by simpa using fun e => h e.symm
      rw [h1, h2]
      by_cases h3 : Lib.indexByte l c = -1
      · simp only [h3] at ih ⊢; simp at ih ⊢; exact ih
      · have h4 : (Lib.indexByte l c == -1) = false := by simpa using h3
        rw [h4]
        have h5 : (-1 : Int) ≤ Lib.indexByte l c := by
          clear ih h3 h4
          induction l with
          | nil => simp [Lib.indexByte]
          | cons x l ih2 => simp only [Lib.indexByte]; split; omega; split <;> omega
        simp only [Bool.false_or, Bool.false_eq_true, if_false]
        rw [← ih]; omega
theorem toUInt8_back (c : UInt8) : ((c.toNat : Int)).toNat.toUInt8 = c := by simp

set_option maxRecDepth 100000 in
set_option maxHeartbeats 800000 in
theorem nameByte_any (c : UInt8) (w : World) :
    Calls Tryz.prog 227 #[.int .u8 c.toNat] w fun e w' => e = .returned (.bool (nameB c)) ∧ w = w' := by
  have hc : c.toNat < 256 := c.toNat_lt
  have hsm := small_any c
  by_cases h1 : 48 ≤ c.toNat ∧ c.toNat ≤ 57
  · have hr : nameB c = true := by simp [nameB, h1]
    have HR := hide hr
    obtain ⟨h1, h2⟩ := h1
    clear hr
    go_enter Tryz.func227, Tryz.ntmps227
    go_wp2_with (go_at_call 226; refine (hsm _).mono ?_; rintro e w' ⟨rfl, rfl⟩)
    go_ret
    exact ⟨ret_bool HR.out.symm, rfl⟩
  · by_cases h2 : 97 ≤ c.toNat ∧ c.toNat ≤ 122
    · have hr : nameB c = true := by simp [nameB, h2]
      have HR := hide hr
      have hl := lowB_miss c (by omega)
      rw [hl] at hsm
      obtain ⟨h2, h3⟩ := h2
      clear hr hl h1
      go_enter Tryz.func227, Tryz.ntmps227
      go_wp2_with (go_at_call 226; refine (hsm _).mono ?_; rintro e w' ⟨rfl, rfl⟩)
      go_ret
      exact ⟨ret_bool HR.out.symm, rfl⟩
    · by_cases h3 : 65 ≤ c.toNat ∧ c.toNat ≤ 90
      · have hr : nameB c = true := by simp [nameB, h3]
        have HR := hide hr
        have hl := lowB_hit c h3
        obtain ⟨d, hd⟩ : ∃ d, d = lowB c := ⟨_, rfl⟩
        rw [← hd] at hsm hl
        have hl1 : (97 : Int) ≤ (d.toNat : Int) := by omega
        have hl2 : (d.toNat : Int) ≤ 122 := by omega
        obtain ⟨h3, h4⟩ := h3
        clear hr hl h1 h2 hd
        go_enter Tryz.func227, Tryz.ntmps227
        go_wp2_with (go_at_call 226; refine (hsm _).mono ?_; rintro e w' ⟨rfl, rfl⟩)
        all_goals go_ret
        all_goals exact ⟨ret_bool HR.out.symm, rfl⟩
      · have hl := lowB_miss c (by omega)
        rw [hl] at hsm
        have hr : nameB c = marksL.contains c := by simp [nameB, h1, h2, h3]
        have hix := fun w => Tryz.strings_IndexByte ⟨#[33, 35, 36, 37, 38, 39, 42, 43, 45, 46, 94, 95, 96, 124, 126]⟩ c.toNat w
        rw [toUInt8_back] at hix
        have hin := index_nonneg marksL c
        obtain ⟨ix, hixe⟩ : ∃ ix, ix = Lib.indexByte marksL c := ⟨_, rfl⟩
        have hix' : ∀ w, Calls Tryz.prog 266 #[.string ⟨#[33, 35, 36, 37, 38, 39, 42, 43, 45, 46, 94, 95, 96, 124, 126]⟩, .int .u8 c.toNat] w fun e w' => e = .returned (.int .i64 ix) ∧ w' = w := by rw [hixe]; exact hix
        rw [← hixe] at hin
        have h0 : c.toNat = 0 → marksL.contains c = false := fun h => by
          have : c = 0 := UInt8.toNat_inj.1 (by simpa using h)
          subst this; decide
        have hn : (48 : Int) ≤ (c.toNat : Int) → (57 : Int) < (c.toNat : Int) := by omega
        have hn2 : (97 : Int) ≤ (c.toNat : Int) → (122 : Int) < (c.toNat : Int) := by omega
        have HIN := hide hin
        have HR := hide hr
        have H0 := hide h0
        have H1 := hide h1
        have H2 := hide h2
        have HN := hide hn
        have HN2 := hide hn2
        have HIX := hide hix'
        have HS := hide hsm
        clear hin hr hix hixe h0 h1 h2 h3 hl hn hn2 hix' hsm
        by_cases hz : c.toNat = 0
        · obtain rfl : c = 0 := UInt8.toNat_inj.1 (by simpa using hz)
          clear hz
          go_enter Tryz.func227, Tryz.ntmps227
          go_wp2_with (go_at_call 226; refine (HS.out _).mono ?_; rintro e w' ⟨rfl, rfl⟩)
          go_ret
          exact ⟨ret_bool (by rw [HR.out]; decide), rfl⟩
        · have hz' : ((c.toNat : Int) != 0) = true := by simp; omega
          have HZ := hide hz
          clear hz
          rcases Nat.lt_or_ge c.toNat 48 with hA | hA
          · by_cases hpos : 0 ≤ ix
            all_goals
              go_enter Tryz.func227, Tryz.ntmps227
              go_wp2_with (first | (go_at_call 226; refine (HS.out _).mono ?_; rintro e w' ⟨rfl, rfl⟩) | (go_at_call 266; refine (HIX.out _).mono ?_; rintro e w' ⟨rfl, rfl⟩))
              go_ret
              exact ⟨ret_bool (by rw [HR.out, Bool.eq_iff_iff, ← HIN.out]; simp [hpos] <;> omega), rfl⟩
          · have hB : (57 : Int) < (c.toNat : Int) := HN.out (by omega)
            rcases Nat.lt_or_ge c.toNat 97 with hC | hC
            · by_cases hpos : 0 ≤ ix
              all_goals
                go_enter Tryz.func227, Tryz.ntmps227
                go_wp2_with (first | (go_at_call 226; refine (HS.out _).mono ?_; rintro e w' ⟨rfl, rfl⟩) | (go_at_call 266; refine (HIX.out _).mono ?_; rintro e w' ⟨rfl, rfl⟩))
                go_ret
                exact ⟨ret_bool (by rw [HR.out, Bool.eq_iff_iff, ← HIN.out]; simp [hpos] <;> omega), rfl⟩
            · have hD : (122 : Int) < (c.toNat : Int) := HN2.out (by omega)
              by_cases hpos : 0 ≤ ix
              all_goals
                go_enter Tryz.func227, Tryz.ntmps227
                go_wp2_with (first | (go_at_call 226; refine (HS.out _).mono ?_; rintro e w' ⟨rfl, rfl⟩) | (go_at_call 266; refine (HIX.out _).mono ?_; rintro e w' ⟨rfl, rfl⟩))
                go_ret
                exact ⟨ret_bool (by rw [HR.out, Bool.eq_iff_iff, ← HIN.out]; simp [hpos] <;> omega), rfl⟩

theorem all_take_snoc {p : UInt8 → Bool} (s : ByteArray) (k : Nat) (h : k < s.size) : (s.data.toList.take (k + 1)).all p = ((s.data.toList.take k).all p && p s[k]) := by rw [take_snoc s k h, List.all_append]; simp
theorem all_false {p : UInt8 → Bool} (s : ByteArray) (k : Nat) (h : k < s.size) (hp : p s[k] = false) : s.data.toList.all p = false := by
  rw [← List.take_append_drop (k + 1) s.data.toList, List.all_append, all_take_snoc s k h, hp]; simp

set_option maxRecDepth 100000 in
set_option maxHeartbeats 800000 in
theorem goodName_any (s : ByteArray) (w : World) (hs : s.size ≤ 140737488355328) :
    Calls Tryz.prog 157 #[.string s] w fun e w' => e = .returned (.bool (goodNameL s.data.toList)) ∧ w = w' := by
  have HL := hide (size_of s)
  go_enter Tryz.func157, Tryz.ntmps157
  go_wp2_with fail
  go_loop [6] (fun i => ∃ k : Nat, k ≤ s.size ∧ i = .int .i64 k ∧ (s.data.toList.take k).all nameB = true) (fun i => s.size - (intOf i).toNat)
  case atStart => exact ⟨0, Nat.zero_le _, rfl, rfl⟩
  case round =>
    obtain ⟨k, hk, rfl, ha⟩ := hrel
    have HA := hide ha
    clear ha
    by_cases hlt : k < s.size
    · have hn := nameByte_any s[k] w
      have hts := all_take_snoc (p := nameB) s k hlt
      rcases hb : nameB s[k] with _ | _
      · rw [hb] at hn
        have hfa := all_false (p := nameB) s k hlt hb
        have HF := hide hfa
        clear hb hts hfa
        go_wp2_with (go_at_call 227; refine hn.mono ?_; rintro e w' ⟨rfl, rfl⟩)
        go_ret
        exact ⟨ret_bool (by rw [goodNameL, HF.out]; rfl), rfl⟩
      · rw [hb] at hn
        have HB := hide hb
        have HT := hide hts
        clear hb hts
        go_wp2_with (go_at_call 227; refine hn.mono ?_; rintro e w' ⟨rfl, rfl⟩)
        go_round
        case rel => exact ⟨k + 1, by omega, by go_num, by rw [HT.out, HA.out, HB.out]; rfl⟩
        case measure => simp [intOf]; omega
    · have hfin : s.data.toList.all nameB = true := by have := HA.out; rwa [take_all s k (by omega)] at this
      have HF := hide hfin
      clear hfin
      go_wp2
      all_goals go_ret
      all_goals
        refine ⟨ret_bool ?_, rfl⟩
        have hl := HL.out
        simp only [goodNameL, HF.out, Bool.true_and]
        rw [← hl, Bool.eq_iff_iff]
        simp
        omega
end Go.Proofs.YtbplnglmjcmfiaaGreatDoor

/- field.Trim and the reference's: without blanks at both ends. -/
namespace Go.Proofs.YtbplnglmjcmfiaaGreatDoor
open Go.RowKit

/-- A blank? -/
def blankB (c : UInt8) : Bool := [32, 9].contains c
def trimL (l : List UInt8) : List UInt8 := Lib.trimS l [32, 9]
theorem blank_cases (b : UInt8) (h : blankB b = true) : b.toNat = 32 ∨ (¬ b.toNat = 32 ∧ b.toNat = 9) := by
  simp [blankB] at h
  rcases h with rfl | rfl <;> decide
theorem blank_not (b : UInt8) (h : ¬ blankB b = true) : ¬ b.toNat = 32 ∧ ¬ b.toNat = 9 := by
  constructor
  · intro e; obtain rfl : b = 32 := UInt8.toNat_inj.1 (by simpa using e); exact h (by decide)
  · intro e; obtain rfl : b = 9 := UInt8.toNat_inj.1 (by simpa using e); exact h (by decide)
theorem dropWhile_all {p : UInt8 → Bool} : ∀ (l r : List UInt8), l.all p = true → (l ++ r).dropWhile p = r.dropWhile p
  | [], r, _ => rfl
  | a :: l, r, h => by
    simp only [List.all_cons, Bool.and_eq_true] at h
    rw [List.cons_append, List.dropWhile_cons, if_pos h.1]
    exact dropWhile_all l r h.2
theorem dropWhile_head {p : UInt8 → Bool} (m : List UInt8) (h : m = [] ∨ ∃ a, m.head? = some a ∧ p a = false) : m.dropWhile p = m := by
  rcases h with rfl | ⟨a, ha, hp⟩
  · rfl
  · cases m with
    | nil => rfl
    | cons x m => simp at ha; subst ha; rw [List.dropWhile_cons, if_neg (by simp [hp])]
/-- Blanks, what is in the midst, blanks. -/
theorem trim_mid (pre m suf : List UInt8) (hp : pre.all blankB = true) (hs : suf.all blankB = true) (h1 : m = [] ∨ ∃ a, m.head? = some a ∧ blankB a = false) (h2 : m = [] ∨ ∃ a, m.getLast? = some a ∧ blankB a = false) :
    trimL (pre ++ m ++ suf) = m := by
  have hr : ∀ l : List UInt8, l.all blankB = true → l.reverse.all blankB = true := fun l h => by rw [List.all_reverse]; exact h
  have e1 : Lib.trimRightS (pre ++ m ++ suf) [32, 9] = if m = [] then [] else pre ++ m := by
    show ((pre ++ m ++ suf).reverse.dropWhile blankB).reverse = _
    rw [List.reverse_append, dropWhile_all _ _ (hr _ hs)]
    by_cases hm : m = []
    · subst hm
      have := dropWhile_all (p := blankB) pre.reverse [] (hr _ hp)
      simp only [List.append_nil] at this ⊢
      rw [this]; simp
    · rw [if_neg hm, dropWhile_head]
      · simp
      · right
        obtain ⟨a, ha, hb⟩ := h2.resolve_left hm
        refine ⟨a, ?_, hb⟩
        rw [List.head?_reverse, List.getLast?_append, ha]; rfl
  show Lib.trimLeftS (Lib.trimRightS (pre ++ m ++ suf) [32, 9]) [32, 9] = m
  rw [e1]
  by_cases hm : m = []
  · subst hm; rfl
  · rw [if_neg hm]
    show (pre ++ m).dropWhile blankB = m
    rw [dropWhile_all _ _ hp, dropWhile_head _ h1]

theorem nil_of_size {u : ByteArray} (h : u.size = 0) : u.data.toList = [] := List.eq_nil_of_length_eq_zero (by rw [← size_of]; exact h)
theorem head_get (u : ByteArray) (h : 0 < u.size) : u.data.toList.head? = some u[0] := by
  rw [List.head?_eq_getElem?, get_toList u 0 h]
theorem last_get (u : ByteArray) (h : 0 < u.size) : u.data.toList.getLast? = some u[u.size - 1] := by
  rw [List.getLast?_eq_getElem?, ← size_of, get_toList u (u.size - 1) (by omega)]
theorem trim_end {l pre t u suf : List UInt8} (hl : l = pre ++ t ∧ pre.all blankB = true) (hu : t = u ++ suf) (hs : suf.all blankB = true) (ht : t = [] ∨ ∃ a, t.head? = some a ∧ blankB a = false) (h : u = [] ∨ ∃ b, u.getLast? = some b ∧ blankB b = false) : trimL l = u := by
  obtain ⟨rfl, hp⟩ := hl
  subst hu
  rw [← List.append_assoc]
  refine trim_mid pre u suf hp hs ?_ h
  rcases h with h | ⟨b, hb, _⟩
  · exact .inl h
  · right
    have hne : u ≠ [] := by rintro rfl; simp at hb
    rcases ht with h0 | ⟨a, ha, hb'⟩
    · exact absurd (List.append_eq_nil_iff.1 h0).1 hne
    · refine ⟨a, ?_, hb'⟩
      cases u with
      | nil => exact absurd rfl hne
      | cons x u => simpa using ha
theorem trim_snoc {t suf : List UInt8} {u : ByteArray} {b : UInt8} (hu : t = u.data.toList ++ suf) (hs : suf.all blankB = true) (hl : u.data.toList.getLast? = some b) (hb : blankB b = true) :
    t = (u.extract 0 (u.size - 1)).data.toList ++ (b :: suf) ∧ (b :: suf).all blankB = true := by
  refine ⟨?_, by simp [hb, hs]⟩
  have e : (u.extract 0 (u.size - 1)).data.toList = u.data.toList.dropLast := by
    rw [extract_list, List.drop_zero, List.dropLast_eq_take, size_of]
  have hne : u.data.toList ≠ [] := by intro h; rw [h] at hl; simp at hl
  have h2 := List.dropLast_concat_getLast hne
  rw [List.getLast?_eq_some_getLast hne] at hl
  rw [hu, e]
  conv => lhs; rw [← h2]
  simp only [Option.some.injEq] at hl
  rw [hl]; simp
theorem trim_front {l pre : List UInt8} {t : ByteArray} {b : UInt8} (hl : l = pre ++ t.data.toList ∧ pre.all blankB = true) (hp : 0 < t.size) (ht : t[0] = b) (hb : blankB b = true) :
    l = (pre ++ [b]) ++ (t.extract 1 t.size).data.toList ∧ (pre ++ [b]).all blankB = true := by
  refine ⟨?_, by rw [List.all_append, hl.2]; simp [hb]⟩
  rw [hl.1, extract_list, List.append_assoc, take_all t t.size (Nat.le_refl _)]
  have := drop_cons t 0 hp
  rw [List.drop_zero, ht] at this
  rw [this]; rfl
/-- For a measure: a string's length. -/
def strLen : Value → Nat | .string s => s.size | _ => 0

set_option maxRecDepth 100000 in
set_option maxHeartbeats 800000 in
theorem trim_any (s : ByteArray) (w : World) (hs : s.size ≤ 140737488355328) :
    Calls Tryz.prog 155 #[.string s] w fun e w' => e = .returned (.string ⟨(trimL s.data.toList).toArray⟩) ∧ Below w.heap.size w w' := by
  have hcon := Tryz.strings_Trim_ascii s ⟨#[32, 9]⟩ w (by omega) (by decide) (fun j b h => by
    have hb : b ∈ ([32, 9] : List UInt8) := List.mem_of_getElem? h
    simp at hb; rcases hb with rfl | rfl <;> decide)
  change Calls Tryz.prog 83 _ _ (fun e w' => e = .returned (.string ⟨(trimL s.data.toList).toArray⟩) ∧ Below w.heap.size w w') at hcon
  generalize (⟨(trimL s.data.toList).toArray⟩ : ByteArray) = r at hcon ⊢
  go_enter Tryz.func155, Tryz.ntmps155
  go_wp2_with (go_at_call 83; refine hcon.mono ?_; rintro e w' ⟨rfl, hB⟩)
  go_ret
  exact ⟨rfl, hB⟩

end Go.Proofs.YtbplnglmjcmfiaaGreatDoor

/- Good values, and the reference's names and values. -/
namespace Go.Proofs.YtbplnglmjcmfiaaGreatDoor
open Go.RowKit

def goodValueL (l : List UInt8) : Bool := l.all valueB && decide (l.length ≤ 4096) && (trimL l == l)

set_option maxRecDepth 100000 in
set_option maxHeartbeats 800000 in
theorem valueByte_any (c : UInt8) (w : World) :
    Calls Tryz.prog 230 #[.int .u8 c.toNat] w fun e w' => e = .returned (.bool (valueB c)) ∧ w = w' := by
  have hc : c.toNat < 256 := c.toNat_lt
  go_enter Tryz.func230, Tryz.ntmps230
  go_wp2
  all_goals go_ret
  all_goals
    refine ⟨ret_bool ?_, rfl⟩
    rw [Bool.eq_iff_iff]
    simp [valueB]
    omega

def plainL (l : List UInt8) : Bool := l.all valueB
theorem plainL_of {l : List UInt8} {b : Bool} (h : l.all valueB = b) : plainL l = b := h
set_option maxRecDepth 100000 in
set_option maxHeartbeats 800000 in
theorem goodValue_any (s : ByteArray) (w : World) (hs : s.size ≤ 140737488355328) :
    Calls Tryz.prog 166 #[.string s] w fun e w' => e = .returned (.bool (goodValueL s.data.toList)) ∧ Below w.heap.size w w' := by
  have HL := hide (size_of s)
  go_enter Tryz.func166, Tryz.ntmps166
  go_wp2_with fail
  go_loop [6] (fun i => ∃ k : Nat, k ≤ s.size ∧ i = .int .i64 k ∧ (s.data.toList.take k).all valueB = true) (fun i => s.size - (intOf i).toNat)
  case atStart => exact ⟨0, Nat.zero_le _, rfl, rfl⟩
  case round =>
    obtain ⟨k, hk, rfl, ha⟩ := hrel
    have HA := hide ha
    clear ha
    by_cases hlt : k < s.size
    · have hn := valueByte_any s[k] w
      have hts := all_take_snoc (p := valueB) s k hlt
      rcases hb : valueB s[k] with _ | _
      · rw [hb] at hn
        have hfa := all_false (p := valueB) s k hlt hb
        have HF := hide hfa
        clear hb hts hfa
        go_wp2_with (go_at_call 230; refine hn.mono ?_; rintro e w' ⟨rfl, rfl⟩)
        go_ret
        exact ⟨ret_bool (by rw [goodValueL, HF.out]; rfl), Below.refl _ _⟩
      · rw [hb] at hn
        have HB := hide hb
        have HT := hide hts
        clear hb hts
        go_wp2_with (go_at_call 230; refine hn.mono ?_; rintro e w' ⟨rfl, rfl⟩)
        go_round
        case rel => exact ⟨k + 1, by omega, by go_num, by rw [HT.out, HA.out, HB.out]; rfl⟩
        case measure => simp [intOf]; omega
    · have hfin : s.data.toList.all valueB = true := by have := HA.out; rwa [take_all s k (by omega)] at this
      have HF := hide hfin
      have ht := trim_any s w hs
      clear hfin
      by_cases h4 : s.size ≤ 4096
      · go_wp2_with (go_at_call 155; refine ht.mono ?_; rintro e w' ⟨rfl, hB⟩)
        go_ret
        refine ⟨ret_bool ?_, hB⟩
        have hl := HL.out
        simp only [goodValueL, HF.out, Bool.true_and]
        rw [← hl, decide_eq_true h4, Bool.true_and, ByteArray.toList_eq]
      · go_wp2
        go_ret
        refine ⟨ret_bool ?_, Below.refl _ _⟩
        have hl := HL.out
        simp only [goodValueL, HF.out, Bool.true_and]
        rw [← hl, decide_eq_false h4]; rfl

end Go.Proofs.YtbplnglmjcmfiaaGreatDoor
