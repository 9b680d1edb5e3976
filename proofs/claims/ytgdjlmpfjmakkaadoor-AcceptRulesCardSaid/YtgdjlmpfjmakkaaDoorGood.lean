/- Which bytes, names and values are good: field's and the reference's. -/
import Derived.Test.YtgdjlmpfjmakkaaDoorLower
import Derived.Test.YtgdjlmpfjmakkaaDoorShelf
namespace Go.Proofs.YtgdjlmpfjmakkaaDoor
open Go.RowKit

def marksL : List UInt8 := [33, 35, 36, 37, 38, 39, 42, 43, 45, 46, 94, 95, 96, 124, 126]
/-- May a byte be in a name? -/
def nameB (c : UInt8) : Bool := decide (48 ≤ c.toNat ∧ c.toNat ≤ 57) || decide (97 ≤ c.toNat ∧ c.toNat ≤ 122) || decide (65 ≤ c.toNat ∧ c.toNat ≤ 90) || marksL.contains c
def goodNameL (l : List UInt8) : Bool := l.all nameB && decide (1 ≤ l.length) && decide (l.length ≤ 256)
/-- May a byte be in a value? -/
def valueB (c : UInt8) : Bool := decide (c.toNat = 9) || (decide (32 ≤ c.toNat) && decide (c.toNat ≠ 127))

theorem index_nonneg (l : List UInt8) (c : UInt8) : (0 : Int) ≤ Lib.indexByte l c ↔ l.contains c = true := by
  induction l with
  | nil => simp [Lib.indexByte]
  | cons b l ih =>
    simp only [Lib.indexByte, List.contains_cons]
    by_cases h : b = c
    · subst h; simp
    · have h1 : (b == c) = false := by simpa using h
      have h2 : (c == b) = false := by simpa using fun e => h e.symm
      rw [h1, h2]
      by_cases h3 : Lib.indexByte l c = -1
      · simp only [h3] at ih ⊢; simp at ih ⊢; exact ih
      · have h4 : (Lib.indexByte l c == -1) = false := by simpa using h3
        rw [h4]
        have h5 : (-1 : Int) ≤ Lib.indexByte l c := by
          clear ih h3 h4
          induction l with
          | nil => simp [Lib.indexByte]
          | cons x l ih2 => simp only [Lib.indexByte]; split; omega; split <;> omega
        simp only [Bool.false_or, Bool.false_eq_true, if_false]
        rw [← ih]; omega
theorem toUInt8_back (c : UInt8) : ((c.toNat : Int)).toNat.toUInt8 = c := by simp

set_option maxRecDepth 100000 in
set_option maxHeartbeats 800000 in
theorem nameByte_any (c : UInt8) (w : World) :
    Calls Tryd.prog 122 #[.int .u8 c.toNat] w fun e w' => e = .returned (.bool (nameB c)) ∧ w = w' := by
  have hc : c.toNat < 256 := c.toNat_lt
  have hsm := small_any c
  by_cases h1 : 48 ≤ c.toNat ∧ c.toNat ≤ 57
  · have hr : nameB c = true := by simp [nameB, h1]
    have HR := hide hr
    obtain ⟨h1, h2⟩ := h1
    clear hr
    go_enter Tryd.func122, Tryd.ntmps122
    go_wp2_with (go_at_call 96; refine (hsm _).mono ?_; rintro e w' ⟨rfl, rfl⟩)
    go_ret
    exact ⟨ret_bool HR.out.symm, rfl⟩
  · by_cases h2 : 97 ≤ c.toNat ∧ c.toNat ≤ 122
    · have hr : nameB c = true := by simp [nameB, h2]
      have HR := hide hr
      have hl := lowB_miss c (by omega)
      rw [hl] at hsm
      obtain ⟨h2, h3⟩ := h2
      clear hr hl h1
      go_enter Tryd.func122, Tryd.ntmps122
      go_wp2_with (go_at_call 96; refine (hsm _).mono ?_; rintro e w' ⟨rfl, rfl⟩)
      go_ret
      exact ⟨ret_bool HR.out.symm, rfl⟩
    · by_cases h3 : 65 ≤ c.toNat ∧ c.toNat ≤ 90
      · have hr : nameB c = true := by simp [nameB, h3]
        have HR := hide hr
        have hl := lowB_hit c h3
        obtain ⟨d, hd⟩ : ∃ d, d = lowB c := ⟨_, rfl⟩
        rw [← hd] at hsm hl
        have hl1 : (97 : Int) ≤ (d.toNat : Int) := by omega
        have hl2 : (d.toNat : Int) ≤ 122 := by omega
        obtain ⟨h3, h4⟩ := h3
        clear hr hl h1 h2 hd
        go_enter Tryd.func122, Tryd.ntmps122
        go_wp2_with (go_at_call 96; refine (hsm _).mono ?_; rintro e w' ⟨rfl, rfl⟩)
        all_goals go_ret
        all_goals exact ⟨ret_bool HR.out.symm, rfl⟩
      · have hl := lowB_miss c (by omega)
        rw [hl] at hsm
        have hr : nameB c = marksL.contains c := by simp [nameB, h1, h2, h3]
        have hix := fun w => Tryd.strings_IndexByte ⟨#[33, 35, 36, 37, 38, 39, 42, 43, 45, 46, 94, 95, 96, 124, 126]⟩ c.toNat w
        rw [toUInt8_back] at hix
        have hin := index_nonneg marksL c
        obtain ⟨ix, hixe⟩ : ∃ ix, ix = Lib.indexByte marksL c := ⟨_, rfl⟩
        have hix' : ∀ w, Calls Tryd.prog 139 #[.string ⟨#[33, 35, 36, 37, 38, 39, 42, 43, 45, 46, 94, 95, 96, 124, 126]⟩, .int .u8 c.toNat] w fun e w' => e = .returned (.int .i64 ix) ∧ w' = w := by rw [hixe]; exact hix
        rw [← hixe] at hin
        have h0 : c.toNat = 0 → marksL.contains c = false := fun h => by
          have : c = 0 := UInt8.toNat_inj.1 (by simpa using h)
          subst this; decide
        have hn : (48 : Int) ≤ (c.toNat : Int) → (57 : Int) < (c.toNat : Int) := by omega
        have hn2 : (97 : Int) ≤ (c.toNat : Int) → (122 : Int) < (c.toNat : Int) := by omega
        have HIN := hide hin
        have HR := hide hr
        have H0 := hide h0
        have H1 := hide h1
        have H2 := hide h2
        have HN := hide hn
        have HN2 := hide hn2
        have HIX := hide hix'
        have HS := hide hsm
        clear hin hr hix hixe h0 h1 h2 h3 hl hn hn2 hix' hsm
        by_cases hz : c.toNat = 0
        · obtain rfl : c = 0 := UInt8.toNat_inj.1 (by simpa using hz)
          clear hz
          go_enter Tryd.func122, Tryd.ntmps122
          go_wp2_with (go_at_call 96; refine (HS.out _).mono ?_; rintro e w' ⟨rfl, rfl⟩)
          go_ret
          exact ⟨ret_bool (by rw [HR.out]; decide), rfl⟩
        · have hz' : ((c.toNat : Int) != 0) = true := by simp; omega
          have HZ := hide hz
          clear hz
          rcases Nat.lt_or_ge c.toNat 48 with hA | hA
          · by_cases hpos : 0 ≤ ix
            all_goals
              go_enter Tryd.func122, Tryd.ntmps122
              go_wp2_with (first | (go_at_call 96; refine (HS.out _).mono ?_; rintro e w' ⟨rfl, rfl⟩) | (go_at_call 139; refine (HIX.out _).mono ?_; rintro e w' ⟨rfl, rfl⟩))
              go_ret
              exact ⟨ret_bool (by rw [HR.out, Bool.eq_iff_iff, ← HIN.out]; simp [hpos] <;> omega), rfl⟩
          · have hB : (57 : Int) < (c.toNat : Int) := HN.out (by omega)
            rcases Nat.lt_or_ge c.toNat 97 with hC | hC
            · by_cases hpos : 0 ≤ ix
              all_goals
                go_enter Tryd.func122, Tryd.ntmps122
                go_wp2_with (first | (go_at_call 96; refine (HS.out _).mono ?_; rintro e w' ⟨rfl, rfl⟩) | (go_at_call 139; refine (HIX.out _).mono ?_; rintro e w' ⟨rfl, rfl⟩))
                go_ret
                exact ⟨ret_bool (by rw [HR.out, Bool.eq_iff_iff, ← HIN.out]; simp [hpos] <;> omega), rfl⟩
            · have hD : (122 : Int) < (c.toNat : Int) := HN2.out (by omega)
              by_cases hpos : 0 ≤ ix
              all_goals
                go_enter Tryd.func122, Tryd.ntmps122
                go_wp2_with (first | (go_at_call 96; refine (HS.out _).mono ?_; rintro e w' ⟨rfl, rfl⟩) | (go_at_call 139; refine (HIX.out _).mono ?_; rintro e w' ⟨rfl, rfl⟩))
                go_ret
                exact ⟨ret_bool (by rw [HR.out, Bool.eq_iff_iff, ← HIN.out]; simp [hpos] <;> omega), rfl⟩

theorem all_take_snoc {p : UInt8 → Bool} (s : ByteArray) (k : Nat) (h : k < s.size) : (s.data.toList.take (k + 1)).all p = ((s.data.toList.take k).all p && p s[k]) := by rw [take_snoc s k h, List.all_append]; simp
theorem all_false {p : UInt8 → Bool} (s : ByteArray) (k : Nat) (h : k < s.size) (hp : p s[k] = false) : s.data.toList.all p = false := by
  rw [← List.take_append_drop (k + 1) s.data.toList, List.all_append, all_take_snoc s k h, hp]; simp

set_option maxRecDepth 100000 in
set_option maxHeartbeats 800000 in
theorem goodName_any (s : ByteArray) (w : World) (hs : s.size ≤ 140737488355328) :
    Calls Tryd.prog 110 #[.string s] w fun e w' => e = .returned (.bool (goodNameL s.data.toList)) ∧ w = w' := by
  have HL := hide (size_of s)
  go_enter Tryd.func110, Tryd.ntmps110
  go_wp2_with fail
  go_loop [6] (fun i => ∃ k : Nat, k ≤ s.size ∧ i = .int .i64 k ∧ (s.data.toList.take k).all nameB = true) (fun i => s.size - (intOf i).toNat)
  case atStart => exact ⟨0, Nat.zero_le _, rfl, rfl⟩
  case round =>
    obtain ⟨k, hk, rfl, ha⟩ := hrel
    have HA := hide ha
    clear ha
    by_cases hlt : k < s.size
    · have hn := nameByte_any s[k] w
      have hts := all_take_snoc (p := nameB) s k hlt
      rcases hb : nameB s[k] with _ | _
      · rw [hb] at hn
        have hfa := all_false (p := nameB) s k hlt hb
        have HF := hide hfa
        clear hb hts hfa
        go_wp2_with (go_at_call 122; refine hn.mono ?_; rintro e w' ⟨rfl, rfl⟩)
        go_ret
        exact ⟨ret_bool (by rw [goodNameL, HF.out]; rfl), rfl⟩
      · rw [hb] at hn
        have HB := hide hb
        have HT := hide hts
        clear hb hts
        go_wp2_with (go_at_call 122; refine hn.mono ?_; rintro e w' ⟨rfl, rfl⟩)
        go_round
        case rel => exact ⟨k + 1, by omega, by go_num, by rw [HT.out, HA.out, HB.out]; rfl⟩
        case measure => simp [intOf]; omega
    · have hfin : s.data.toList.all nameB = true := by have := HA.out; rwa [take_all s k (by omega)] at this
      have HF := hide hfin
      clear hfin
      go_wp2
      all_goals go_ret
      all_goals
        refine ⟨ret_bool ?_, rfl⟩
        have hl := HL.out
        simp only [goodNameL, HF.out, Bool.true_and]
        rw [← hl, Bool.eq_iff_iff]
        simp
        omega
end Go.Proofs.YtgdjlmpfjmakkaaDoor
