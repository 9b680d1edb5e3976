/- concertinalaw28.ShellWrong: the walk. (printed by gen/shwrong.py) -/
import Derived.Test.YtbplnglmjcmfiaaGreatDoorShAns
import Derived.Test.YtbplnglmjcmfiaaGreatDoorScrGlo
import Derived.Test.YtbplnglmjcmfiaaGreatDoorLaid8
namespace Go.Proofs.YtbplnglmjcmfiaaGreatDoor.ShellWrongP
open Go.RowKit
set_option linter.unusedVariables false
set_option linter.unusedSimpArgs false

theorem size_len (s : ByteArray) : s.data.toList.length = s.size := by rw [Array.length_toList]; rfl
theorem word_yes {b : ByteArray} {l : List UInt8} (h : b.data.toList = l) : (b.toList == l) = true := by rw [ByteArray.toList_eq, h]; simp
theorem word_no {b : ByteArray} {l : List UInt8} (h : b.data.toList ≠ l) : (b.toList == l) = false := by rw [ByteArray.toList_eq, beq_eq_false_iff_ne]; exact h
theorem cut_of {s : ByteArray} {a r : List UInt8} (h : s.data.toList = a ++ 10 :: r) (ha : (10 : UInt8) ∉ a) : Lib.cut s.data.toList [10] = (a, r, true) := by rw [h]; exact cut_hit ha
set_option maxRecDepth 100000 in
set_option maxHeartbeats 6400000 in
theorem walk (word text : ByteArray) (w : World) (hwd : word.size ≤ maxLen) (htx : text.size ≤ maxLen) (hG : ∀ W, Below w.heap.size w W → Glo W) :
    Calls Tryz.prog 4 #[.string word, .string text] w fun e w' => e = .returned (.bool true) ∧ Below w.heap.size w w' := by
  obtain ⟨g, hg⟩ : ∃ g, w.heap.size = g := ⟨_, rfl⟩
  have sz : ∀ {W}, Below g w W → g ≤ W.heap.size := fun b => hg ▸ b.size
  rw [hg] at hG
  have QA : Hid (∀ W (b : Below g w W), Calls Tryz.prog 11 #[] W fun e w' => e = .returned (.bool true) ∧ Below W.heap.size W w') := hide fun W b => shans_any W (fun W' b' => hG W' (b.trans (b'.mono (sz b))))
  have SZ : Hid (∀ W, Below g w W → g ≤ W.heap.size) := hide fun W b => sz b
  have HG : Hid (∀ W (b : Below g w W) W', Below W.heap.size W W' → Glo W') := hide fun W b W' b' => hG W' (b.trans (b'.mono (sz b)))
  have b0 : Below g w w := Below.refl _ _
  clear hG sz
  by_cases hbig : 50 < word.size ∨ 300 < text.size
  · by_cases h1 : 50 < word.size
    · have h1' : (50 : Int) < (word.size : Int) := by omega
      go_enter Tryz.func4, Tryz.ntmps4
      go_wp2_with fail
      refine (QA.out w b0).mono ?_
      rintro e w1 ⟨rfl, b1⟩
      have t1 := b0.trans (b1.mono (SZ.out _ b0))
      go_wp2_with fail
      refine (QA.out w1 t1).mono ?_
      rintro e w2 ⟨rfl, b2⟩
      go_wp2_with fail
      go_ret
      rw [hg]
      exact ⟨rfl, t1.trans (b2.mono (SZ.out _ t1))⟩
    · have h1' : ¬ (50 : Int) < (word.size : Int) := by omega
      have h2' : (300 : Int) < (text.size : Int) := by omega
      go_enter Tryz.func4, Tryz.ntmps4
      go_wp2_with fail
      refine (QA.out w b0).mono ?_
      rintro e w1 ⟨rfl, b1⟩
      have t1 := b0.trans (b1.mono (SZ.out _ b0))
      go_wp2_with fail
      refine (QA.out w1 t1).mono ?_
      rintro e w2 ⟨rfl, b2⟩
      go_wp2_with fail
      go_ret
      rw [hg]
      exact ⟨rfl, t1.trans (b2.mono (SZ.out _ t1))⟩
  have hw50 : word.size ≤ 50 := by omega
  have ht300 : text.size ≤ 300 := by omega
  have h1' : ¬ (50 : Int) < (word.size : Int) := by omega
  have h2' : ¬ (300 : Int) < (text.size : Int) := by omega
  have e91 : (err91.toList == [101, 114, 114, 111, 114, 32, 57, 32, 49, 10]) = true := by decide +kernel
  have e0 : (err0.toList == [101, 114, 114, 111, 114, 32, 48, 10]) = true := by decide +kernel
  obtain ⟨x91, hx91⟩ : ∃ x, x = err91 := ⟨_, rfl⟩
  obtain ⟨x0, hx0⟩ : ∃ x, x = err0 := ⟨_, rfl⟩
  rw [← hx91] at e91
  rw [← hx0] at e0
  have H91 := hide hx91
  have H0 := hide hx0
  clear hbig hwd htx hx91 hx0
  go_enter Tryz.func4, Tryz.ntmps4
  go_wp2_with fail
  refine (QA.out w b0).mono ?_
  rintro e w1 ⟨rfl, b1⟩
  have t1 := b0.trans (b1.mono (SZ.out _ b0))
  clear QA b1
  go_wp2_with fail
  go_loopw [5] (fun i W => ∃ k : Nat, k ≤ word.size ∧ i = .int .i64 k ∧ Hid (∀ j (h : j < word.size), j < k → word[j] ≠ 10) ∧ W = w1) (fun i _ => word.size - (intOf i).toNat)
  case atStart => exact ⟨0, Nat.zero_le _, rfl, hide (fun j h h2 => absurd h2 (Nat.not_lt_zero _)), rfl⟩
  case round =>
    obtain ⟨k, hk, rfl, hno, rfl⟩ := hrel
    by_cases hlt : k < word.size
    · have hlt' : (k : Int) < (word.size : Int) := by omega
      by_cases ht : word[k] = 10
      · have hti : ((word[k].toNat : Nat) : Int) = 10 := by rw [ht]; rfl
        clear ht
        go_wp2_with fail
        go_ret
        rw [hg]
        exact ⟨rfl, t1⟩
      · have hti : ¬ ((word[k].toNat : Nat) : Int) = 10 := fun h => ht (UInt8.toNat_inj.mp (by have e : (10 : UInt8).toNat = 10 := rfl; omega))
        have told : Hid (∀ j (h : j < word.size), j < k + 1 → word[j] ≠ 10) := hide fun j h h2 => by
          rcases Nat.lt_or_ge j k with h3 | h3
          · exact hno.out j h h3
          · obtain rfl : j = k := by omega
            exact ht
        clear ht
        go_wp2_with fail
        go_roundw
        case rel => exact ⟨k + 1, by omega, by go_num, told, trivial⟩
        case measure => simp [intOf]; omega
    · have hlt' : ¬ (k : Int) < (word.size : Int) := by omega
      have hn10 : (10 : UInt8) ∉ word.data.toList := by
        intro hm
        obtain ⟨j, hj, hje⟩ := List.mem_iff_getElem.mp hm
        have hj2 : j < word.size := by rw [← size_len]; exact hj
        refine hno.out j hj2 (by omega) ?_
        rw [← hje, Array.getElem_toList]; rfl
      have HN := hide hn10
      clear hno hn10
      by_cases h0 : word.data.toList = [97, 99, 99, 101, 112, 116]
      · have l_s1 : (⟨#[114, 117, 110, 10, 63]⟩ : ByteArray).size = 5 := rfl
        obtain ⟨s1, hs1⟩ : ∃ z : ByteArray, (⟨#[114, 117, 110, 10, 63]⟩ : ByteArray) ++ text = z := ⟨_, rfl⟩
        have zs1 : s1.size ≤ 305 := by rw [← hs1, ByteArray.size_append]; omega
        have ks1 : ¬ (9223372036854775807 < 5 + text.size) := by omega
        have d1 : s1.data.toList = [114, 117, 110] ++ 10 :: (63 :: text.data.toList) := by rw [← hs1, ByteArray.data_append, Array.toList_append]; rfl
        have Q1 : Hid (∀ W (b : Below g w W), Calls Tryz.prog 12 #[.string s1] W fun e w' => e = .returned (.string x91) ∧ Below W.heap.size W w') := hide fun W b => H91.out.symm ▸ shRun_run s1 W [114, 117, 110] (63 :: text.data.toList) text.data.toList true (by omega) (by rw [List.length_cons, size_len]; omega) (cut_of d1 (by decide)) rfl rfl (HG.out W b)
        have c0 := word_yes h0
        clear d1 h0 l_s1
        go_wp2_with fail
        refine (Q1.out wr t1).mono ?_
        rintro e v1 ⟨rfl, a1⟩
        have t2 := (t1).trans (a1.mono (SZ.out _ t1))
        go_wp2_with fail
        go_ret
        rw [hg]
        exact ⟨rfl, t2⟩
      by_cases h1 : word.data.toList = [114, 117, 110]
      · have l_s1 : (⟨#[114, 117, 110, 10, 63]⟩ : ByteArray).size = 5 := rfl
        obtain ⟨s1, hs1⟩ : ∃ z : ByteArray, (⟨#[114, 117, 110, 10, 63]⟩ : ByteArray) ++ text = z := ⟨_, rfl⟩
        have zs1 : s1.size ≤ 305 := by rw [← hs1, ByteArray.size_append]; omega
        have ks1 : ¬ (9223372036854775807 < 5 + text.size) := by omega
        have d1 : s1.data.toList = [114, 117, 110] ++ 10 :: (63 :: text.data.toList) := by rw [← hs1, ByteArray.data_append, Array.toList_append]; rfl
        have Q1 : Hid (∀ W (b : Below g w W), Calls Tryz.prog 12 #[.string s1] W fun e w' => e = .returned (.string x91) ∧ Below W.heap.size W w') := hide fun W b => H91.out.symm ▸ shRun_run s1 W [114, 117, 110] (63 :: text.data.toList) text.data.toList true (by omega) (by rw [List.length_cons, size_len]; omega) (cut_of d1 (by decide)) rfl rfl (HG.out W b)
        have c0 := word_no (l := [97, 99, 99, 101, 112, 116]) (by rw [h1]; decide)
        have c1 := word_yes h1
        clear d1 h1 l_s1
        go_wp2_with fail
        refine (Q1.out wr t1).mono ?_
        rintro e v1 ⟨rfl, a1⟩
        have t2 := (t1).trans (a1.mono (SZ.out _ t1))
        go_wp2_with fail
        go_ret
        rw [hg]
        exact ⟨rfl, t2⟩
      by_cases h2 : word.data.toList = [103, 122, 105, 112]
      · have l_s1 : (⟨#[10, 121]⟩ : ByteArray).size = 2 := rfl
        obtain ⟨s1, hs1⟩ : ∃ z : ByteArray, (word : ByteArray) ++ ⟨#[10, 121]⟩ = z := ⟨_, rfl⟩
        have zs1 : s1.size ≤ 52 := by rw [← hs1, ByteArray.size_append]; omega
        have ks1 : ¬ (9223372036854775807 < word.size + 2) := by omega
        obtain ⟨s2, hs2⟩ : ∃ z : ByteArray, (s1 : ByteArray) ++ text = z := ⟨_, rfl⟩
        have zs2 : s2.size ≤ 352 := by rw [← hs2, ByteArray.size_append]; omega
        have ks2 : ¬ (9223372036854775807 < s1.size + text.size) := by omega
        have l_s3 : (⟨#[10, 120, 48]⟩ : ByteArray).size = 3 := rfl
        obtain ⟨s3, hs3⟩ : ∃ z : ByteArray, (word : ByteArray) ++ ⟨#[10, 120, 48]⟩ = z := ⟨_, rfl⟩
        have zs3 : s3.size ≤ 53 := by rw [← hs3, ByteArray.size_append]; omega
        have ks3 : ¬ (9223372036854775807 < word.size + 3) := by omega
        have l_s4 : (⟨#[10, 120, 65, 65]⟩ : ByteArray).size = 4 := rfl
        obtain ⟨s4, hs4⟩ : ∃ z : ByteArray, (word : ByteArray) ++ ⟨#[10, 120, 65, 65]⟩ = z := ⟨_, rfl⟩
        have zs4 : s4.size ≤ 54 := by rw [← hs4, ByteArray.size_append]; omega
        have ks4 : ¬ (9223372036854775807 < word.size + 4) := by omega
        have d2 : s2.data.toList = [103, 122, 105, 112] ++ 10 :: (121 :: text.data.toList) := by rw [← hs2, ← hs1, ByteArray.data_append, Array.toList_append, ByteArray.data_append, Array.toList_append, h2]; rfl
        have d3 : s3.data.toList = [103, 122, 105, 112] ++ 10 :: [120, 48] := by rw [← hs3, ByteArray.data_append, Array.toList_append, h2]
        have d4 : s4.data.toList = [103, 122, 105, 112] ++ 10 :: [120, 65, 65] := by rw [← hs4, ByteArray.data_append, Array.toList_append, h2]
        have Q1 : Hid (∀ W (b : Below g w W), Calls Tryz.prog 12 #[.string s2] W fun e w' => e = .returned (.string x91) ∧ Below W.heap.size W w') := hide fun W b => H91.out.symm ▸ shRun_bad0 s2 W [103, 122, 105, 112] (121 :: text.data.toList) true (by omega) (by rw [List.length_cons, size_len]; omega) (cut_of d2 (by decide)) rfl (trim_y _) (HG.out W b)
        have Q2 : Hid (∀ W (b : Below g w W), Calls Tryz.prog 12 #[.string s3] W fun e w' => e = .returned (.string x91) ∧ Below W.heap.size W w') := hide fun W b => H91.out.symm ▸ shRun_bad0 s3 W [103, 122, 105, 112] [120, 48] true (by omega) (by decide) (cut_of d3 (by decide)) rfl bytes_odd (HG.out W b)
        have Q3 : Hid (∀ W (b : Below g w W), Calls Tryz.prog 12 #[.string s4] W fun e w' => e = .returned (.string x91) ∧ Below W.heap.size W w') := hide fun W b => H91.out.symm ▸ shRun_bad0 s4 W [103, 122, 105, 112] [120, 65, 65] true (by omega) (by decide) (cut_of d4 (by decide)) rfl bytes_AA (HG.out W b)
        have c0 := word_no (l := [97, 99, 99, 101, 112, 116]) (by rw [h2]; decide)
        have c1 := word_no (l := [114, 117, 110]) (by rw [h2]; decide)
        have c2 := word_yes h2
        clear d2 d3 d4 h2 l_s1 l_s3 l_s4
        go_wp2_with fail
        refine (Q1.out wr t1).mono ?_
        rintro e v1 ⟨rfl, a1⟩
        have t2 := (t1).trans (a1.mono (SZ.out _ t1))
        go_wp2_with fail
        refine (Q2.out v1 t2).mono ?_
        rintro e v2 ⟨rfl, a2⟩
        have t3 := (t2).trans (a2.mono (SZ.out _ t2))
        go_wp2_with fail
        refine (Q3.out v2 t3).mono ?_
        rintro e v3 ⟨rfl, a3⟩
        have t4 := (t3).trans (a3.mono (SZ.out _ t3))
        go_wp2_with fail
        go_ret
        rw [hg]
        exact ⟨rfl, t4⟩
      by_cases h3 : word.data.toList = [122, 108, 105, 98]
      · have l_s1 : (⟨#[10, 121]⟩ : ByteArray).size = 2 := rfl
        obtain ⟨s1, hs1⟩ : ∃ z : ByteArray, (word : ByteArray) ++ ⟨#[10, 121]⟩ = z := ⟨_, rfl⟩
        have zs1 : s1.size ≤ 52 := by rw [← hs1, ByteArray.size_append]; omega
        have ks1 : ¬ (9223372036854775807 < word.size + 2) := by omega
        obtain ⟨s2, hs2⟩ : ∃ z : ByteArray, (s1 : ByteArray) ++ text = z := ⟨_, rfl⟩
        have zs2 : s2.size ≤ 352 := by rw [← hs2, ByteArray.size_append]; omega
        have ks2 : ¬ (9223372036854775807 < s1.size + text.size) := by omega
        have l_s3 : (⟨#[10, 120, 48]⟩ : ByteArray).size = 3 := rfl
        obtain ⟨s3, hs3⟩ : ∃ z : ByteArray, (word : ByteArray) ++ ⟨#[10, 120, 48]⟩ = z := ⟨_, rfl⟩
        have zs3 : s3.size ≤ 53 := by rw [← hs3, ByteArray.size_append]; omega
        have ks3 : ¬ (9223372036854775807 < word.size + 3) := by omega
        have l_s4 : (⟨#[10, 120, 65, 65]⟩ : ByteArray).size = 4 := rfl
        obtain ⟨s4, hs4⟩ : ∃ z : ByteArray, (word : ByteArray) ++ ⟨#[10, 120, 65, 65]⟩ = z := ⟨_, rfl⟩
        have zs4 : s4.size ≤ 54 := by rw [← hs4, ByteArray.size_append]; omega
        have ks4 : ¬ (9223372036854775807 < word.size + 4) := by omega
        have d2 : s2.data.toList = [122, 108, 105, 98] ++ 10 :: (121 :: text.data.toList) := by rw [← hs2, ← hs1, ByteArray.data_append, Array.toList_append, ByteArray.data_append, Array.toList_append, h3]; rfl
        have d3 : s3.data.toList = [122, 108, 105, 98] ++ 10 :: [120, 48] := by rw [← hs3, ByteArray.data_append, Array.toList_append, h3]
        have d4 : s4.data.toList = [122, 108, 105, 98] ++ 10 :: [120, 65, 65] := by rw [← hs4, ByteArray.data_append, Array.toList_append, h3]
        have Q1 : Hid (∀ W (b : Below g w W), Calls Tryz.prog 12 #[.string s2] W fun e w' => e = .returned (.string x91) ∧ Below W.heap.size W w') := hide fun W b => H91.out.symm ▸ shRun_bad1 s2 W [122, 108, 105, 98] (121 :: text.data.toList) true (by omega) (by rw [List.length_cons, size_len]; omega) (cut_of d2 (by decide)) rfl (trim_y _) (HG.out W b)
        have Q2 : Hid (∀ W (b : Below g w W), Calls Tryz.prog 12 #[.string s3] W fun e w' => e = .returned (.string x91) ∧ Below W.heap.size W w') := hide fun W b => H91.out.symm ▸ shRun_bad1 s3 W [122, 108, 105, 98] [120, 48] true (by omega) (by decide) (cut_of d3 (by decide)) rfl bytes_odd (HG.out W b)
        have Q3 : Hid (∀ W (b : Below g w W), Calls Tryz.prog 12 #[.string s4] W fun e w' => e = .returned (.string x91) ∧ Below W.heap.size W w') := hide fun W b => H91.out.symm ▸ shRun_bad1 s4 W [122, 108, 105, 98] [120, 65, 65] true (by omega) (by decide) (cut_of d4 (by decide)) rfl bytes_AA (HG.out W b)
        have c0 := word_no (l := [97, 99, 99, 101, 112, 116]) (by rw [h3]; decide)
        have c1 := word_no (l := [114, 117, 110]) (by rw [h3]; decide)
        have c2 := word_no (l := [103, 122, 105, 112]) (by rw [h3]; decide)
        have c3 := word_yes h3
        clear d2 d3 d4 h3 l_s1 l_s3 l_s4
        go_wp2_with fail
        refine (Q1.out wr t1).mono ?_
        rintro e v1 ⟨rfl, a1⟩
        have t2 := (t1).trans (a1.mono (SZ.out _ t1))
        go_wp2_with fail
        refine (Q2.out v1 t2).mono ?_
        rintro e v2 ⟨rfl, a2⟩
        have t3 := (t2).trans (a2.mono (SZ.out _ t2))
        go_wp2_with fail
        refine (Q3.out v2 t3).mono ?_
        rintro e v3 ⟨rfl, a3⟩
        have t4 := (t3).trans (a3.mono (SZ.out _ t3))
        go_wp2_with fail
        go_ret
        rw [hg]
        exact ⟨rfl, t4⟩
      by_cases h4 : word.data.toList = [114, 97, 119]
      · have l_s1 : (⟨#[10, 121]⟩ : ByteArray).size = 2 := rfl
        obtain ⟨s1, hs1⟩ : ∃ z : ByteArray, (word : ByteArray) ++ ⟨#[10, 121]⟩ = z := ⟨_, rfl⟩
        have zs1 : s1.size ≤ 52 := by rw [← hs1, ByteArray.size_append]; omega
        have ks1 : ¬ (9223372036854775807 < word.size + 2) := by omega
        obtain ⟨s2, hs2⟩ : ∃ z : ByteArray, (s1 : ByteArray) ++ text = z := ⟨_, rfl⟩
        have zs2 : s2.size ≤ 352 := by rw [← hs2, ByteArray.size_append]; omega
        have ks2 : ¬ (9223372036854775807 < s1.size + text.size) := by omega
        have l_s3 : (⟨#[10, 120, 48]⟩ : ByteArray).size = 3 := rfl
        obtain ⟨s3, hs3⟩ : ∃ z : ByteArray, (word : ByteArray) ++ ⟨#[10, 120, 48]⟩ = z := ⟨_, rfl⟩
        have zs3 : s3.size ≤ 53 := by rw [← hs3, ByteArray.size_append]; omega
        have ks3 : ¬ (9223372036854775807 < word.size + 3) := by omega
        have l_s4 : (⟨#[10, 120, 65, 65]⟩ : ByteArray).size = 4 := rfl
        obtain ⟨s4, hs4⟩ : ∃ z : ByteArray, (word : ByteArray) ++ ⟨#[10, 120, 65, 65]⟩ = z := ⟨_, rfl⟩
        have zs4 : s4.size ≤ 54 := by rw [← hs4, ByteArray.size_append]; omega
        have ks4 : ¬ (9223372036854775807 < word.size + 4) := by omega
        have d2 : s2.data.toList = [114, 97, 119] ++ 10 :: (121 :: text.data.toList) := by rw [← hs2, ← hs1, ByteArray.data_append, Array.toList_append, ByteArray.data_append, Array.toList_append, h4]; rfl
        have d3 : s3.data.toList = [114, 97, 119] ++ 10 :: [120, 48] := by rw [← hs3, ByteArray.data_append, Array.toList_append, h4]
        have d4 : s4.data.toList = [114, 97, 119] ++ 10 :: [120, 65, 65] := by rw [← hs4, ByteArray.data_append, Array.toList_append, h4]
        have Q1 : Hid (∀ W (b : Below g w W), Calls Tryz.prog 12 #[.string s2] W fun e w' => e = .returned (.string x91) ∧ Below W.heap.size W w') := hide fun W b => H91.out.symm ▸ shRun_bad2 s2 W [114, 97, 119] (121 :: text.data.toList) true (by omega) (by rw [List.length_cons, size_len]; omega) (cut_of d2 (by decide)) rfl (trim_y _) (HG.out W b)
        have Q2 : Hid (∀ W (b : Below g w W), Calls Tryz.prog 12 #[.string s3] W fun e w' => e = .returned (.string x91) ∧ Below W.heap.size W w') := hide fun W b => H91.out.symm ▸ shRun_bad2 s3 W [114, 97, 119] [120, 48] true (by omega) (by decide) (cut_of d3 (by decide)) rfl bytes_odd (HG.out W b)
        have Q3 : Hid (∀ W (b : Below g w W), Calls Tryz.prog 12 #[.string s4] W fun e w' => e = .returned (.string x91) ∧ Below W.heap.size W w') := hide fun W b => H91.out.symm ▸ shRun_bad2 s4 W [114, 97, 119] [120, 65, 65] true (by omega) (by decide) (cut_of d4 (by decide)) rfl bytes_AA (HG.out W b)
        have c0 := word_no (l := [97, 99, 99, 101, 112, 116]) (by rw [h4]; decide)
        have c1 := word_no (l := [114, 117, 110]) (by rw [h4]; decide)
        have c2 := word_no (l := [103, 122, 105, 112]) (by rw [h4]; decide)
        have c3 := word_no (l := [122, 108, 105, 98]) (by rw [h4]; decide)
        have c4 := word_yes h4
        clear d2 d3 d4 h4 l_s1 l_s3 l_s4
        go_wp2_with fail
        refine (Q1.out wr t1).mono ?_
        rintro e v1 ⟨rfl, a1⟩
        have t2 := (t1).trans (a1.mono (SZ.out _ t1))
        go_wp2_with fail
        refine (Q2.out v1 t2).mono ?_
        rintro e v2 ⟨rfl, a2⟩
        have t3 := (t2).trans (a2.mono (SZ.out _ t2))
        go_wp2_with fail
        refine (Q3.out v2 t3).mono ?_
        rintro e v3 ⟨rfl, a3⟩
        have t4 := (t3).trans (a3.mono (SZ.out _ t3))
        go_wp2_with fail
        go_ret
        rw [hg]
        exact ⟨rfl, t4⟩
      by_cases h5 : word.data.toList = [103, 117, 110, 122, 105, 112]
      · have l_s1 : (⟨#[10, 121]⟩ : ByteArray).size = 2 := rfl
        obtain ⟨s1, hs1⟩ : ∃ z : ByteArray, (word : ByteArray) ++ ⟨#[10, 121]⟩ = z := ⟨_, rfl⟩
        have zs1 : s1.size ≤ 52 := by rw [← hs1, ByteArray.size_append]; omega
        have ks1 : ¬ (9223372036854775807 < word.size + 2) := by omega
        obtain ⟨s2, hs2⟩ : ∃ z : ByteArray, (s1 : ByteArray) ++ text = z := ⟨_, rfl⟩
        have zs2 : s2.size ≤ 352 := by rw [← hs2, ByteArray.size_append]; omega
        have ks2 : ¬ (9223372036854775807 < s1.size + text.size) := by omega
        have l_s3 : (⟨#[10, 120, 48]⟩ : ByteArray).size = 3 := rfl
        obtain ⟨s3, hs3⟩ : ∃ z : ByteArray, (word : ByteArray) ++ ⟨#[10, 120, 48]⟩ = z := ⟨_, rfl⟩
        have zs3 : s3.size ≤ 53 := by rw [← hs3, ByteArray.size_append]; omega
        have ks3 : ¬ (9223372036854775807 < word.size + 3) := by omega
        have l_s4 : (⟨#[10, 120, 65, 65]⟩ : ByteArray).size = 4 := rfl
        obtain ⟨s4, hs4⟩ : ∃ z : ByteArray, (word : ByteArray) ++ ⟨#[10, 120, 65, 65]⟩ = z := ⟨_, rfl⟩
        have zs4 : s4.size ≤ 54 := by rw [← hs4, ByteArray.size_append]; omega
        have ks4 : ¬ (9223372036854775807 < word.size + 4) := by omega
        have d2 : s2.data.toList = [103, 117, 110, 122, 105, 112] ++ 10 :: (121 :: text.data.toList) := by rw [← hs2, ← hs1, ByteArray.data_append, Array.toList_append, ByteArray.data_append, Array.toList_append, h5]; rfl
        have d3 : s3.data.toList = [103, 117, 110, 122, 105, 112] ++ 10 :: [120, 48] := by rw [← hs3, ByteArray.data_append, Array.toList_append, h5]
        have d4 : s4.data.toList = [103, 117, 110, 122, 105, 112] ++ 10 :: [120, 65, 65] := by rw [← hs4, ByteArray.data_append, Array.toList_append, h5]
        have Q1 : Hid (∀ W (b : Below g w W), Calls Tryz.prog 12 #[.string s2] W fun e w' => e = .returned (.string x91) ∧ Below W.heap.size W w') := hide fun W b => H91.out.symm ▸ shRun_bad3 s2 W [103, 117, 110, 122, 105, 112] (121 :: text.data.toList) true (by omega) (by rw [List.length_cons, size_len]; omega) (cut_of d2 (by decide)) rfl (trim_y _) (HG.out W b)
        have Q2 : Hid (∀ W (b : Below g w W), Calls Tryz.prog 12 #[.string s3] W fun e w' => e = .returned (.string x91) ∧ Below W.heap.size W w') := hide fun W b => H91.out.symm ▸ shRun_bad3 s3 W [103, 117, 110, 122, 105, 112] [120, 48] true (by omega) (by decide) (cut_of d3 (by decide)) rfl bytes_odd (HG.out W b)
        have Q3 : Hid (∀ W (b : Below g w W), Calls Tryz.prog 12 #[.string s4] W fun e w' => e = .returned (.string x91) ∧ Below W.heap.size W w') := hide fun W b => H91.out.symm ▸ shRun_bad3 s4 W [103, 117, 110, 122, 105, 112] [120, 65, 65] true (by omega) (by decide) (cut_of d4 (by decide)) rfl bytes_AA (HG.out W b)
        have c0 := word_no (l := [97, 99, 99, 101, 112, 116]) (by rw [h5]; decide)
        have c1 := word_no (l := [114, 117, 110]) (by rw [h5]; decide)
        have c2 := word_no (l := [103, 122, 105, 112]) (by rw [h5]; decide)
        have c3 := word_no (l := [122, 108, 105, 98]) (by rw [h5]; decide)
        have c4 := word_no (l := [114, 97, 119]) (by rw [h5]; decide)
        have c5 := word_yes h5
        clear d2 d3 d4 h5 l_s1 l_s3 l_s4
        go_wp2_with fail
        refine (Q1.out wr t1).mono ?_
        rintro e v1 ⟨rfl, a1⟩
        have t2 := (t1).trans (a1.mono (SZ.out _ t1))
        go_wp2_with fail
        refine (Q2.out v1 t2).mono ?_
        rintro e v2 ⟨rfl, a2⟩
        have t3 := (t2).trans (a2.mono (SZ.out _ t2))
        go_wp2_with fail
        refine (Q3.out v2 t3).mono ?_
        rintro e v3 ⟨rfl, a3⟩
        have t4 := (t3).trans (a3.mono (SZ.out _ t3))
        go_wp2_with fail
        go_ret
        rw [hg]
        exact ⟨rfl, t4⟩
      by_cases h6 : word.data.toList = [117, 110, 122, 108, 105, 98]
      · have l_s1 : (⟨#[10, 121]⟩ : ByteArray).size = 2 := rfl
        obtain ⟨s1, hs1⟩ : ∃ z : ByteArray, (word : ByteArray) ++ ⟨#[10, 121]⟩ = z := ⟨_, rfl⟩
        have zs1 : s1.size ≤ 52 := by rw [← hs1, ByteArray.size_append]; omega
        have ks1 : ¬ (9223372036854775807 < word.size + 2) := by omega
        obtain ⟨s2, hs2⟩ : ∃ z : ByteArray, (s1 : ByteArray) ++ text = z := ⟨_, rfl⟩
        have zs2 : s2.size ≤ 352 := by rw [← hs2, ByteArray.size_append]; omega
        have ks2 : ¬ (9223372036854775807 < s1.size + text.size) := by omega
        have l_s3 : (⟨#[10, 120, 48]⟩ : ByteArray).size = 3 := rfl
        obtain ⟨s3, hs3⟩ : ∃ z : ByteArray, (word : ByteArray) ++ ⟨#[10, 120, 48]⟩ = z := ⟨_, rfl⟩
        have zs3 : s3.size ≤ 53 := by rw [← hs3, ByteArray.size_append]; omega
        have ks3 : ¬ (9223372036854775807 < word.size + 3) := by omega
        have l_s4 : (⟨#[10, 120, 65, 65]⟩ : ByteArray).size = 4 := rfl
        obtain ⟨s4, hs4⟩ : ∃ z : ByteArray, (word : ByteArray) ++ ⟨#[10, 120, 65, 65]⟩ = z := ⟨_, rfl⟩
        have zs4 : s4.size ≤ 54 := by rw [← hs4, ByteArray.size_append]; omega
        have ks4 : ¬ (9223372036854775807 < word.size + 4) := by omega
        have d2 : s2.data.toList = [117, 110, 122, 108, 105, 98] ++ 10 :: (121 :: text.data.toList) := by rw [← hs2, ← hs1, ByteArray.data_append, Array.toList_append, ByteArray.data_append, Array.toList_append, h6]; rfl
        have d3 : s3.data.toList = [117, 110, 122, 108, 105, 98] ++ 10 :: [120, 48] := by rw [← hs3, ByteArray.data_append, Array.toList_append, h6]
        have d4 : s4.data.toList = [117, 110, 122, 108, 105, 98] ++ 10 :: [120, 65, 65] := by rw [← hs4, ByteArray.data_append, Array.toList_append, h6]
        have Q1 : Hid (∀ W (b : Below g w W), Calls Tryz.prog 12 #[.string s2] W fun e w' => e = .returned (.string x91) ∧ Below W.heap.size W w') := hide fun W b => H91.out.symm ▸ shRun_bad4 s2 W [117, 110, 122, 108, 105, 98] (121 :: text.data.toList) true (by omega) (by rw [List.length_cons, size_len]; omega) (cut_of d2 (by decide)) rfl (trim_y _) (HG.out W b)
        have Q2 : Hid (∀ W (b : Below g w W), Calls Tryz.prog 12 #[.string s3] W fun e w' => e = .returned (.string x91) ∧ Below W.heap.size W w') := hide fun W b => H91.out.symm ▸ shRun_bad4 s3 W [117, 110, 122, 108, 105, 98] [120, 48] true (by omega) (by decide) (cut_of d3 (by decide)) rfl bytes_odd (HG.out W b)
        have Q3 : Hid (∀ W (b : Below g w W), Calls Tryz.prog 12 #[.string s4] W fun e w' => e = .returned (.string x91) ∧ Below W.heap.size W w') := hide fun W b => H91.out.symm ▸ shRun_bad4 s4 W [117, 110, 122, 108, 105, 98] [120, 65, 65] true (by omega) (by decide) (cut_of d4 (by decide)) rfl bytes_AA (HG.out W b)
        have c0 := word_no (l := [97, 99, 99, 101, 112, 116]) (by rw [h6]; decide)
        have c1 := word_no (l := [114, 117, 110]) (by rw [h6]; decide)
        have c2 := word_no (l := [103, 122, 105, 112]) (by rw [h6]; decide)
        have c3 := word_no (l := [122, 108, 105, 98]) (by rw [h6]; decide)
        have c4 := word_no (l := [114, 97, 119]) (by rw [h6]; decide)
        have c5 := word_no (l := [103, 117, 110, 122, 105, 112]) (by rw [h6]; decide)
        have c6 := word_yes h6
        clear d2 d3 d4 h6 l_s1 l_s3 l_s4
        go_wp2_with fail
        refine (Q1.out wr t1).mono ?_
        rintro e v1 ⟨rfl, a1⟩
        have t2 := (t1).trans (a1.mono (SZ.out _ t1))
        go_wp2_with fail
        refine (Q2.out v1 t2).mono ?_
        rintro e v2 ⟨rfl, a2⟩
        have t3 := (t2).trans (a2.mono (SZ.out _ t2))
        go_wp2_with fail
        refine (Q3.out v2 t3).mono ?_
        rintro e v3 ⟨rfl, a3⟩
        have t4 := (t3).trans (a3.mono (SZ.out _ t3))
        go_wp2_with fail
        go_ret
        rw [hg]
        exact ⟨rfl, t4⟩
      by_cases h7 : word.data.toList = [117, 110, 114, 97, 119]
      · have l_s1 : (⟨#[10, 121]⟩ : ByteArray).size = 2 := rfl
        obtain ⟨s1, hs1⟩ : ∃ z : ByteArray, (word : ByteArray) ++ ⟨#[10, 121]⟩ = z := ⟨_, rfl⟩
        have zs1 : s1.size ≤ 52 := by rw [← hs1, ByteArray.size_append]; omega
        have ks1 : ¬ (9223372036854775807 < word.size + 2) := by omega
        obtain ⟨s2, hs2⟩ : ∃ z : ByteArray, (s1 : ByteArray) ++ text = z := ⟨_, rfl⟩
        have zs2 : s2.size ≤ 352 := by rw [← hs2, ByteArray.size_append]; omega
        have ks2 : ¬ (9223372036854775807 < s1.size + text.size) := by omega
        have l_s3 : (⟨#[10, 120, 48]⟩ : ByteArray).size = 3 := rfl
        obtain ⟨s3, hs3⟩ : ∃ z : ByteArray, (word : ByteArray) ++ ⟨#[10, 120, 48]⟩ = z := ⟨_, rfl⟩
        have zs3 : s3.size ≤ 53 := by rw [← hs3, ByteArray.size_append]; omega
        have ks3 : ¬ (9223372036854775807 < word.size + 3) := by omega
        have l_s4 : (⟨#[10, 120, 65, 65]⟩ : ByteArray).size = 4 := rfl
        obtain ⟨s4, hs4⟩ : ∃ z : ByteArray, (word : ByteArray) ++ ⟨#[10, 120, 65, 65]⟩ = z := ⟨_, rfl⟩
        have zs4 : s4.size ≤ 54 := by rw [← hs4, ByteArray.size_append]; omega
        have ks4 : ¬ (9223372036854775807 < word.size + 4) := by omega
        have d2 : s2.data.toList = [117, 110, 114, 97, 119] ++ 10 :: (121 :: text.data.toList) := by rw [← hs2, ← hs1, ByteArray.data_append, Array.toList_append, ByteArray.data_append, Array.toList_append, h7]; rfl
        have d3 : s3.data.toList = [117, 110, 114, 97, 119] ++ 10 :: [120, 48] := by rw [← hs3, ByteArray.data_append, Array.toList_append, h7]
        have d4 : s4.data.toList = [117, 110, 114, 97, 119] ++ 10 :: [120, 65, 65] := by rw [← hs4, ByteArray.data_append, Array.toList_append, h7]
        have Q1 : Hid (∀ W (b : Below g w W), Calls Tryz.prog 12 #[.string s2] W fun e w' => e = .returned (.string x91) ∧ Below W.heap.size W w') := hide fun W b => H91.out.symm ▸ shRun_bad5 s2 W [117, 110, 114, 97, 119] (121 :: text.data.toList) true (by omega) (by rw [List.length_cons, size_len]; omega) (cut_of d2 (by decide)) rfl (trim_y _) (HG.out W b)
        have Q2 : Hid (∀ W (b : Below g w W), Calls Tryz.prog 12 #[.string s3] W fun e w' => e = .returned (.string x91) ∧ Below W.heap.size W w') := hide fun W b => H91.out.symm ▸ shRun_bad5 s3 W [117, 110, 114, 97, 119] [120, 48] true (by omega) (by decide) (cut_of d3 (by decide)) rfl bytes_odd (HG.out W b)
        have Q3 : Hid (∀ W (b : Below g w W), Calls Tryz.prog 12 #[.string s4] W fun e w' => e = .returned (.string x91) ∧ Below W.heap.size W w') := hide fun W b => H91.out.symm ▸ shRun_bad5 s4 W [117, 110, 114, 97, 119] [120, 65, 65] true (by omega) (by decide) (cut_of d4 (by decide)) rfl bytes_AA (HG.out W b)
        have c0 := word_no (l := [97, 99, 99, 101, 112, 116]) (by rw [h7]; decide)
        have c1 := word_no (l := [114, 117, 110]) (by rw [h7]; decide)
        have c2 := word_no (l := [103, 122, 105, 112]) (by rw [h7]; decide)
        have c3 := word_no (l := [122, 108, 105, 98]) (by rw [h7]; decide)
        have c4 := word_no (l := [114, 97, 119]) (by rw [h7]; decide)
        have c5 := word_no (l := [103, 117, 110, 122, 105, 112]) (by rw [h7]; decide)
        have c6 := word_no (l := [117, 110, 122, 108, 105, 98]) (by rw [h7]; decide)
        have c7 := word_yes h7
        clear d2 d3 d4 h7 l_s1 l_s3 l_s4
        go_wp2_with fail
        refine (Q1.out wr t1).mono ?_
        rintro e v1 ⟨rfl, a1⟩
        have t2 := (t1).trans (a1.mono (SZ.out _ t1))
        go_wp2_with fail
        refine (Q2.out v1 t2).mono ?_
        rintro e v2 ⟨rfl, a2⟩
        have t3 := (t2).trans (a2.mono (SZ.out _ t2))
        go_wp2_with fail
        refine (Q3.out v2 t3).mono ?_
        rintro e v3 ⟨rfl, a3⟩
        have t4 := (t3).trans (a3.mono (SZ.out _ t3))
        go_wp2_with fail
        go_ret
        rw [hg]
        exact ⟨rfl, t4⟩
      by_cases h8 : word.data.toList = [99, 114, 99]
      · have l_s1 : (⟨#[10, 121]⟩ : ByteArray).size = 2 := rfl
        obtain ⟨s1, hs1⟩ : ∃ z : ByteArray, (word : ByteArray) ++ ⟨#[10, 121]⟩ = z := ⟨_, rfl⟩
        have zs1 : s1.size ≤ 52 := by rw [← hs1, ByteArray.size_append]; omega
        have ks1 : ¬ (9223372036854775807 < word.size + 2) := by omega
        obtain ⟨s2, hs2⟩ : ∃ z : ByteArray, (s1 : ByteArray) ++ text = z := ⟨_, rfl⟩
        have zs2 : s2.size ≤ 352 := by rw [← hs2, ByteArray.size_append]; omega
        have ks2 : ¬ (9223372036854775807 < s1.size + text.size) := by omega
        have l_s3 : (⟨#[10, 120, 48]⟩ : ByteArray).size = 3 := rfl
        obtain ⟨s3, hs3⟩ : ∃ z : ByteArray, (word : ByteArray) ++ ⟨#[10, 120, 48]⟩ = z := ⟨_, rfl⟩
        have zs3 : s3.size ≤ 53 := by rw [← hs3, ByteArray.size_append]; omega
        have ks3 : ¬ (9223372036854775807 < word.size + 3) := by omega
        have l_s4 : (⟨#[10, 120, 65, 65]⟩ : ByteArray).size = 4 := rfl
        obtain ⟨s4, hs4⟩ : ∃ z : ByteArray, (word : ByteArray) ++ ⟨#[10, 120, 65, 65]⟩ = z := ⟨_, rfl⟩
        have zs4 : s4.size ≤ 54 := by rw [← hs4, ByteArray.size_append]; omega
        have ks4 : ¬ (9223372036854775807 < word.size + 4) := by omega
        have d2 : s2.data.toList = [99, 114, 99] ++ 10 :: (121 :: text.data.toList) := by rw [← hs2, ← hs1, ByteArray.data_append, Array.toList_append, ByteArray.data_append, Array.toList_append, h8]; rfl
        have d3 : s3.data.toList = [99, 114, 99] ++ 10 :: [120, 48] := by rw [← hs3, ByteArray.data_append, Array.toList_append, h8]
        have d4 : s4.data.toList = [99, 114, 99] ++ 10 :: [120, 65, 65] := by rw [← hs4, ByteArray.data_append, Array.toList_append, h8]
        have Q1 : Hid (∀ W (b : Below g w W), Calls Tryz.prog 12 #[.string s2] W fun e w' => e = .returned (.string x91) ∧ Below W.heap.size W w') := hide fun W b => H91.out.symm ▸ shRun_bad6 s2 W [99, 114, 99] (121 :: text.data.toList) true (by omega) (by rw [List.length_cons, size_len]; omega) (cut_of d2 (by decide)) rfl (trim_y _) (HG.out W b)
        have Q2 : Hid (∀ W (b : Below g w W), Calls Tryz.prog 12 #[.string s3] W fun e w' => e = .returned (.string x91) ∧ Below W.heap.size W w') := hide fun W b => H91.out.symm ▸ shRun_bad6 s3 W [99, 114, 99] [120, 48] true (by omega) (by decide) (cut_of d3 (by decide)) rfl bytes_odd (HG.out W b)
        have Q3 : Hid (∀ W (b : Below g w W), Calls Tryz.prog 12 #[.string s4] W fun e w' => e = .returned (.string x91) ∧ Below W.heap.size W w') := hide fun W b => H91.out.symm ▸ shRun_bad6 s4 W [99, 114, 99] [120, 65, 65] true (by omega) (by decide) (cut_of d4 (by decide)) rfl bytes_AA (HG.out W b)
        have c0 := word_no (l := [97, 99, 99, 101, 112, 116]) (by rw [h8]; decide)
        have c1 := word_no (l := [114, 117, 110]) (by rw [h8]; decide)
        have c2 := word_no (l := [103, 122, 105, 112]) (by rw [h8]; decide)
        have c3 := word_no (l := [122, 108, 105, 98]) (by rw [h8]; decide)
        have c4 := word_no (l := [114, 97, 119]) (by rw [h8]; decide)
        have c5 := word_no (l := [103, 117, 110, 122, 105, 112]) (by rw [h8]; decide)
        have c6 := word_no (l := [117, 110, 122, 108, 105, 98]) (by rw [h8]; decide)
        have c7 := word_no (l := [117, 110, 114, 97, 119]) (by rw [h8]; decide)
        have c8 := word_yes h8
        clear d2 d3 d4 h8 l_s1 l_s3 l_s4
        go_wp2_with fail
        refine (Q1.out wr t1).mono ?_
        rintro e v1 ⟨rfl, a1⟩
        have t2 := (t1).trans (a1.mono (SZ.out _ t1))
        go_wp2_with fail
        refine (Q2.out v1 t2).mono ?_
        rintro e v2 ⟨rfl, a2⟩
        have t3 := (t2).trans (a2.mono (SZ.out _ t2))
        go_wp2_with fail
        refine (Q3.out v2 t3).mono ?_
        rintro e v3 ⟨rfl, a3⟩
        have t4 := (t3).trans (a3.mono (SZ.out _ t3))
        go_wp2_with fail
        go_ret
        rw [hg]
        exact ⟨rfl, t4⟩
      by_cases h9 : word.data.toList = [97, 100, 108, 101, 114]
      · have l_s1 : (⟨#[10, 121]⟩ : ByteArray).size = 2 := rfl
        obtain ⟨s1, hs1⟩ : ∃ z : ByteArray, (word : ByteArray) ++ ⟨#[10, 121]⟩ = z := ⟨_, rfl⟩
        have zs1 : s1.size ≤ 52 := by rw [← hs1, ByteArray.size_append]; omega
        have ks1 : ¬ (9223372036854775807 < word.size + 2) := by omega
        obtain ⟨s2, hs2⟩ : ∃ z : ByteArray, (s1 : ByteArray) ++ text = z := ⟨_, rfl⟩
        have zs2 : s2.size ≤ 352 := by rw [← hs2, ByteArray.size_append]; omega
        have ks2 : ¬ (9223372036854775807 < s1.size + text.size) := by omega
        have l_s3 : (⟨#[10, 120, 48]⟩ : ByteArray).size = 3 := rfl
        obtain ⟨s3, hs3⟩ : ∃ z : ByteArray, (word : ByteArray) ++ ⟨#[10, 120, 48]⟩ = z := ⟨_, rfl⟩
        have zs3 : s3.size ≤ 53 := by rw [← hs3, ByteArray.size_append]; omega
        have ks3 : ¬ (9223372036854775807 < word.size + 3) := by omega
        have l_s4 : (⟨#[10, 120, 65, 65]⟩ : ByteArray).size = 4 := rfl
        obtain ⟨s4, hs4⟩ : ∃ z : ByteArray, (word : ByteArray) ++ ⟨#[10, 120, 65, 65]⟩ = z := ⟨_, rfl⟩
        have zs4 : s4.size ≤ 54 := by rw [← hs4, ByteArray.size_append]; omega
        have ks4 : ¬ (9223372036854775807 < word.size + 4) := by omega
        have d2 : s2.data.toList = [97, 100, 108, 101, 114] ++ 10 :: (121 :: text.data.toList) := by rw [← hs2, ← hs1, ByteArray.data_append, Array.toList_append, ByteArray.data_append, Array.toList_append, h9]; rfl
        have d3 : s3.data.toList = [97, 100, 108, 101, 114] ++ 10 :: [120, 48] := by rw [← hs3, ByteArray.data_append, Array.toList_append, h9]
        have d4 : s4.data.toList = [97, 100, 108, 101, 114] ++ 10 :: [120, 65, 65] := by rw [← hs4, ByteArray.data_append, Array.toList_append, h9]
        have Q1 : Hid (∀ W (b : Below g w W), Calls Tryz.prog 12 #[.string s2] W fun e w' => e = .returned (.string x91) ∧ Below W.heap.size W w') := hide fun W b => H91.out.symm ▸ shRun_bad7 s2 W [97, 100, 108, 101, 114] (121 :: text.data.toList) true (by omega) (by rw [List.length_cons, size_len]; omega) (cut_of d2 (by decide)) rfl (trim_y _) (HG.out W b)
        have Q2 : Hid (∀ W (b : Below g w W), Calls Tryz.prog 12 #[.string s3] W fun e w' => e = .returned (.string x91) ∧ Below W.heap.size W w') := hide fun W b => H91.out.symm ▸ shRun_bad7 s3 W [97, 100, 108, 101, 114] [120, 48] true (by omega) (by decide) (cut_of d3 (by decide)) rfl bytes_odd (HG.out W b)
        have Q3 : Hid (∀ W (b : Below g w W), Calls Tryz.prog 12 #[.string s4] W fun e w' => e = .returned (.string x91) ∧ Below W.heap.size W w') := hide fun W b => H91.out.symm ▸ shRun_bad7 s4 W [97, 100, 108, 101, 114] [120, 65, 65] true (by omega) (by decide) (cut_of d4 (by decide)) rfl bytes_AA (HG.out W b)
        have c0 := word_no (l := [97, 99, 99, 101, 112, 116]) (by rw [h9]; decide)
        have c1 := word_no (l := [114, 117, 110]) (by rw [h9]; decide)
        have c2 := word_no (l := [103, 122, 105, 112]) (by rw [h9]; decide)
        have c3 := word_no (l := [122, 108, 105, 98]) (by rw [h9]; decide)
        have c4 := word_no (l := [114, 97, 119]) (by rw [h9]; decide)
        have c5 := word_no (l := [103, 117, 110, 122, 105, 112]) (by rw [h9]; decide)
        have c6 := word_no (l := [117, 110, 122, 108, 105, 98]) (by rw [h9]; decide)
        have c7 := word_no (l := [117, 110, 114, 97, 119]) (by rw [h9]; decide)
        have c8 := word_no (l := [99, 114, 99]) (by rw [h9]; decide)
        have c9 := word_yes h9
        clear d2 d3 d4 h9 l_s1 l_s3 l_s4
        go_wp2_with fail
        refine (Q1.out wr t1).mono ?_
        rintro e v1 ⟨rfl, a1⟩
        have t2 := (t1).trans (a1.mono (SZ.out _ t1))
        go_wp2_with fail
        refine (Q2.out v1 t2).mono ?_
        rintro e v2 ⟨rfl, a2⟩
        have t3 := (t2).trans (a2.mono (SZ.out _ t2))
        go_wp2_with fail
        refine (Q3.out v2 t3).mono ?_
        rintro e v3 ⟨rfl, a3⟩
        have t4 := (t3).trans (a3.mono (SZ.out _ t3))
        go_wp2_with fail
        go_ret
        rw [hg]
        exact ⟨rfl, t4⟩
      have l_s1 : (⟨#[10]⟩ : ByteArray).size = 1 := rfl
      obtain ⟨s1, hs1⟩ : ∃ z : ByteArray, (word : ByteArray) ++ ⟨#[10]⟩ = z := ⟨_, rfl⟩
      have zs1 : s1.size ≤ 51 := by rw [← hs1, ByteArray.size_append]; omega
      have ks1 : ¬ (9223372036854775807 < word.size + 1) := by omega
      obtain ⟨s2, hs2⟩ : ∃ z : ByteArray, (s1 : ByteArray) ++ text = z := ⟨_, rfl⟩
      have zs2 : s2.size ≤ 351 := by rw [← hs2, ByteArray.size_append]; omega
      have ks2 : ¬ (9223372036854775807 < s1.size + text.size) := by omega
      have d2 : s2.data.toList = word.data.toList ++ 10 :: text.data.toList := by rw [← hs2, ← hs1, ByteArray.data_append, Array.toList_append, ByteArray.data_append, Array.toList_append, List.append_assoc]; rfl
      have hne : ∀ x ∈ shWords, word.data.toList ≠ x := by
        intro x hx
        simp only [shWords, List.mem_cons, List.not_mem_nil, or_false] at hx
        rcases hx with rfl | rfl | rfl | rfl | rfl | rfl | rfl | rfl | rfl | rfl
        · exact h2
        · exact h3
        · exact h4
        · exact h5
        · exact h6
        · exact h7
        · exact h8
        · exact h9
        · exact h0
        · exact h1
      have Q1 : Hid (∀ W (b : Below g w W), Calls Tryz.prog 12 #[.string s2] W fun e w' => e = .returned (.string x0) ∧ Below W.heap.size W w') := hide fun W b => H0.out.symm ▸ shRun_none s2 W word.data.toList text.data.toList true (by omega) (cut_of d2 HN.out) hne (HG.out W b)
      have Q2 : Hid (∀ W (b : Below g w W), Calls Tryz.prog 12 #[.string word] W fun e w' => e = .returned (.string x0) ∧ Below W.heap.size W w') := hide fun W b => H0.out.symm ▸ shRun_none word W word.data.toList [] false (by omega) (cut_miss HN.out) hne (HG.out W b)
      have c0 := word_no (l := [97, 99, 99, 101, 112, 116]) h0
      have c1 := word_no (l := [114, 117, 110]) h1
      have c2 := word_no (l := [103, 122, 105, 112]) h2
      have c3 := word_no (l := [122, 108, 105, 98]) h3
      have c4 := word_no (l := [114, 97, 119]) h4
      have c5 := word_no (l := [103, 117, 110, 122, 105, 112]) h5
      have c6 := word_no (l := [117, 110, 122, 108, 105, 98]) h6
      have c7 := word_no (l := [117, 110, 114, 97, 119]) h7
      have c8 := word_no (l := [99, 114, 99]) h8
      have c9 := word_no (l := [97, 100, 108, 101, 114]) h9
      clear d2 hne l_s1 h0 h1 h2 h3 h4 h5 h6 h7 h8 h9
      go_wp2_with fail
      refine (Q1.out wr t1).mono ?_
      rintro e v1 ⟨rfl, a1⟩
      have t2 := (t1).trans (a1.mono (SZ.out _ t1))
      go_wp2_with fail
      refine (Q2.out v1 t2).mono ?_
      rintro e v2 ⟨rfl, a2⟩
      have t3 := (t2).trans (a2.mono (SZ.out _ t2))
      go_wp2_with fail
      go_ret
      rw [hg]
      exact ⟨rfl, t3⟩
/-- The settled world that the card begins from. -/
noncomputable def laidWorld (os : Os) : World := laidWorld8 os
end Go.Proofs.YtbplnglmjcmfiaaGreatDoor.ShellWrongP
