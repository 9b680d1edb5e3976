/- chunk.size. -/
import Derived.Test.YtdpcncpfbaigeaaDoorDecSpec
import Derived.Test.YtdpcncpfbaigeaaDoorTrim
import Derived.Deep.DeepCutAuto
namespace Go.Proofs.YtdpcncpfbaigeaaDoor
open Go.RowKit

def hexS : ByteArray := ⟨#[48, 49, 50, 51, 52, 53, 54, 55, 56, 57, 97, 98, 99, 100, 101, 102, 65, 66, 67, 68, 69, 70]⟩
theorem hexix_all : ∀ c : Fin 256, decide (0 ≤ Lib.indexByte hexS.data.toList (UInt8.ofNat c.val)) = hexB (UInt8.ofNat c.val) := by decide +kernel
theorem hexix (c : UInt8) : decide (0 ≤ Lib.indexByte hexS.data.toList c) = hexB c := by
  have := hexix_all ⟨c.toNat, c.toNat_lt⟩
  rwa [show UInt8.ofNat c.toNat = c by simp] at this
theorem gvx_any (s : ByteArray) (k : Nat) (w : World) (hs : s.size ≤ 2000) :
    Calls Tryd.prog 48 #[.string (⟨#[120]⟩ ++ s.extract k s.size ++ ⟨#[120]⟩ : ByteArray)] w fun e w' => e = .returned (.bool (goodValueL ([120] ++ s.data.toList.drop k ++ [120]))) ∧ Below w.heap.size w w' := by
  obtain ⟨x, hx⟩ : ∃ x : ByteArray, x = (⟨#[120]⟩ ++ s.extract k s.size ++ ⟨#[120]⟩ : ByteArray) := ⟨_, rfl⟩
  have hl : x.data.toList = [120] ++ s.data.toList.drop k ++ [120] := by
    have hex : (s.extract k s.size).data.toList = s.data.toList.drop k := by
      rw [extract_list, List.take_of_length_le]
      exact Nat.le_of_eq (size_of s).symm
    rw [hx]
    rw [ByteArray.data_append, ByteArray.data_append, Array.toList_append, Array.toList_append, hex]
  have hz : x.size ≤ 140737488355328 := by
    rw [size_of, hl]
    have := size_of s
    simp
    omega
  rw [← hx, ← hl]
  exact goodValue_any x w hz
set_option maxRecDepth 100000 in
set_option maxHeartbeats 3200000 in
theorem decsize_any (s : ByteArray) (w : World) (hs : s.size ≤ 2000) :
    Calls Tryd.prog 44 #[.string s] w fun e w' => ∃ v : Int, e = .returned (.tuple #[.int .i64 v, .bool (sizeOk s.data.toList)]) ∧ (sizeOk s.data.toList = true → v = sizeN s.data.toList) ∧ Below w.heap.size w w' := by
  obtain ⟨ok, hok⟩ : ∃ b, b = sizeOk s.data.toList := ⟨_, rfl⟩
  obtain ⟨N, hN⟩ : ∃ b, b = sizeN s.data.toList := ⟨_, rfl⟩
  rw [← hok, ← hN]
  have HOK := hide hok
  have HN := hide hN
  clear hok hN
  have hsl := size_of s
  have HSL := hide hsl
  clear hsl
  go_enter Tryd.func44, Tryd.ntmps44
  go_wp2_with fail
  go_loopw [4] (fun i wr => ∃ k : Nat, k ≤ s.size ∧ i = .int .i64 k ∧ (∀ j (hj : j < s.data.toList.length), j < k → hexB s.data.toList[j] = true) ∧ wr = w) (fun i _ => s.size - (intOf i).toNat)
  case atStart => exact ⟨0, Nat.zero_le _, rfl, fun j hj h => absurd h (Nat.not_lt_zero _), rfl⟩
  case round =>
    obtain ⟨k, hk, rfl, ha, rfl⟩ := hrel
    have HA := hide ha
    clear ha
    by_cases hlt : k < s.size
    · have hq := Tryd.strings_IndexByte hexS (s[k].toNat : Int) wr
      have hx := hexix s[k]
      have hgx : s.data.toList[k]? = some s[k] := get_toList s k hlt
      have hdc := drop_cons s k hlt
      obtain ⟨x, hxx⟩ : ∃ x, s[k] = x := ⟨_, rfl⟩
      rw [hxx] at hq hx hgx hdc
      rw [show ((x.toNat : Int).toNat.toUInt8) = x by simp] at hq
      obtain ⟨r, hr⟩ : ∃ r, r = Lib.indexByte hexS.data.toList x := ⟨_, rfl⟩
      rw [← hr] at hq hx
      unfold hexS at hq
      have HDC := hide hdc
      have HGX := hide hgx
      clear hr hdc hgx
      rcases hhex : hexB x with _ | _
      · rw [hhex, decide_eq_false_iff_not] at hx
        have hK : sizeK s.data.toList = k := sizeK_at HA.out (by rw [← size_of]; exact hk) (fun hj => by
          have h1 := HGX.out
          rw [List.getElem?_eq_getElem hj] at h1
          rw [Option.some.inj h1]; exact hhex)
        clear hhex
        by_cases h59 : x = 59
        · subst h59
          have hExt : extOk (s.data.toList.drop k) = true := by rw [HDC.out]; rfl
          have gv := fun w => gvx_any s k w hs
          have hxsz : (s.extract k s.size).size ≤ 2000 := by rw [ByteArray.size_extract]; omega
          have y1 : ¬ 9223372036854775807 < 1 + (s.extract k s.size).size := by omega
          have y2 : ¬ 9223372036854775807 < 1 + (s.extract k s.size).size + 1 := by omega
          have hok : ok = (decide (1 ≤ k ∧ k ≤ 12) && (goodValueL ([120] ++ s.data.toList.drop k ++ [120]) && decide (N ≤ 1099511627776))) := by
            rw [HOK.out, HN.out]; unfold sizeOk sizeR; rw [hK, hExt]; rfl
          have HOK2 := hide hok
          obtain ⟨xs, hxs⟩ : ∃ b, b = s.extract k s.size := ⟨_, rfl⟩
          by_cases hk12 : 1 ≤ k ∧ k ≤ 12
          · have i1 : ¬ ((k : Int) < 1) := by omega
            have i2 : ¬ ((12 : Int) < k) := by omega
            rcases hgv : goodValueL ([120] ++ s.data.toList.drop k ++ [120]) with _ | _
            · rw [hgv] at gv hok
              have HF := hide (show ok = false by rw [hok]; simp)
              clear hok hgv hxs
              go_wp2_with fail
              refine hq.mono ?_
              rintro e w0 ⟨rfl, rfl⟩
              clear hq
              go_wp2_with fail
              refine (gv _).mono ?_
              rintro e w1 ⟨rfl, b1⟩
              clear gv
              go_wp2_with fail
              go_ret2
              obtain rfl := HF.out
              exact ⟨0, rfl, (fun h => by cases h), b1⟩
            · rw [hgv] at gv hok
              have hp0 : (s.extract 0 k).data.toList = s.data.toList.take (sizeK s.data.toList) := by rw [extract_list, hK]; simp
              have hpz : (s.extract 0 k).size = k := by rw [ByteArray.size_extract]; omega
              have ph := fun w => parsehex63 (s.extract 0 k) w (by omega) (by rw [hp0]; exact size_hex _) (by omega)
              have hN1 : N = hexN (s.extract 0 k).data.toList := by rw [HN.out, hp0]; rfl
              have h1 := hexN_lt k (s.data.toList.take k) (by have := size_hex s.data.toList; rwa [hK] at this) (by rw [List.length_take, ← size_of]; omega)
              rw [List.take_take, Nat.min_self] at h1
              have h2 : 16 ^ k ≤ 16 ^ 12 := Nat.pow_le_pow_right (by decide) hk12.2
              have hltN : N < 16 ^ 12 := by rw [HN.out]; unfold sizeN; rw [hK]; exact Nat.lt_of_lt_of_le h1 h2
              rw [← hN1] at ph
              have w1' : IntKind.i64.wrap (N : Int) = (N : Int) := by rw [IntKind.wrap_i64]; omega
              have HF := hide (show ok = decide (N ≤ 1099511627776) by rw [hok, decide_eq_true hk12]; simp)
              clear hok hgv hxs hN1 hp0 hltN h1 h2
              go_wp2_with fail
              refine hq.mono ?_
              rintro e w0 ⟨rfl, rfl⟩
              clear hq
              go_wp2_with fail
              refine (gv _).mono ?_
              rintro e w1 ⟨rfl, b1⟩
              clear gv
              go_wp2_with fail
              refine (ph w1).mono ?_
              rintro e w2 ⟨rfl, b2⟩
              have t2 := b1.trans (b2.mono b1.size)
              clear ph
              go_wp2_with fail
              go_ret2
              refine ⟨N, ?_, (fun _ => rfl), t2⟩
              rw [HF.out]
              first | (simp; done) | (simp; omega)
          · have HF := hide (show ok = false by rw [hok, decide_eq_false hk12]; rfl)
            clear hok gv hxs
            by_cases hk1 : k < 1
            · have i1 : ((k : Int) < 1) := by omega
              clear hk12
              go_wp2_with fail
              refine hq.mono ?_
              rintro e w0 ⟨rfl, rfl⟩
              clear hq
              go_wp2_with fail
              go_ret2
              obtain rfl := HF.out
              exact ⟨0, rfl, (fun h => by cases h), Below.refl _ _⟩
            · have i1 : ¬ ((k : Int) < 1) := by omega
              have i2 : ((12 : Int) < k) := by omega
              clear hk12 hk1
              go_wp2_with fail
              refine hq.mono ?_
              rintro e w0 ⟨rfl, rfl⟩
              clear hq
              go_wp2_with fail
              go_ret2
              obtain rfl := HF.out
              exact ⟨0, rfl, (fun h => by cases h), Below.refl _ _⟩
        by_cases h32 : x = 32
        · subst h32
          have hExt : extOk (s.data.toList.drop k) = true := by rw [HDC.out]; rfl
          have gv := fun w => gvx_any s k w hs
          have hxsz : (s.extract k s.size).size ≤ 2000 := by rw [ByteArray.size_extract]; omega
          have y1 : ¬ 9223372036854775807 < 1 + (s.extract k s.size).size := by omega
          have y2 : ¬ 9223372036854775807 < 1 + (s.extract k s.size).size + 1 := by omega
          have hok : ok = (decide (1 ≤ k ∧ k ≤ 12) && (goodValueL ([120] ++ s.data.toList.drop k ++ [120]) && decide (N ≤ 1099511627776))) := by
            rw [HOK.out, HN.out]; unfold sizeOk sizeR; rw [hK, hExt]; rfl
          have HOK2 := hide hok
          obtain ⟨xs, hxs⟩ : ∃ b, b = s.extract k s.size := ⟨_, rfl⟩
          by_cases hk12 : 1 ≤ k ∧ k ≤ 12
          · have i1 : ¬ ((k : Int) < 1) := by omega
            have i2 : ¬ ((12 : Int) < k) := by omega
            rcases hgv : goodValueL ([120] ++ s.data.toList.drop k ++ [120]) with _ | _
            · rw [hgv] at gv hok
              have HF := hide (show ok = false by rw [hok]; simp)
              clear hok hgv hxs
              go_wp2_with fail
              refine hq.mono ?_
              rintro e w0 ⟨rfl, rfl⟩
              clear hq
              go_wp2_with fail
              refine (gv _).mono ?_
              rintro e w1 ⟨rfl, b1⟩
              clear gv
              go_wp2_with fail
              go_ret2
              obtain rfl := HF.out
              exact ⟨0, rfl, (fun h => by cases h), b1⟩
            · rw [hgv] at gv hok
              have hp0 : (s.extract 0 k).data.toList = s.data.toList.take (sizeK s.data.toList) := by rw [extract_list, hK]; simp
              have hpz : (s.extract 0 k).size = k := by rw [ByteArray.size_extract]; omega
              have ph := fun w => parsehex63 (s.extract 0 k) w (by omega) (by rw [hp0]; exact size_hex _) (by omega)
              have hN1 : N = hexN (s.extract 0 k).data.toList := by rw [HN.out, hp0]; rfl
              have h1 := hexN_lt k (s.data.toList.take k) (by have := size_hex s.data.toList; rwa [hK] at this) (by rw [List.length_take, ← size_of]; omega)
              rw [List.take_take, Nat.min_self] at h1
              have h2 : 16 ^ k ≤ 16 ^ 12 := Nat.pow_le_pow_right (by decide) hk12.2
              have hltN : N < 16 ^ 12 := by rw [HN.out]; unfold sizeN; rw [hK]; exact Nat.lt_of_lt_of_le h1 h2
              rw [← hN1] at ph
              have w1' : IntKind.i64.wrap (N : Int) = (N : Int) := by rw [IntKind.wrap_i64]; omega
              have HF := hide (show ok = decide (N ≤ 1099511627776) by rw [hok, decide_eq_true hk12]; simp)
              clear hok hgv hxs hN1 hp0 hltN h1 h2
              go_wp2_with fail
              refine hq.mono ?_
              rintro e w0 ⟨rfl, rfl⟩
              clear hq
              go_wp2_with fail
              refine (gv _).mono ?_
              rintro e w1 ⟨rfl, b1⟩
              clear gv
              go_wp2_with fail
              refine (ph w1).mono ?_
              rintro e w2 ⟨rfl, b2⟩
              have t2 := b1.trans (b2.mono b1.size)
              clear ph
              go_wp2_with fail
              go_ret2
              refine ⟨N, ?_, (fun _ => rfl), t2⟩
              rw [HF.out]
              first | (simp; done) | (simp; omega)
          · have HF := hide (show ok = false by rw [hok, decide_eq_false hk12]; rfl)
            clear hok gv hxs
            by_cases hk1 : k < 1
            · have i1 : ((k : Int) < 1) := by omega
              clear hk12
              go_wp2_with fail
              refine hq.mono ?_
              rintro e w0 ⟨rfl, rfl⟩
              clear hq
              go_wp2_with fail
              go_ret2
              obtain rfl := HF.out
              exact ⟨0, rfl, (fun h => by cases h), Below.refl _ _⟩
            · have i1 : ¬ ((k : Int) < 1) := by omega
              have i2 : ((12 : Int) < k) := by omega
              clear hk12 hk1
              go_wp2_with fail
              refine hq.mono ?_
              rintro e w0 ⟨rfl, rfl⟩
              clear hq
              go_wp2_with fail
              go_ret2
              obtain rfl := HF.out
              exact ⟨0, rfl, (fun h => by cases h), Below.refl _ _⟩
        by_cases h9 : x = 9
        · subst h9
          have hExt : extOk (s.data.toList.drop k) = true := by rw [HDC.out]; rfl
          have gv := fun w => gvx_any s k w hs
          have hxsz : (s.extract k s.size).size ≤ 2000 := by rw [ByteArray.size_extract]; omega
          have y1 : ¬ 9223372036854775807 < 1 + (s.extract k s.size).size := by omega
          have y2 : ¬ 9223372036854775807 < 1 + (s.extract k s.size).size + 1 := by omega
          have hok : ok = (decide (1 ≤ k ∧ k ≤ 12) && (goodValueL ([120] ++ s.data.toList.drop k ++ [120]) && decide (N ≤ 1099511627776))) := by
            rw [HOK.out, HN.out]; unfold sizeOk sizeR; rw [hK, hExt]; rfl
          have HOK2 := hide hok
          obtain ⟨xs, hxs⟩ : ∃ b, b = s.extract k s.size := ⟨_, rfl⟩
          by_cases hk12 : 1 ≤ k ∧ k ≤ 12
          · have i1 : ¬ ((k : Int) < 1) := by omega
            have i2 : ¬ ((12 : Int) < k) := by omega
            rcases hgv : goodValueL ([120] ++ s.data.toList.drop k ++ [120]) with _ | _
            · rw [hgv] at gv hok
              have HF := hide (show ok = false by rw [hok]; simp)
              clear hok hgv hxs
              go_wp2_with fail
              refine hq.mono ?_
              rintro e w0 ⟨rfl, rfl⟩
              clear hq
              go_wp2_with fail
              refine (gv _).mono ?_
              rintro e w1 ⟨rfl, b1⟩
              clear gv
              go_wp2_with fail
              go_ret2
              obtain rfl := HF.out
              exact ⟨0, rfl, (fun h => by cases h), b1⟩
            · rw [hgv] at gv hok
              have hp0 : (s.extract 0 k).data.toList = s.data.toList.take (sizeK s.data.toList) := by rw [extract_list, hK]; simp
              have hpz : (s.extract 0 k).size = k := by rw [ByteArray.size_extract]; omega
              have ph := fun w => parsehex63 (s.extract 0 k) w (by omega) (by rw [hp0]; exact size_hex _) (by omega)
              have hN1 : N = hexN (s.extract 0 k).data.toList := by rw [HN.out, hp0]; rfl
              have h1 := hexN_lt k (s.data.toList.take k) (by have := size_hex s.data.toList; rwa [hK] at this) (by rw [List.length_take, ← size_of]; omega)
              rw [List.take_take, Nat.min_self] at h1
              have h2 : 16 ^ k ≤ 16 ^ 12 := Nat.pow_le_pow_right (by decide) hk12.2
              have hltN : N < 16 ^ 12 := by rw [HN.out]; unfold sizeN; rw [hK]; exact Nat.lt_of_lt_of_le h1 h2
              rw [← hN1] at ph
              have w1' : IntKind.i64.wrap (N : Int) = (N : Int) := by rw [IntKind.wrap_i64]; omega
              have HF := hide (show ok = decide (N ≤ 1099511627776) by rw [hok, decide_eq_true hk12]; simp)
              clear hok hgv hxs hN1 hp0 hltN h1 h2
              go_wp2_with fail
              refine hq.mono ?_
              rintro e w0 ⟨rfl, rfl⟩
              clear hq
              go_wp2_with fail
              refine (gv _).mono ?_
              rintro e w1 ⟨rfl, b1⟩
              clear gv
              go_wp2_with fail
              refine (ph w1).mono ?_
              rintro e w2 ⟨rfl, b2⟩
              have t2 := b1.trans (b2.mono b1.size)
              clear ph
              go_wp2_with fail
              go_ret2
              refine ⟨N, ?_, (fun _ => rfl), t2⟩
              rw [HF.out]
              first | (simp; done) | (simp; omega)
          · have HF := hide (show ok = false by rw [hok, decide_eq_false hk12]; rfl)
            clear hok gv hxs
            by_cases hk1 : k < 1
            · have i1 : ((k : Int) < 1) := by omega
              clear hk12
              go_wp2_with fail
              refine hq.mono ?_
              rintro e w0 ⟨rfl, rfl⟩
              clear hq
              go_wp2_with fail
              go_ret2
              obtain rfl := HF.out
              exact ⟨0, rfl, (fun h => by cases h), Below.refl _ _⟩
            · have i1 : ¬ ((k : Int) < 1) := by omega
              have i2 : ((12 : Int) < k) := by omega
              clear hk12 hk1
              go_wp2_with fail
              refine hq.mono ?_
              rintro e w0 ⟨rfl, rfl⟩
              clear hq
              go_wp2_with fail
              go_ret2
              obtain rfl := HF.out
              exact ⟨0, rfl, (fun h => by cases h), Below.refl _ _⟩
        have hExt : extOk (s.data.toList.drop k) = false := by rw [HDC.out]; simp [extOk, extB, h59, h32, h9]
        have HF := hide (show ok = false by rw [HOK.out]; unfold sizeOk sizeR; rw [hK, hExt]; rfl)
        have n1 : ((x.toNat : Int) != 59) = true := by rw [bne_iff_ne]; intro h; exact h59 (UInt8.toNat_inj.1 (by simp; omega))
        have n2 : ((x.toNat : Int) != 32) = true := by rw [bne_iff_ne]; intro h; exact h32 (UInt8.toNat_inj.1 (by simp; omega))
        have n3 : ((x.toNat : Int) != 9) = true := by rw [bne_iff_ne]; intro h; exact h9 (UInt8.toNat_inj.1 (by simp; omega))
        clear h59 h32 h9 hExt hK
        go_wp2_with fail
        refine hq.mono ?_
        rintro e w1 ⟨rfl, rfl⟩
        clear hq
        go_wp2_with fail
        go_ret2
        obtain rfl := HF.out
        exact ⟨0, rfl, (fun h => by cases h), Below.refl _ _⟩
      · rw [hhex, decide_eq_true_eq] at hx
        have HH := hide hhex
        clear hhex
        go_wp2_with fail
        refine hq.mono ?_
        rintro e w1 ⟨rfl, rfl⟩
        clear hq
        go_wp2_with fail
        go_roundw
        case rel =>
          refine ⟨k + 1, by omega, by go_num, fun j hj h => ?_, trivial⟩
          rcases Nat.lt_or_ge j k with h1 | h1
          · exact HA.out j hj h1
          · obtain rfl : j = k := by omega
            have h2 := HGX.out
            rw [List.getElem?_eq_getElem hj] at h2
            rw [Option.some.inj h2]; exact HH.out
        case measure => simp [intOf]; omega
    · have hkn : k = s.size := by omega
      have hK : sizeK s.data.toList = k := sizeK_at HA.out (by rw [← size_of]; exact hk) (fun hj => by rw [← size_of] at hj; omega)
      have hExt : extOk (s.data.toList.drop k) = true := by rw [drop_all s k (by omega)]; rfl
      have gv := fun w => goodValue_any (⟨#[120]⟩ ++ ⟨#[120]⟩ : ByteArray) w (by decide)
      rw [show goodValueL (⟨#[120]⟩ ++ ⟨#[120]⟩ : ByteArray).data.toList = true by decide] at gv
      have hgv : goodValueL ([120] ++ s.data.toList.drop k ++ [120]) = true := by rw [drop_all s k (by omega)]; decide
      have hok : ok = (decide (1 ≤ k ∧ k ≤ 12) && (goodValueL ([120] ++ s.data.toList.drop k ++ [120]) && decide (N ≤ 1099511627776))) := by
        rw [HOK.out, HN.out]; unfold sizeOk sizeR; rw [hK, hExt]; rfl
      have HOK2 := hide hok
      by_cases hk12 : 1 ≤ k ∧ k ≤ 12
      · have i1 : ¬ ((k : Int) < 1) := by omega
        have i2 : ¬ ((12 : Int) < k) := by omega
        · rw [hgv] at hok
          have hp0 : s.data.toList = s.data.toList.take (sizeK s.data.toList) := by rw [hK, take_all s k (by omega)]
          have ph := fun w => parsehex63 s w (by omega) (by rw [hp0]; exact size_hex _) (by omega)
          have hN1 : N = hexN s.data.toList := by rw [HN.out]; unfold sizeN; rw [← hp0]
          have h1 := hexN_lt k (s.data.toList.take k) (by have := size_hex s.data.toList; rwa [hK] at this) (by rw [List.length_take, ← size_of]; omega)
          rw [List.take_take, Nat.min_self] at h1
          have h2 : 16 ^ k ≤ 16 ^ 12 := Nat.pow_le_pow_right (by decide) hk12.2
          have hltN : N < 16 ^ 12 := by rw [HN.out]; unfold sizeN; rw [hK]; exact Nat.lt_of_lt_of_le h1 h2
          rw [← hN1] at ph
          have w1' : IntKind.i64.wrap (N : Int) = (N : Int) := by rw [IntKind.wrap_i64]; omega
          have HF := hide (show ok = decide (N ≤ 1099511627776) by rw [hok, decide_eq_true hk12]; simp)
          clear hok hgv hN1 hp0 hltN h1 h2
          go_wp2_with fail
          refine (gv _).mono ?_
          rintro e w1 ⟨rfl, b1⟩
          clear gv
          go_wp2_with fail
          refine (ph w1).mono ?_
          rintro e w2 ⟨rfl, b2⟩
          have t2 := b1.trans (b2.mono b1.size)
          clear ph
          go_wp2_with fail
          go_ret2
          refine ⟨N, ?_, (fun _ => rfl), t2⟩
          rw [HF.out]
          first | (simp; done) | (simp; omega)
      · have HF := hide (show ok = false by rw [hok, decide_eq_false hk12]; rfl)
        clear hok gv
        by_cases hk1 : k < 1
        · have i1 : ((k : Int) < 1) := by omega
          clear hk12
          go_wp2_with fail
          go_ret2
          obtain rfl := HF.out
          exact ⟨0, rfl, (fun h => by cases h), Below.refl _ _⟩
        · have i1 : ¬ ((k : Int) < 1) := by omega
          have i2 : ((12 : Int) < k) := by omega
          clear hk12 hk1
          go_wp2_with fail
          go_ret2
          obtain rfl := HF.out
          exact ⟨0, rfl, (fun h => by cases h), Below.refl _ _⟩
end Go.Proofs.YtdpcncpfbaigeaaDoor
