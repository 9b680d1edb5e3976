/- The reference's words. -/
import Derived.Test.YtijlaclngibekaaGreatDoorKTrimG
import Derived.Test.YtijlaclngibekaaGreatDoorKBase
import Derived.Deep.DeepCutAuto
namespace Go.Proofs.YtijlaclngibekaaGreatDoor
open Go.RowKit
set_option linter.unusedVariables false
set_option linter.unusedSimpArgs false

set_option maxRecDepth 100000 in
set_option maxHeartbeats 3200000 in
theorem refwords_any (s : ByteArray) (m : Nat) (w : World) (hs : s.size ≤ 100000) (hm : m ≤ 100) :
    Calls Tryz.prog 38 #[.string s, .int .i64 ((m : Int) + 1)] w fun e w' => ∃ A c, e = .returned (.slice A (Rl.cutW m s.data.toList).length c) ∧
      w'.ownsRow w.heap.size 9 1 (.slice A (Rl.cutW m s.data.toList).length c) (Rl.cutW m s.data.toList).length (scells (Rl.cutW m s.data.toList)) ∧ Below w.heap.size w w' := by
  obtain ⟨i0, hi0, hz0, hz1, hz2⟩ := info_parts infoStr
  obtain ⟨g, hg⟩ : ∃ g, w.heap.size = g := ⟨_, rfl⟩
  have hm1 : IntKind.i64.wrap ((m : Int) + 1 - 1) = (m : Int) := by rw [IntKind.wrap_i64]; omega
  have hm2 : (m : Int) + 1 - 1 = (m : Int) := by omega
  have hsl : s.data.toList.length = s.size := by rw [Array.length_toList]; rfl
  have HSL := hide hsl
  clear hsl
  go_enter Tryz.func38, Tryz.ntmps38
  go_wp2_with fail
  go_loopw [7, 6, 5] (fun i f o wr => ∃ (k fr : Nat) (done : List (List UInt8)), k ≤ s.size ∧ fr ≤ k ∧ i = .int .i64 k ∧ f = .int .i64 fr ∧ done.length ≤ m ∧ wr.ownsRow g 9 1 o done.length (scells done) ∧ Below g w wr ∧ Hid (Rl.WordI m s.data.toList k fr done)) (fun i _ _ _ => s.size - (intOf i).toNat)
  case atStart => exact ⟨0, 0, [], Nat.zero_le _, Nat.le_refl _, rfl, rfl, Nat.zero_le _, World.ownsRow_nil _ _ _ _, Below.refl _ _, hide (Rl.wordI_0 m _)⟩
  case round =>
    obtain ⟨k, fr, done, hk, hfk, rfl, rfl, hdm, ho, hb, hI⟩ := hrel
    have hbz : g ≤ wr.heap.size := hg ▸ hb.size
    obtain ⟨n, hn⟩ : ∃ n, done.length = n := ⟨_, rfl⟩
    rw [hn] at ho hdm
    obtain ⟨A, c, rfl, hc, -⟩ := own_shape ho
    have HN := hide hn
    clear hn
    by_cases hlt : k < s.size
    · have hlt' : (k : Int) < (s.size : Int) := by omega
      have hkl : k < s.data.toList.length := by rw [HSL.out]; exact hlt
      have hbx : s.data.toList[k] = s[k] := by rw [Array.getElem_toList]; rfl
      by_cases hbl : s[k] = 32
      · have hti : ((s[k].toNat : Nat) : Int) = 32 := by rw [hbl]; rfl
        by_cases hnm : n < m
        · have hnm' : (n : Int) < (m : Int) := by omega
          have hnm1 : (n : Int) < (m : Int) + 1 - 1 := by omega
          have told := hide (Rl.wordI_blank hI.out hkl (hbx.trans hbl) (by rw [HN.out]; exact hnm))
          have hf1 : (fr : Int) ≤ (k : Int) := by omega
          have hk1 : (k : Int) ≤ (s.size : Int) := by omega
          obtain ⟨p, hp⟩ : ∃ p : ByteArray, s.extract fr k = p := ⟨_, rfl⟩
          have hpd : p.data.toList = (s.data.toList.drop fr).take (k - fr) := by rw [← hp, extract_list, List.take_drop]; congr 2; omega
          have hps : p.size ≤ 100000 := by rw [← hp, ByteArray.size_extract]; omega
          have HPD := hide hpd
          clear hpd hbl hbx
          go_wp2_with (at_builtin; refine wpl_push rfl _ _ _ rfl g i0 _ 1 16 Tryz.underlying23 hi0 hz0 hz1 hz2 rfl (by omega) _ _ _ rfl _ rfl ho rfl (by simp [Value.oneCell']) (by unfold maxLen; omega) (by omega) hbz ?_; intro v1 w1 hown1 hbel1 _)
          go_roundw
          case rel => exact ⟨k + 1, k + 1, done ++ [(s.data.toList.drop fr).take (k - fr)], by omega, Nat.le_refl _, by go_num, by go_num, by rw [List.length_append, HN.out]; simp; omega, by rw [List.length_append, HN.out]; exact own_snoc_str (HN.out ▸ hown1) HPD.out, hb.trans hbel1, told⟩
          case measure => simp [intOf]; omega
        · have hnm' : ¬ (n : Int) < (m : Int) := by omega
          have hnm1 : ¬ (n : Int) < (m : Int) + 1 - 1 := by omega
          have told := hide (Rl.wordI_on hI.out hkl (.inr (by rw [HN.out]; exact hnm)))
          clear hbl hbx
          go_wp2_with fail
          go_roundw
          case rel => exact ⟨k + 1, fr, done, by omega, by omega, by go_num, rfl, by rw [HN.out]; exact hdm, by rw [HN.out]; exact ho, hb, told⟩
          case measure => simp [intOf]; omega
      · have hti : ¬ ((s[k].toNat : Nat) : Int) = 32 := fun h => hbl (UInt8.toNat_inj.mp (by have e : (32 : UInt8).toNat = 32 := rfl; omega))
        have told := hide (Rl.wordI_on hI.out hkl (.inl (by rw [hbx]; exact hbl)))
        clear hbl hbx
        go_wp2_with fail
        go_roundw
        case rel => exact ⟨k + 1, fr, done, by omega, by omega, by go_num, rfl, by rw [HN.out]; exact hdm, by rw [HN.out]; exact ho, hb, told⟩
        case measure => simp [intOf]; omega
    · have hlt' : ¬ (k : Int) < (s.size : Int) := by omega
      obtain rfl : k = s.size := by omega
      have hend := Rl.wordI_end (HSL.out.symm ▸ hI.out)
      have hf1 : (fr : Int) ≤ (s.size : Int) := by omega
      obtain ⟨p, hp⟩ : ∃ p : ByteArray, s.extract fr s.size = p := ⟨_, rfl⟩
      have hpd : p.data.toList = s.data.toList.drop fr := by rw [← hp, extract_list, List.take_of_length_le (by rw [HSL.out]; exact Nat.le_refl _)]
      have hps : p.size ≤ 100000 := by rw [← hp, ByteArray.size_extract]; omega
      have HEND := hide hend
      have HPD := hide hpd
      clear hend hpd
      go_wp2_with (at_builtin; refine wpl_push rfl _ _ _ rfl g i0 _ 1 16 Tryz.underlying23 hi0 hz0 hz1 hz2 rfl (by omega) _ _ _ rfl _ rfl ho rfl (by simp [Value.oneCell']) (by unfold maxLen; omega) (by omega) hbz ?_; intro v1 w1 hown1 hbel1 _)
      go_ret
      rw [HEND.out]
      have how : w1.ownsRow g 9 1 v1 (done ++ [s.data.toList.drop fr]).length (scells (done ++ [s.data.toList.drop fr])) := by
        rw [List.length_append, HN.out]; exact own_snoc_str (HN.out ▸ hown1) HPD.out
      obtain ⟨A1, c1, rfl, -, -⟩ := own_shape how
      exact ⟨A1, c1, rfl, hg ▸ how, hg ▸ hb.trans hbel1⟩
end Go.Proofs.YtijlaclngibekaaGreatDoor
