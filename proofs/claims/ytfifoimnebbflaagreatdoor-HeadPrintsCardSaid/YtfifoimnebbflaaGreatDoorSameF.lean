/- SameFields: are two slices of fields the same? -/
import Derived.Test.YtfifoimnebbflaaGreatDoorSets
import Derived.Deep.QuietTactic
import Derived.BigQuiet
namespace Go.Proofs.YtfifoimnebbflaaGreatDoor
open Go.RowKit

set_option maxRecDepth 100000 in
set_option maxHeartbeats 1600000 in
theorem samef_any (A A' : Option Addr) (n c n' c' B B' : Nat) (l l' : List (List UInt8 × List UInt8)) (w : World) (h : Rd w B 2 A n (fcells l)) (h' : Rd w B' 2 A' n' (fcells l')) (hn : n ≤ 140737488355328) (hn' : n' ≤ 140737488355328) :
    Calls Tryz.prog 52 #[.slice A n c, .slice A' n' c'] w fun e w' => e = .returned (.bool (decide (l = l'))) ∧ ∃ k, w' = w.drewN k := by
  have hl := h.flen
  have hl' := h'.flen
  by_cases hnn : n = n'
  · subst hnn
    have hz : ((n : Int) != (n : Int)) = false := by simp
    go_enter Tryz.func52, Tryz.ntmps52
    go_wp2
    go_loopw [5] (fun i wr => ∃ k : Nat, k ≤ n ∧ i = .int .i64 k ∧ l.take k = l'.take k ∧ ∃ m, wr = w.drewN m) (fun i _ => n - (intOf i).toNat)
    case atStart => exact ⟨0, Nat.zero_le _, rfl, by simp, 0, rfl⟩
    case round =>
      obtain ⟨k, hk, rfl, ht, m, rfl⟩ := hrel
      have HT := hide ht
      clear ht
      by_cases hlt : k < n
      · have hkl : k < l.length := by omega
        have hkl' : k < l'.length := by omega
        obtain ⟨b, off, rfl, hb, e0, e1⟩ := h.fld hlt hkl
        obtain ⟨b', off', rfl, hb', e0', e1'⟩ := h'.fld hlt hkl'
        have hs1 := list_take_snoc l k hkl
        have hs2 := list_take_snoc l' k hkl'
        obtain ⟨x, hx⟩ : ∃ x, x = l[k] := ⟨_, rfl⟩
        obtain ⟨y, hy⟩ : ∃ y, y = l'[k] := ⟨_, rfl⟩
        rw [← hx] at e0 e1 hs1
        rw [← hy] at e0' e1' hs2
        have hbe := mk_bne x.1 y.1
        have hbf := mk_bne x.2 y.2
        have HS1 := hide hs1
        have HS2 := hide hs2
        have HX := hide hx
        have HY := hide hy
        obtain ⟨sx, hsx⟩ : ∃ s : ByteArray, s = ⟨x.1.toArray⟩ := ⟨_, rfl⟩
        obtain ⟨sy, hsy⟩ : ∃ s : ByteArray, s = ⟨y.1.toArray⟩ := ⟨_, rfl⟩
        obtain ⟨tx, htx⟩ : ∃ s : ByteArray, s = ⟨x.2.toArray⟩ := ⟨_, rfl⟩
        obtain ⟨ty, hty⟩ : ∃ s : ByteArray, s = ⟨y.2.toArray⟩ := ⟨_, rfl⟩
        rw [← hsx, ← hsy] at hbe
        rw [← htx, ← hty] at hbf
        rw [← hsx] at e0
        rw [← htx] at e1
        rw [← hsy] at e0'
        rw [← hty] at e1'
        clear hs1 hs2 hx hy hsx hsy htx hty
        by_cases he : x = y
        · have hq : (sx.toList == sy.toList) = true := by rw [hbe]; simp [he]
          have hq2 : (tx.toList == ty.toList) = true := by rw [hbf]; simp [he]
          have HE := hide he
          clear hbe hbf he
          go_wp2
          go_quiet (fail)
          go_wp2
          go_roundw
          case rel => exact ⟨k + 1, by omega, by go_num, by rw [HS1.out, HS2.out, HT.out, HE.out], _, rfl⟩
          case measure => simp [intOf]; omega
        · have hne : l ≠ l' := by rintro rfl; exact he (HX.out.trans HY.out.symm)
          have HN := hide hne
          by_cases he1 : x.1 = y.1
          · have hq : (sx.toList == sy.toList) = true := by rw [hbe]; simp [he1]
            have hq2 : (tx.toList == ty.toList) = false := by rw [hbf]; simp; exact fun e => he (Prod.ext he1 e)
            clear hbe hbf hne he he1
            go_wp2
            go_quiet (fail)
            go_wp2
            go_ret
            exact ⟨ret_bool (by symm; rw [decide_eq_false_iff_not]; exact HN.out), _, World.drewN_drewN _ _ _⟩
          · have hq : (sx.toList == sy.toList) = false := by rw [hbe]; simp [he1]
            clear hbe hbf hne he he1
            go_wp2
            go_quiet (fail)
            go_wp2
            go_ret
            exact ⟨ret_bool (by symm; rw [decide_eq_false_iff_not]; exact HN.out), _, World.drewN_drewN _ _ _⟩
      · go_wp2
        go_ret
        refine ⟨ret_bool ?_, _, rfl⟩
        symm; rw [decide_eq_true_iff]
        have hkn : k = n := by omega
        have := HT.out
        rwa [List.take_of_length_le (by omega), List.take_of_length_le (by omega)] at this
  · have hz : ((n : Int) != (n' : Int)) = true := by simp; omega
    go_enter Tryz.func52, Tryz.ntmps52
    go_wp2
    go_ret
    refine ⟨ret_bool ?_, 0, rfl⟩
    symm; rw [decide_eq_false_iff_not]; rintro rfl; omega
end Go.Proofs.YtfifoimnebbflaaGreatDoor
