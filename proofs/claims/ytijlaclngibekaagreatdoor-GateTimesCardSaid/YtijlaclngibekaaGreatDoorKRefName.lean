/- The reference's Name. -/
import Derived.Test.YtijlaclngibekaaGreatDoorKTrimG
import Derived.Deep.DeepCutAuto
import Derived.Deep.LoopGhost
import Derived.Deep.CutBlock
namespace Go.Proofs.YtijlaclngibekaaGreatDoor
open Go.RowKit

/-- A digit or a letter? -/
def rangeB (c : UInt8) : Bool := decide (48 ≤ c.toNat ∧ c.toNat ≤ 57) || decide (97 ≤ c.toNat ∧ c.toNat ≤ 122) || decide (65 ≤ c.toNat ∧ c.toNat ≤ 90)
theorem nameB_eq (c : UInt8) : nameB c = (rangeB c || marksL.contains c) := rfl
def okB (c : UInt8) (j : Nat) : Bool := rangeB c || (marksL.take j).contains c
theorem okB_succ (c : UInt8) (j : Nat) (h : j < 15) : okB c (j + 1) = (okB c j || (marksL.getD j 0 == c)) := by
  have h' : j < marksL.length := h
  unfold okB
  rw [list_take_snoc marksL j h', List.contains_append, Bool.or_assoc, List.getD_eq_getElem?_getD, List.getElem?_eq_getElem h', Option.getD_some]
  congr 2
  rw [Bool.eq_iff_iff]
  simp only [List.contains_cons, List.contains_nil, Bool.or_false, beq_iff_eq]
  exact eq_comm
theorem okB_all (c : UInt8) (j : Nat) (h : marksL.length ≤ j) : okB c j = nameB c := by
  unfold okB; rw [List.take_of_length_le h, nameB_eq]

set_option maxRecDepth 100000 in
set_option maxHeartbeats 3200000 in
theorem refname_any (s : ByteArray) (w : World) (hs : s.size ≤ 9223372036854775807) :
    Calls Tryz.prog 59 #[.string s] w fun e w' => e = .returned (.bool (goodNameL s.data.toList)) ∧ w = w' := by
  have HL := hide (size_of s)
  go_enter Tryz.func59, Tryz.ntmps59
  go_wp2_with fail
  generalize hM : (⟨#[33, 35, 36, 37, 38, 39, 42, 43, 45, 46, 94, 95, 96, 124, 126]⟩ : ByteArray) = M
  have hMl : M.data.toList = marksL := by rw [← hM]; rfl
  have hMs : M.size = 15 := by rw [← hM]; rfl
  have hMg : ∀ (j : Nat) (h : j < M.size), M[j] = marksL.getD j 0 := fun j h => by
    rw [List.getD_eq_getElem?_getD, ← hMl, get_toList M j h]; rfl
  have HMS := hide hMs
  have HMG := hide hMg
  have hMle : M.size ≤ 15 := by omega
  clear hM hMl hMs hMg
  go_loopg [4] s.size (fun g i w' => ∃ k : Nat, g + k = s.size ∧ i = .int .i64 k ∧ (s.data.toList.take k).all nameB = true ∧ w' = w)
  case atStart => exact ⟨0, rfl, rfl, rfl, rfl⟩
  case round =>
    obtain ⟨k, hk, rfl, ha, rfl⟩ := hrel
    have HA := hide ha
    have HK := hide hk
    have hk' : k ≤ s.size := by omega
    clear ha hk
    by_cases hlt : k < s.size
    · have hts := all_take_snoc (p := nameB) s k hlt
      have HT := hide hts
      have hfa : nameB s[k] = false → s.data.toList.all nameB = false := all_false (p := nameB) s k hlt
      have HF := hide hfa
      clear hts hfa
      obtain ⟨b, hb⟩ : ∃ b, s[k] = b := ⟨_, rfl⟩
      rw [hb] at HT HF
      go_upto_region 6 with (fail)
      go_cut [6] (fun s6 w' => s6 = .bool (okB b 0) ∧ w' = wr)
      case first =>
        go_wp2
        all_goals
          go_meet
          refine ⟨congrArg Value.bool ?_, rfl⟩
          rw [Bool.eq_iff_iff]
          simp [okB, rangeB] <;> omega
      case rest =>
        obtain ⟨rfl, hwc⟩ := hcut
        obtain rfl : wr = wc := hwc.symm
        clear hb
        go_wp2_with fail
        go_loopg [6, 7] 15 (fun g v i w' => ∃ j : Nat, g + j = 15 ∧ i = .int .i64 j ∧ v = .bool (okB b j) ∧ w' = wr)
        case atStart => exact ⟨0, rfl, rfl, rfl, rfl⟩
        case round =>
          obtain ⟨j, hj, rfl, rfl, rfl⟩ := hrel
          have HJ := hide hj
          have hj' : j ≤ 15 := by omega
          have hMs := HMS.out
          have h15 : (M.size : Int) = 15 := by omega
          have h15' : M.size = 15 := hMs
          clear hj
          by_cases hjl : j < 15
          · have hjM : j < M.size := by omega
            have hjM' : (j : Int) < (M.size : Int) := by omega
            have hg := HMG.out j hjM
            have hsc := okB_succ b j hjl
            obtain ⟨m, hm⟩ : ∃ m, M[j] = m := ⟨_, rfl⟩
            rw [hm] at hg
            rw [← hg] at hsc
            have hbe : ((m.toNat : Int) == (b.toNat : Int)) = (m == b) := by rw [Bool.eq_iff_iff]; simp [← UInt8.toNat_inj]; omega
            have HSC := hide hsc
            clear hsc hg hMs h15' h15
            rcases hob : okB b j with _ | _
            · by_cases hmb : m = b
              · have hx : ((m.toNat : Int) == (b.toNat : Int)) = true := by rw [hbe]; simpa using hmb
                have hfin : okB b (j + 1) = true := by rw [HSC.out, hob]; simpa using hmb
                have HFIN := hide hfin
                clear hbe hfin hmb hob
                go_wp2
                go_roundg (15 - (j + 1))
                case measure => have := HJ.out; omega
                case rel => have := HJ.out; exact ⟨j + 1, by omega, by go_num, by rw [HFIN.out], rfl⟩
              · have hx : ((m.toNat : Int) == (b.toNat : Int)) = false := by rw [hbe]; simpa using hmb
                have hfin : okB b (j + 1) = false := by rw [HSC.out, hob]; simpa using hmb
                have HFIN := hide hfin
                clear hbe hfin hmb hob
                go_wp2
                go_roundg (15 - (j + 1))
                case measure => have := HJ.out; omega
                case rel => have := HJ.out; exact ⟨j + 1, by omega, by go_num, by rw [HFIN.out], rfl⟩
            · have hfin : okB b (j + 1) = true := by rw [HSC.out, hob]; rfl
              have HFIN := hide hfin
              clear hbe hfin hob
              go_wp2
              go_roundg (15 - (j + 1))
              case measure => have := HJ.out; omega
              case rel => have := HJ.out; exact ⟨j + 1, by omega, by go_num, by rw [HFIN.out], rfl⟩
          · have hjM : ¬ ((j : Int) < (M.size : Int)) := by omega
            have hal := okB_all b j (by show 15 ≤ j; omega)
            clear hMs h15' h15
            rcases hn : nameB b with _ | _
            · rw [hn] at hal
              have hff := HF.out hn
              have HFF := hide hff
              clear hff hn
              go_wp2
              go_ret
              exact ⟨ret_bool (by rw [goodNameL, HFF.out]; rfl), rfl⟩
            · rw [hn] at hal
              have HN := hide hn
              clear hn
              go_wp2
              go_roundg (s.size - (k + 1))
              case measure => have := HK.out; omega
              case rel => have := HK.out; exact ⟨k + 1, by omega, by go_num, by rw [HT.out, HA.out, HN.out]; rfl, rfl⟩
    · have hfin : s.data.toList.all nameB = true := by have := HA.out; rwa [take_all s k (by omega)] at this
      have HF := hide hfin
      clear hfin
      go_wp2
      all_goals go_ret
      all_goals
        refine ⟨ret_bool ?_, rfl⟩
        have hl := HL.out
        simp only [goodNameL, HF.out, Bool.true_and]
        rw [← hl, Bool.eq_iff_iff]
        simp
        omega
end Go.Proofs.YtijlaclngibekaaGreatDoor
