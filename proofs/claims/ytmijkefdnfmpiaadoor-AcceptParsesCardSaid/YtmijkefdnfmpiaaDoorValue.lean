/- Good values, and the reference's names and values. -/
import Derived.Test.YtmijkefdnfmpiaaDoorTrim
namespace Go.Proofs.YtmijkefdnfmpiaaDoor
open Go.RowKit

def goodValueL (l : List UInt8) : Bool := l.all valueB && decide (l.length ≤ 4096) && (trimL l == l)

set_option maxRecDepth 100000 in
set_option maxHeartbeats 800000 in
theorem valueByte_any (c : UInt8) (w : World) :
    Calls Tryd.prog 60 #[.int .u8 c.toNat] w fun e w' => e = .returned (.bool (valueB c)) ∧ w = w' := by
  have hc : c.toNat < 256 := c.toNat_lt
  go_enter Tryd.func60, Tryd.ntmps60
  go_wp2
  all_goals go_ret
  all_goals
    refine ⟨ret_bool ?_, rfl⟩
    rw [Bool.eq_iff_iff]
    simp [valueB]
    omega

def plainL (l : List UInt8) : Bool := l.all valueB
theorem plainL_of {l : List UInt8} {b : Bool} (h : l.all valueB = b) : plainL l = b := h
set_option maxRecDepth 100000 in
set_option maxHeartbeats 800000 in
theorem plain_any (s : ByteArray) (w : World) (hs : s.size ≤ 140737488355328) :
    Calls Tryd.prog 61 #[.string s] w fun e w' => e = .returned (.bool (plainL s.data.toList)) ∧ w = w' := by
  go_enter Tryd.func61, Tryd.ntmps61
  go_wp2_with fail
  go_loop [3] (fun i => ∃ k : Nat, k ≤ s.size ∧ i = .int .i64 k ∧ (s.data.toList.take k).all valueB = true) (fun i => s.size - (intOf i).toNat)
  case atStart => exact ⟨0, Nat.zero_le _, rfl, rfl⟩
  case round =>
    obtain ⟨k, hk, rfl, ha⟩ := hrel
    have HA := hide ha
    clear ha
    by_cases hlt : k < s.size
    · have hts := all_take_snoc (p := valueB) s k hlt
      have HT := hide hts
      clear hts
      have hfa : valueB s[k] = false → s.data.toList.all valueB = false := all_false (p := valueB) s k hlt
      have HF := hide hfa
      clear hfa
      obtain ⟨b, hb⟩ : ∃ b, s[k] = b := ⟨_, rfl⟩
      rw [hb] at HT HF
      rcases hv : valueB b with _ | _
      · have h1 : ((b.toNat : Int) != 9) = true ∧ ((b.toNat : Int) < 32 ∨ (¬ (b.toNat : Int) < 32 ∧ ((b.toNat : Int) == 127) = true)) := by
          simp [valueB] at hv ⊢; omega
        obtain ⟨h1, h2⟩ := h1
        have HVF := hide hv
        clear hv
        rcases h2 with h2 | ⟨h2, h3⟩
        all_goals
          go_wp2
          go_ret
          refine ⟨ret_bool (by rw [plainL_of (HF.out HVF.out)]), rfl⟩
      · have h1 : (((b.toNat : Int) != 9) = false ∧ ((b.toNat : Int) == 127) = false) ∨ (((b.toNat : Int) != 9) = true ∧ ¬ (b.toNat : Int) < 32 ∧ ((b.toNat : Int) == 127) = false) := by
          simp [valueB] at hv ⊢; omega
        have HV := hide hv
        clear hv
        rcases h1 with ⟨h1, h2⟩ | ⟨h1, h2, h3⟩
        all_goals
          go_wp2
          go_round
          case rel => exact ⟨k + 1, by omega, by go_num, by rw [HT.out, HA.out, HV.out]; rfl⟩
          case measure => simp [intOf]; omega
    · have hfin : s.data.toList.all valueB = true := by have := HA.out; rwa [take_all s k (by omega)] at this
      have HF := hide hfin
      clear hfin
      go_wp2
      go_ret
      exact ⟨ret_bool (by rw [plainL_of HF.out]), rfl⟩
set_option maxRecDepth 100000 in
set_option maxHeartbeats 800000 in
theorem goodValue_any (s : ByteArray) (w : World) (hs : s.size ≤ 140737488355328) :
    Calls Tryd.prog 26 #[.string s] w fun e w' => e = .returned (.bool (goodValueL s.data.toList)) ∧ Below w.heap.size w w' := by
  have HL := hide (size_of s)
  go_enter Tryd.func26, Tryd.ntmps26
  go_wp2_with fail
  go_loop [6] (fun i => ∃ k : Nat, k ≤ s.size ∧ i = .int .i64 k ∧ (s.data.toList.take k).all valueB = true) (fun i => s.size - (intOf i).toNat)
  case atStart => exact ⟨0, Nat.zero_le _, rfl, rfl⟩
  case round =>
    obtain ⟨k, hk, rfl, ha⟩ := hrel
    have HA := hide ha
    clear ha
    by_cases hlt : k < s.size
    · have hn := valueByte_any s[k] w
      have hts := all_take_snoc (p := valueB) s k hlt
      rcases hb : valueB s[k] with _ | _
      · rw [hb] at hn
        have hfa := all_false (p := valueB) s k hlt hb
        have HF := hide hfa
        clear hb hts hfa
        go_wp2_with (go_at_call 60; refine hn.mono ?_; rintro e w' ⟨rfl, rfl⟩)
        go_ret
        exact ⟨ret_bool (by rw [goodValueL, HF.out]; rfl), Below.refl _ _⟩
      · rw [hb] at hn
        have HB := hide hb
        have HT := hide hts
        clear hb hts
        go_wp2_with (go_at_call 60; refine hn.mono ?_; rintro e w' ⟨rfl, rfl⟩)
        go_round
        case rel => exact ⟨k + 1, by omega, by go_num, by rw [HT.out, HA.out, HB.out]; rfl⟩
        case measure => simp [intOf]; omega
    · have hfin : s.data.toList.all valueB = true := by have := HA.out; rwa [take_all s k (by omega)] at this
      have HF := hide hfin
      have ht := trim_any s w hs
      clear hfin
      by_cases h4 : s.size ≤ 4096
      · go_wp2_with (go_at_call 30; refine ht.mono ?_; rintro e w' ⟨rfl, hB⟩)
        go_ret
        refine ⟨ret_bool ?_, hB⟩
        have hl := HL.out
        simp only [goodValueL, HF.out, Bool.true_and]
        rw [← hl, decide_eq_true h4, Bool.true_and, ByteArray.toList_eq]
      · go_wp2
        go_ret
        refine ⟨ret_bool ?_, Below.refl _ _⟩
        have hl := HL.out
        simp only [goodValueL, HF.out, Bool.true_and]
        rw [← hl, decide_eq_false h4]; rfl

set_option maxRecDepth 100000 in
set_option maxHeartbeats 800000 in
theorem refvalue_any (s : ByteArray) (w : World) (hs : s.size ≤ 140737488355328) :
    Calls Tryd.prog 27 #[.string s] w fun e w' => e = .returned (.bool (goodValueL s.data.toList)) ∧ w = w' := by
  have HL := hide (size_of s)
  have hp := plain_any s w hs
  have ht := reftrim_any s w hs
  rcases hv : s.data.toList.all valueB with _ | _
  · rw [plainL_of hv] at hp
    have HV := hide hv
    clear hv
    go_enter Tryd.func27, Tryd.ntmps27
    go_wp2_with (go_at_call 61; refine hp.mono ?_; rintro e w' ⟨rfl, rfl⟩)
    go_ret
    exact ⟨ret_bool (by rw [goodValueL, HV.out]; rfl), rfl⟩
  · rw [plainL_of hv] at hp
    have HV := hide hv
    clear hv
    by_cases h4 : s.size ≤ 4096
    · go_enter Tryd.func27, Tryd.ntmps27
      go_wp2_with (first | (go_at_call 61; refine hp.mono ?_; rintro e w' ⟨rfl, rfl⟩) | (go_at_call 19; refine ht.mono ?_; rintro e w' ⟨rfl, rfl⟩))
      go_ret
      refine ⟨ret_bool ?_, rfl⟩
      have hl := HL.out
      simp only [goodValueL, HV.out, Bool.true_and]
      rw [← hl, decide_eq_true h4, Bool.true_and, ByteArray.toList_eq]
    · go_enter Tryd.func27, Tryd.ntmps27
      go_wp2_with (first | (go_at_call 61; refine hp.mono ?_; rintro e w' ⟨rfl, rfl⟩) | (go_at_call 19; refine ht.mono ?_; rintro e w' ⟨rfl, rfl⟩))
      go_ret
      refine ⟨ret_bool ?_, rfl⟩
      have hl := HL.out
      simp only [goodValueL, HV.out, Bool.true_and]
      rw [← hl, decide_eq_false h4]; rfl
end Go.Proofs.YtmijkefdnfmpiaaDoor
