/- The reference's crlf. -/
import Derived.Test.YtdpcncpfbaigeaaDoorEndSpec
import Derived.Test.YtdpcncpfbaigeaaDoorTrim
namespace Go.Proofs.YtdpcncpfbaigeaaDoor
open Go.RowKit

set_option maxRecDepth 100000 in
set_option maxHeartbeats 3200000 in
theorem crlf_any (s : ByteArray) (i : Nat) (w : World) (hi : i ≤ 1000000) :
    Calls Tryd.prog 40 #[.string s, .int .i64 i] w fun e w' => e = .returned (.bool (Lib.occAt s.data.toList crlfL i)) ∧ w = w' := by
  have hw1 : IntKind.i64.wrap ((i : Int) + 1) = (i : Int) + 1 := by simp [IntKind.wrap, IntKind.bits, IntKind.signed]; omega
  by_cases hlt : i + 1 < s.size
  · have hlt' : i + 1 < s.data.toList.length := by rw [← size_of]; exact hlt
    rw [occ_step hlt']
    have e0 : s.data.toList[i] = s[i] := rfl
    have e1 : s.data.toList[i + 1] = s[i + 1] := rfl
    rw [e0, e1]
    have hlt1 : ((i : Int) + 1) < (s.size : Int) := by omega
    obtain ⟨x, hx⟩ : ∃ x, s[i] = x := ⟨_, rfl⟩
    obtain ⟨y, hy⟩ : ∃ x, s[i + 1] = x := ⟨_, rfl⟩
    rw [hx, hy]
    have hti : ((i : Int) + 1).toNat = i + 1 := by omega
    rcases hc1 : (x == 13) with _ | _
    · have h1 : ((x.toNat : Int) == 13) = false := by
        rw [beq_eq_false_iff_ne] at hc1 ⊢
        intro h; apply hc1; apply UInt8.toNat_inj.1; simp; omega
      clear hc1
      go_enter Tryd.func40, Tryd.ntmps40
      go_wp2_with fail
      go_ret
      exact ⟨rfl, rfl⟩
    · have h1 : ((x.toNat : Int) == 13) = true := by
        have := eq_of_beq hc1; subst this; rfl
      rcases hc2 : (y == 10) with _ | _
      · have h2 : ((y.toNat : Int) == 10) = false := by
          rw [beq_eq_false_iff_ne] at hc2 ⊢
          intro h; apply hc2; apply UInt8.toNat_inj.1; simp; omega
        clear hc1 hc2
        go_enter Tryd.func40, Tryd.ntmps40
        go_wp2_with fail
        go_ret
        exact ⟨rfl, rfl⟩
      · have h2 : ((y.toNat : Int) == 10) = true := by
          have := eq_of_beq hc2; subst this; rfl
        clear hc1 hc2
        go_enter Tryd.func40, Tryd.ntmps40
        go_wp2_with fail
        go_ret
        exact ⟨rfl, rfl⟩
  · have hlt' : ¬ i + 1 < s.data.toList.length := by rw [← size_of]; exact hlt
    rw [occ_short hlt']
    have hlt1 : ¬ ((i : Int) + 1) < (s.size : Int) := by omega
    go_enter Tryd.func40, Tryd.ntmps40
    go_wp2_with fail
    go_ret
    exact ⟨rfl, rfl⟩

end Go.Proofs.YtdpcncpfbaigeaaDoor
