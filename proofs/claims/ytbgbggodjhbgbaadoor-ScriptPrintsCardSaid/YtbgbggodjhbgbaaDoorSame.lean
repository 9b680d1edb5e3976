/- concertinaref01.Same: are two slices of bytes the same? -/
import Derived.Test.YtbgbggodjhbgbaaDoorProg
import Derived.Test.YtbgbggodjhbgbaaDoorOwn
import Derived.Deep.QuietTactic
import Derived.BigQuiet
namespace Go.Proofs.YtbgbggodjhbgbaaDoor
open Go.RowKit
set_option maxHeartbeats 400000 in
theorem same_any (A A' : Option Addr) (n c n' c' B B' : Nat) (l l' : List UInt8) (w : World) (h : Rd w B 1 A n (bcells l)) (h' : Rd w B' 1 A' n' (bcells l')) (hn : n ≤ 9223372036854775807) (hn' : n' ≤ 9223372036854775807) :
    Calls Tryd.prog 26 #[.slice A n c, .slice A' n' c'] w fun e w' => e = .returned (.bool (l == l')) ∧ ∃ k, w' = w.drewN k := by
  have hl : l.length = n := by have := h.1; simpa [bcells] using this
  have hl' : l'.length = n' := by have := h'.1; simpa [bcells] using this
  by_cases hnn : n = n'
  · subst hnn
    have hz : ((n : Int) != (n : Int)) = false := by simp
    go_enter Tryd.func26, Tryd.ntmps26
    go_wp2
    go_loopw [5] (fun i wr => ∃ k : Nat, k ≤ n ∧ i = .int .i64 k ∧ l.take k = l'.take k ∧ ∃ m, wr = w.drewN m) (fun i _ => n - (intOf i).toNat)
    case atStart => exact ⟨0, Nat.zero_le _, rfl, by simp, 0, rfl⟩
    case round =>
      obtain ⟨k, hk, rfl, ht, m, rfl⟩ := hrel
      have HT := hide ht
      clear ht
      by_cases hlt : k < n
      · obtain ⟨a, rfl, hb, hc⟩ := h.byte hlt
        obtain ⟨a', rfl, hb', hc'⟩ := h'.byte hlt
        have hkl : k < l.length := by omega
        have hkl' : k < l'.length := by omega
        have hcc := byte_bne l[k] l'[k]
        by_cases he : l[k] = l'[k]
        · have hx : ((l[k].toNat : Int) != (l'[k].toNat : Int)) = false := by rw [hcc]; simp [he]
          have HE := hide he
          clear hcc he
          go_wp2
          go_quiet (fail)
          go_wp2
          go_roundw
          case rel => exact ⟨k + 1, by omega, by go_num, by rw [list_take_snoc l k hkl, list_take_snoc l' k hkl', HT.out, HE.out], _, rfl⟩
          case measure => simp [intOf]; omega
        · have hx : ((l[k].toNat : Int) != (l'[k].toNat : Int)) = true := by rw [hcc]; simp [he]
          clear hcc
          go_wp2
          go_quiet (fail)
          go_wp2
          go_ret
          refine ⟨ret_bool ?_, _, World.drewN_drewN _ _ _⟩
          symm; rw [beq_eq_false_iff_ne]; rintro rfl; exact he rfl
      · go_wp2
        go_ret
        refine ⟨ret_bool ?_, _, rfl⟩
        symm; rw [beq_iff_eq]
        have hkn : k = n := by omega
        have := HT.out
        rwa [List.take_of_length_le (by omega), List.take_of_length_le (by omega)] at this
  · have hz : ((n : Int) != (n' : Int)) = true := by simp; omega
    go_enter Tryd.func26, Tryd.ntmps26
    go_wp2
    go_ret
    refine ⟨ret_bool ?_, 0, rfl⟩
    symm; rw [beq_eq_false_iff_ne]; rintro rfl; omega
end Go.Proofs.YtbgbggodjhbgbaaDoor
