/- concertinaref01.Texts: are two slices of texts the same? -/
import Derived.Test.YtbgbggodjhbgbaaDoorProg
import Derived.Test.YtbgbggodjhbgbaaDoorSplit
import Derived.Deep.QuietTactic
import Derived.BigQuiet
namespace Go.Proofs.YtbgbggodjhbgbaaDoor
open Go.RowKit
theorem Rd.text {w : World} {B n : Nat} {A : Option Addr} {l : List (List UInt8)} (h : Rd w B 1 A n (scells l)) {k : Nat} (hk : k < n) (hl : k < l.length) :
    ∃ a, A = some a ∧ a.block < B ∧ w.cell? (a.add k) = some (.string ⟨l[k].toArray⟩) := by
  obtain ⟨a, rfl, hb, hc⟩ := h.at_ hk
  exact ⟨a, rfl, hb, hc k _ (scells_get l k hl)⟩
theorem mk_bne (a b : List UInt8) : ((⟨a.toArray⟩ : ByteArray).toList == (⟨b.toArray⟩ : ByteArray).toList) = (a == b) := by rw [ByteArray.toList_eq, ByteArray.toList_eq]
set_option maxRecDepth 100000 in
set_option maxHeartbeats 800000 in
theorem texts_any (A A' : Option Addr) (n c n' c' B B' : Nat) (l l' : List (List UInt8)) (w : World) (h : Rd w B 1 A n (scells l)) (h' : Rd w B' 1 A' n' (scells l')) (hn : n ≤ 140737488355328) (hn' : n' ≤ 140737488355328) :
    Calls Tryd.prog 25 #[.slice A n c, .slice A' n' c'] w fun e w' => e = .returned (.bool (l == l')) ∧ ∃ k, w' = w.drewN k := by
  have hl : l.length = n := by have := h.1; simpa [scells] using this
  have hl' : l'.length = n' := by have := h'.1; simpa [scells] using this
  by_cases hnn : n = n'
  · subst hnn
    have hz : ((n : Int) != (n : Int)) = false := by simp
    go_enter Tryd.func25, Tryd.ntmps25
    go_wp2
    go_loopw [5] (fun i wr => ∃ k : Nat, k ≤ n ∧ i = .int .i64 k ∧ l.take k = l'.take k ∧ ∃ m, wr = w.drewN m) (fun i _ => n - (intOf i).toNat)
    case atStart => exact ⟨0, Nat.zero_le _, rfl, by simp, 0, rfl⟩
    case round =>
      obtain ⟨k, hk, rfl, ht, m, rfl⟩ := hrel
      have HT := hide ht
      clear ht
      by_cases hlt : k < n
      · have hkl : k < l.length := by omega
        have hkl' : k < l'.length := by omega
        obtain ⟨a, rfl, hb, hc⟩ := h.text hlt hkl
        obtain ⟨a', rfl, hb', hc'⟩ := h'.text hlt hkl'
        have hs1 := list_take_snoc l k hkl
        have hs2 := list_take_snoc l' k hkl'
        obtain ⟨x, hx⟩ : ∃ x, x = l[k] := ⟨_, rfl⟩
        obtain ⟨y, hy⟩ : ∃ y, y = l'[k] := ⟨_, rfl⟩
        rw [← hx] at hc hs1
        rw [← hy] at hc' hs2
        have hbe := mk_bne x y
        have HS1 := hide hs1
        have HS2 := hide hs2
        have HX := hide hx
        have HY := hide hy
        obtain ⟨sx, hsx⟩ : ∃ sx : ByteArray, sx = ⟨x.toArray⟩ := ⟨_, rfl⟩
        obtain ⟨sy, hsy⟩ : ∃ sy : ByteArray, sy = ⟨y.toArray⟩ := ⟨_, rfl⟩
        rw [← hsx, ← hsy] at hbe
        rw [← hsx] at hc
        rw [← hsy] at hc'
        clear hs1 hs2 hx hy hsx hsy
        by_cases he : x = y
        · have hq : (sx.toList == sy.toList) = true := by rw [hbe]; simpa using he
          have HE := hide he
          clear hbe he
          go_wp2
          go_quiet (fail)
          go_wp2
          go_roundw
          case rel => exact ⟨k + 1, by omega, by go_num, by rw [HS1.out, HS2.out, HT.out, HE.out], _, rfl⟩
          case measure => simp [intOf]; omega
        · have hq : (sx.toList == sy.toList) = false := by rw [hbe]; simpa using he
          clear hbe
          go_wp2
          go_quiet (fail)
          go_wp2
          go_ret
          refine ⟨ret_bool ?_, _, World.drewN_drewN _ _ _⟩
          symm; rw [beq_eq_false_iff_ne]; rintro rfl; exact he (HX.out.trans HY.out.symm)
      · go_wp2
        go_ret
        refine ⟨ret_bool ?_, _, rfl⟩
        symm; rw [beq_iff_eq]
        have hkn : k = n := by omega
        have := HT.out
        rwa [List.take_of_length_le (by omega), List.take_of_length_le (by omega)] at this
  · have hz : ((n : Int) != (n' : Int)) = true := by simp; omega
    go_enter Tryd.func25, Tryd.ntmps25
    go_wp2
    go_ret
    refine ⟨ret_bool ?_, 0, rfl⟩
    symm; rw [beq_eq_false_iff_ne]; rintro rfl; omega
end Go.Proofs.YtbgbggodjhbgbaaDoor
