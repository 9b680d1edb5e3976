/- chunk.Chunk, chunk.Last; law 18's answers. -/
import Derived.Test.YtbplnglmjcmfiaaGreatDoorHexd
import Derived.Test.YtbplnglmjcmfiaaGreatDoorAppStr
import Derived.Lib.SlBytesConst
namespace Go.Proofs.YtbplnglmjcmfiaaGreatDoor
open Go.RowKit

theorem infoU8c : (Tryz.prog.info? 5).map (fun i => (i.zero, i.size, i.bytes)) = some (some (.int .u8 0), 1, 1) := by kernel_rfl
def chunkL (b : List UInt8) : List UInt8 := if b = [] then [] else hexd b.length ++ [13, 10] ++ b ++ [13, 10]
theorem conv_ow (W : World) (s : ByteArray) (hs : s.size ≤ 1000000) :
    ∃ A c w', (convert 9 22 (.string s)).run Tryz.prog W = .ok (.slice A s.size c) w' ∧ Ow w' W.heap.size 1 (.slice A s.size c) s.size (bcells s.data.toList) ∧ Below W.heap.size W w' := by
  have hcv := run_bytes_of_string (P := Tryz.prog) W 9 22 5 s Tryz.underlying9 Tryz.underlying22 Tryz.underlying5
  obtain ⟨c, hc⟩ : ∃ c, c = grownCap W s.size 0 5 := ⟨_, rfl⟩
  have hc1 : s.size ≤ c := by rw [hc]; exact grownCap_ge _ _ _ _
  have hc2 : c ≤ maxLen := by rw [hc]; exact grownCap_le_maxLen _ _ _ _ (by simp [maxLen]; omega)
  rw [← hc] at hcv
  have ho := ow_of_string W 5 s c hc1 hc2
  exact ⟨_, _, _, hcv, ho, (Below.refl _ _).drew.alloc (Nat.le_refl _) _⟩
set_option maxRecDepth 100000 in
set_option maxHeartbeats 3200000 in
theorem chunk_any (A : Option Addr) (n c B : Nat) (bs : List UInt8) (w : World) (h : Rd w B 1 A n (bcells bs)) (hB : B ≤ w.heap.size) (hn : n ≤ 1000000) (hd : w.cell? ⟨8, 15, none⟩ = some (.int .u8 4)) :
    Calls Tryz.prog 183 #[.slice A n c] w fun e w' => ∃ A' c', e = .returned (.slice A' (chunkL bs).length c') ∧ Ow w' w.heap.size 1 (.slice A' (chunkL bs).length c') (chunkL bs).length (bcells (chunkL bs)) ∧ Below w.heap.size w w' := by
  have hlen : bs.length = n := by have := h.1; rw [bcells_length] at this; omega
  by_cases h0 : n = 0
  · subst h0
    obtain rfl := List.eq_nil_of_length_eq_zero hlen
    rw [show chunkL [] = [] from rfl]
    clear hlen
    go_enter Tryz.func183, Tryz.ntmps183
    go_wp2_with fail
    go_ret
    exact ⟨none, 0, rfl, Ow.nil_, Below.refl _ _⟩
  · obtain ⟨i0, hi0, hz0, hz1, hz2⟩ := info_parts infoU8c
    have q1 := formatint_any n (by omega) w hd
    have hl16 := hexd_len 15 n (by omega)
    obtain ⟨D, hD⟩ : ∃ D : ByteArray, D = ⟨(hexd n).toArray⟩ := ⟨_, rfl⟩
    rw [← hD] at q1
    have hDs : D.size ≤ 16 := by rw [size_of, hD]; exact hl16
    have y1 : ¬ 9223372036854775807 < D.size + 2 := by omega
    have hn0 : ¬ (n : Int) = 0 := by omega
    clear hd hl16
    go_enter Tryz.func183, Tryz.ntmps183
    go_wp2_with fail
    refine q1.mono ?_
    rintro e w1 ⟨rfl, b1⟩
    obtain ⟨A2, c2, w2, hcv, ho2, b2⟩ := conv_ow w1 (D ++ ⟨#[13, 10]⟩) (by rw [ByteArray.size_append]; change D.size + 2 ≤ _; omega)
    have t1z := b1.size
    have t2 := b1.trans (b2.mono b1.size)
    have h2 := h.below (t2.mono hB)
    have h63 : n + D.size ≤ 1000016 := by omega
    have hres : (bcells (D ++ ⟨#[13, 10]⟩ : ByteArray).data.toList ++ bcells bs) ++ bcells (⟨#[13, 10]⟩ : ByteArray).data.toList = bcells (chunkL bs) := by
      have hne : bs ≠ [] := by rintro rfl; exact h0 hlen.symm
      rw [bcells_append, bcells_append]
      congr 1
      unfold chunkL
      rw [if_neg hne, hD, hlen]
      simp
    have hln : (D ++ ⟨#[13, 10]⟩ : ByteArray).size + n + (⟨#[13, 10]⟩ : ByteArray).size = (chunkL bs).length := by
      have := congrArg List.length hres
      simp only [List.length_append, bcells_length, ← size_of] at this
      rw [← hlen]; exact this
    have hsz : (D ++ ⟨#[13, 10]⟩ : ByteArray).size = D.size + 2 := by rw [ByteArray.size_append]; rfl
    obtain ⟨S, hS⟩ : ∃ S, S = D ++ ⟨#[13, 10]⟩ := ⟨_, rfl⟩
    obtain ⟨m1, hm1⟩ : ∃ m, m = (D ++ ⟨#[13, 10]⟩ : ByteArray).size := ⟨_, rfl⟩
    rw [← hm1] at hcv ho2 hln hsz
    rw [← hS] at hres ho2
    have HR := hide hres
    have HN := hide hln
    have h2z := t2.size
    have hm18 : m1 ≤ 18 := by omega
    have t2z := t2.size
    clear hres hln q1 hS hm1 hD h b1 b2 hsz h2z
    go_wp2_with (first
      | (at_builtin; refine wpl_append_ow _ rfl _ _ _ rfl w.heap.size 5 i0 _ 1 1 Tryz.underlying22 hi0 hz0 hz1 hz2 rfl (by omega) _ _ _ rfl _ _ _ _ _ rfl (ho2.base_ t1z) h2 (bcells_one _) (by simp [maxLen]; omega) (by omega) t2z ?_; intro v3 w3 ho3 b3 _ _; have t3 := t2.trans b3; have t3z := t3.size)
      | (at_builtin; refine wpl_append_ow_string _ rfl _ _ _ _ rfl w.heap.size 5 i0 Tryz.underlying22 Tryz.underlying9 hi0 hz0 hz1 hz2 _ _ _ rfl ⟨#[13, 10]⟩ rfl ho3 (by change m1 + n + 2 ≤ _; unfold maxLen; omega) (by change m1 + n + 2 ≤ _; omega) t3z ?_; intro v4 w4 ho4 b4 _ _; have t4 := t3.trans b4))
    rw [HR.out, HN.out] at ho4
    obtain ⟨A', c', rfl, -⟩ := ho4.shape
    go_ret
    exact ⟨A', c', rfl, ho4, t4⟩
set_option maxRecDepth 100000 in
set_option maxHeartbeats 3200000 in
theorem last_any (w : World) :
    Calls Tryz.prog 184 #[] w fun e w' => e = .returned (.slice (some ⟨w.heap.size, 0, none⟩) 5 5) ∧ Rd w' w'.heap.size 1 (some ⟨w.heap.size, 0, none⟩) 5 (bcells [48, 13, 10, 13, 10]) ∧ Below w.heap.size w w' := by
  have kc := fun (w : World) (C : Array Value) (n c : Nat) => Lib.run_convert_bytes_const (P := Tryz.prog) w 22 5 C n c Tryz.underlying22 Tryz.underlying5
  go_enter Tryz.func184, Tryz.ntmps184
  go_wp2_with fail
  go_ret
  refine ⟨rfl, ?_, (Below.refl _ _).alloc (Nat.le_refl _) _⟩
  exact ⟨by decide, .inr ⟨_, rfl, by simp, fun j u hu => by rw [Addr.add_lit, cell_of_row _ w.heap.size _ _ _ (5, 6) (heap_alloc_new w _)]; simpa [bcells] using hu⟩⟩
def abcL : List UInt8 := [51, 13, 10, 97, 98, 99, 13, 10]
theorem chunk_abc : chunkL [97, 98, 99] = abcL := by
  unfold chunkL
  rw [if_neg (by decide), show ([97, 98, 99] : List UInt8).length = 3 from rfl, hexd_low (by decide)]
  decide
end Go.Proofs.YtbplnglmjcmfiaaGreatDoor
