/- Numbers in sixteenths, as text: strconv.FormatInt at base 16. -/
import Derived.Test.YtbplnglmjcmfiaaGreatDoorOwn
import Derived.Test.YtbplnglmjcmfiaaGreatDoorProg
import Derived.Laws.BitsLemmas
namespace Go.Proofs.YtbplnglmjcmfiaaGreatDoor
open Go.RowKit

def hexT : List UInt8 := [48, 49, 50, 51, 52, 53, 54, 55, 56, 57, 97, 98, 99, 100, 101, 102]
def hexC (k : Nat) : UInt8 := hexT.getD k 0
def hexd (n : Nat) : List UInt8 := if n < 16 then [hexC n] else hexd (n / 16) ++ [hexC (n % 16)]
termination_by n
theorem hexd_low {n : Nat} (h : n < 16) : hexd n = [hexC n] := by rw [hexd, if_pos h]
theorem hexd_high {n : Nat} (h : ¬ n < 16) : hexd n = hexd (n / 16) ++ [hexC (n % 16)] := by rw [hexd, if_neg h]
theorem hexd_len : ∀ (d n : Nat), n < 16 ^ (d + 1) → (hexd n).length ≤ d + 1
  | 0, n, h => by rw [hexd_low (by simpa using h)]; simp
  | d + 1, n, h => by
    by_cases h16 : n < 16
    · rw [hexd_low h16]; simp
    · have := hexd_len d (n / 16) (by rw [Nat.pow_succ] at h; omega)
      rw [hexd_high h16]; simp; omega
theorem hexd_pos (n : Nat) : 1 ≤ (hexd n).length := by
  by_cases h : n < 16
  · rw [hexd_low h]; simp
  · rw [hexd_high h]; simp

set_option maxRecDepth 100000 in
set_option maxHeartbeats 3200000 in
theorem zeros64_16 (w : World) (hd : w.cell? ⟨8, 15, none⟩ = some (.int .u8 4)) :
    Calls Tryz.prog 225 #[.int .u64 16] w fun e w' => e = .returned (.int .i64 4) ∧ w = w' := by
  have h1 : Calls Tryz.prog 292 #[.int .u64 16] w fun e w' => e = .returned (.int .i64 4) ∧ w = w' := by
    have e1 : IntKind.u64.wrap (-16) = 18446744073709551600 := by decide
    have e2 : bits BinOp.and IntKind.u64 16 18446744073709551600 = 16 := by decide
    have e3 : IntKind.u64.wrap (16 * 285870213051353865) = 4573923408821661840 := by decide
    have e4 : (4573923408821661840 : Int) / 288230376151711744 = 15 := by decide
    go_enter Tryz.func292, Tryz.ntmps292
    go_wp2
    go_ret
    exact ⟨rfl, rfl⟩
  go_enter Tryz.func225, Tryz.ntmps225
  go_wp2_with fail
  refine h1.mono ?_
  rintro e w1 ⟨rfl, rfl⟩
  go_wp2
  go_ret
  exact ⟨rfl, rfl⟩
theorem pow2_16 (w : World) : Calls Tryz.prog 224 #[.int .i64 16] w fun e w' => e = .returned (.bool true) ∧ w = w' := by
  have e2 : bits BinOp.and IntKind.i64 16 15 = 0 := by decide
  go_enter Tryz.func224, Tryz.ntmps224
  go_wp2
  go_ret
  exact ⟨rfl, rfl⟩
theorem hexC_at (k : Nat) (h : k < 16) : ((⟨#[48, 49, 50, 51, 52, 53, 54, 55, 56, 57, 97, 98, 99, 100, 101, 102, 103, 104, 105, 106, 107, 108, 109, 110, 111, 112, 113, 114, 115, 116, 117, 118, 119, 120, 121, 122]⟩ : ByteArray).data.toList)[k]? = some (hexC k) := by
  have : ∀ k : Fin 16, ((⟨#[48, 49, 50, 51, 52, 53, 54, 55, 56, 57, 97, 98, 99, 100, 101, 102, 103, 104, 105, 106, 107, 108, 109, 110, 111, 112, 113, 114, 115, 116, 117, 118, 119, 120, 121, 122]⟩ : ByteArray).data.toList)[k.val]? = some (hexC k.val) := by decide
  exact this ⟨k, h⟩
theorem hexC_ix (k : Nat) (h : k < 16) (hk : k < (⟨#[48, 49, 50, 51, 52, 53, 54, 55, 56, 57, 97, 98, 99, 100, 101, 102, 103, 104, 105, 106, 107, 108, 109, 110, 111, 112, 113, 114, 115, 116, 117, 118, 119, 120, 121, 122]⟩ : ByteArray).size) : (⟨#[48, 49, 50, 51, 52, 53, 54, 55, 56, 57, 97, 98, 99, 100, 101, 102, 103, 104, 105, 106, 107, 108, 109, 110, 111, 112, 113, 114, 115, 116, 117, 118, 119, 120, 121, 122]⟩ : ByteArray)[k] = hexC k := by
  have h1 := get_toList _ k hk
  rw [hexC_at k h] at h1
  exact (Option.some.inj h1).symm
/-- The 65 bytes: l at their end. -/
def Buf65 (g : Nat) (w : World) (l : List UInt8) : Prop := ∃ zs, Ow w g 1 (.slice (some ⟨g, 0, none⟩) 65 65) 65 zs ∧ zs.drop (65 - l.length) = bcells l ∧ l.length ≤ 65
theorem Buf65.put {g : Nat} {w : World} {l : List UInt8} (h : Buf65 g w l) (hl : l.length < 65) (c : UInt8) :
    Buf65 g (w.setCell ⟨g, 64 - l.length, none⟩ (.int .u8 c.toNat)) (c :: l) := by
  obtain ⟨zs, ho, hd, -⟩ := h
  have hz : zs.length = 65 := by have := ho.1; omega
  have := ho.store (j := 64 - l.length) (by omega) (.int .u8 c.toNat)
  rw [Nat.zero_add] at this
  refine ⟨_, this, ?_, by simp; omega⟩
  rw [List.length_cons, show 65 - (l.length + 1) = 64 - l.length by omega, List.drop_eq_getElem_cons (by rw [List.length_set]; omega), List.getElem_set_self, List.drop_set_of_lt (by omega), show 64 - l.length + 1 = 65 - l.length by omega, hd]
  rfl
theorem Buf65.at_ {g : Nat} {w : World} {l : List UInt8} (h : Buf65 g w l) (j : Nat) (hj : j < 65) : (∃ v, w.cell? ⟨g, j, none⟩ = some v) ∧ w.frozen? ⟨g, j, none⟩ = false := by
  obtain ⟨zs, ho, -, -⟩ := h
  obtain ⟨g', o', hA, -, -, hc, hf⟩ := ho.at_ (j := j) (by omega)
  cases hA
  have hz : zs.length = 65 := by have := ho.1; omega
  rw [Nat.zero_add] at hc hf
  rw [List.getElem?_eq_getElem (by omega)] at hc
  exact ⟨⟨_, hc⟩, hf⟩
theorem Buf65.rd {g : Nat} {w : World} {l : List UInt8} (h : Buf65 g w l) : Rd w w.heap.size 1 (some ⟨g, 65 - l.length, none⟩) l.length (bcells l) := by
  obtain ⟨zs, ho, hd, hl⟩ := h
  refine ⟨by simp [bcells], .inr ⟨_, rfl, ?_, fun j u hu => ?_⟩⟩
  · exact (ho.lt g rfl).2
  · have h2 := ho.rd
    rcases h2.2 with h0 | ⟨a, ha, -, hc⟩
    · omega
    · cases ha
      rw [Addr.add_lit]
      have := hc (65 - l.length + j) u (by rw [← List.getElem?_drop, hd]; exact hu)
      rwa [Addr.add_lit, Nat.zero_add] at this
set_option maxRecDepth 100000 in
set_option maxHeartbeats 3200000 in
theorem formatbits_any (n : Nat) (h : n < 2 ^ 63) (w : World) (hd : w.cell? ⟨8, 15, none⟩ = some (.int .u8 4)) :
    Calls Tryz.prog 153 #[.slice none 0 0, .int .u64 n, .int .i64 16, .bool false, .bool false] w fun e w' => e = .returned (.tuple #[.slice none 0 0, .string ⟨(hexd n).toArray⟩]) ∧ Below w.heap.size w w' := by
  have hz := zeros64_16 (w.alloc (.cells Tryz.zeroCells298 298)) (cell_past w _ hd)
  have hb0 : Buf65 w.heap.size (w.alloc (.cells Tryz.zeroCells298 298)) [] := ⟨_, Ow.of_row (own_new w Tryz.zeroCells298 298 1 65 (by kernel_rfl) (by simp [maxLen]) w.heap.size (Nat.le_refl _)), by
    rw [List.drop_eq_nil_of_le (by show (Tryz.zeroCells298).toList.length ≤ 65 - 0; rw [Array.length_toList]; exact Nat.le_of_eq (by kernel_rfl))]; rfl, by simp⟩
  have t0 : Below w.heap.size w (w.alloc (.cells Tryz.zeroCells298 298)) := (Below.refl _ _).alloc (Nat.le_refl _) _
  have hlen := hexd_len 15 n (by omega)
  have hal : Tryz.prog.arrayLen 298 = 65 := by kernel_rfl
  clear hd
  go_enter Tryz.func153, Tryz.ntmps153
  go_wp2_with fail
  refine (pow2_16 _).mono ?_
  rintro e w1 ⟨rfl, rfl⟩
  go_wp2_with fail
  refine hz.mono ?_
  rintro e w1 ⟨rfl, rfl⟩
  clear hz
  go_wp2_with fail
  generalize w.alloc _ = w0 at hb0 t0 ⊢
  obtain ⟨g, hg⟩ : ∃ g, w.heap.size = g := ⟨_, rfl⟩
  rw [hg] at hb0 t0 ⊢
  go_loopw [1, 13] (fun u i wr => ∃ (k : Nat) (l : List UInt8), k ≤ n ∧ u = .int .u64 k ∧ i = .int .i64 (65 - l.length : Nat) ∧ hexd n = hexd k ++ l ∧ Buf65 g wr l ∧ Below g w wr) (fun u _ _ => (intOf u).toNat)
  case atStart => exact ⟨n, [], Nat.le_refl _, rfl, rfl, by simp, hb0, t0⟩
  case round =>
    obtain ⟨k, l, hk, rfl, rfl, hl, hb, t⟩ := hrel
    have hkl := hexd_pos k
    have hll : l.length ≤ 15 := by have := congrArg List.length hl; simp at this; omega
    obtain ⟨i, hi⟩ : ∃ i, i = 64 - l.length := ⟨_, rfl⟩
    have hi1 : 65 - l.length = i + 1 := by omega
    rw [hi1]
    have hput := fun c => hb.put (by omega) c
    have hset : ∀ v, Below g w (wr.setCell ⟨g, i, none⟩ v) := fun v => t.setCell (by simp) _
    obtain ⟨⟨v, hv⟩, hf⟩ := hb.at_ i (by omega)
    rw [← hi] at hput
    have hand : bits BinOp.and IntKind.u64 (k : Int) 15 = ((k % 16 : Nat) : Int) := by
      have := bits_mask .u64 64 (by decide) (fun n h0 h1 => by rw [IntKind.wrap_u64]; omega) 4 (by decide) (k : Int) (by omega) (by omega)
      refine Eq.trans this ?_
      omega
    have i49 : i ≤ 64 := by omega
    have i48 : 49 ≤ i := by omega
    have HL := hide hl
    have HP := hide hput
    have HS := hide hset
    clear hl hb t hput hset hlen hb0 t0 hi
    have hsl : ∀ W, (Instr.sliceAt 298 (.pointer (some ⟨g, 0, none⟩)) (some (.int .i64 (i : Int))) none none).run Tryz.prog W = .ok (.slice (some ⟨g, i, none⟩) (65 - i) (65 - i)) W := fun W => by
      have hz := Tryz.sizeOf5
      rw [run_sliceAt_array_l W 298 ⟨g, 0, none⟩ (by kernel_rfl) .i64 (i : Int) (by omega) (by rw [hal]; omega), hal, show Tryz.prog.elem 298 = 5 by kernel_rfl]
      simp [slicedAt, hz, Addr.add_lit]
      omega
    clear hal
    by_cases h16 : k < 16
    · have hi2 : (i : Int) + 1 - 1 = i := by omega
      have hix := hexC_ix k h16
      have hcv := run_string_of (P := Tryz.prog) 22 9 5 Tryz.underlying22 Tryz.underlying5 Tryz.underlying9 _ _ _ (65 - i) _ _ (HP.out (hexC k)).rd
      have hll1 : (hexC k :: l).length = 65 - i := by simp; omega
      rw [hll1, show 65 - (65 - i) = i by omega] at hcv
      go_wp2_with fail
      go_ret2
      have e : hexd n = hexC k :: l := by rw [HL.out, hexd_low h16]; rfl
      rw [e]
      exact ⟨rfl, HS.out _⟩
    · have hi2 : (i : Int) + 1 - 1 = i := by omega
      have hix := hexC_ix (k % 16) (Nat.mod_lt _ (by decide))
      go_wp2_with fail
      go_roundw
      case rel => exact ⟨k / 16, hexC (k % 16) :: l, Nat.le_trans (Nat.div_le_self _ _) hk, by simp, by simp; omega, by rw [HL.out, hexd_high h16]; simp, HP.out _, HS.out _⟩
      case measure => simp [intOf]; omega
set_option maxRecDepth 100000 in
set_option maxHeartbeats 3200000 in
theorem formatint_any (n : Nat) (h : n < 2 ^ 63) (w : World) (hd : w.cell? ⟨8, 15, none⟩ = some (.int .u8 4)) :
    Calls Tryz.prog 251 #[.int .i64 n, .int .i64 16] w fun e w' => e = .returned (.string ⟨(hexd n).toArray⟩) ∧ Below w.heap.size w w' := by
  have q1 := formatbits_any n h w hd
  have i0 : ¬ ((n : Int) < 0) := by omega
  have h1 : Calls Tryz.prog 160 #[.int .i64 n, .int .i64 16] w fun e w' => e = .returned (.string ⟨(hexd n).toArray⟩) ∧ Below w.heap.size w w' := by
    clear hd
    go_enter Tryz.func160, Tryz.ntmps160
    go_wp2_with fail
    refine q1.mono ?_
    rintro e w1 ⟨rfl, b1⟩
    go_wp2_with fail
    go_ret
    exact ⟨rfl, b1⟩
  clear q1 hd
  go_enter Tryz.func251, Tryz.ntmps251
  go_wp2_with fail
  refine h1.mono ?_
  rintro e w1 ⟨rfl, b1⟩
  go_wp2_with fail
  go_ret
  exact ⟨rfl, b1⟩
end Go.Proofs.YtbplnglmjcmfiaaGreatDoor
