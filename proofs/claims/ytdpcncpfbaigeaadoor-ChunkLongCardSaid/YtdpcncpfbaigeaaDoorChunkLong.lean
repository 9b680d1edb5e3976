/- ChunkLong returns true for any three numbers. -/
import Derived.Test.YtdpcncpfbaigeaaDoorMaxLen
import Derived.Test.YtdpcncpfbaigeaaDoorChunk0
import Derived.Test.YtdpcncpfbaigeaaDoorChunkSpec
import Derived.Test.YtdpcncpfbaigeaaDoorLaid7
namespace Go.Proofs.YtdpcncpfbaigeaaDoor
open Go.RowKit
theorem fldsL_snoc : ∀ j, fldsL (j + 1) = fldsL j ++ [97, 58, 32, 98, 13, 10]
  | 0 => rfl
  | j + 1 => by
    show 97 :: 58 :: 32 :: 98 :: 13 :: 10 :: fldsL (j + 1) = 97 :: 58 :: 32 :: 98 :: 13 :: 10 :: (fldsL j ++ [97, 58, 32, 98, 13, 10])
    rw [fldsL_snoc j]
theorem app_list' (a b : ByteArray) : (a ++ b).data.toList = a.data.toList ++ b.data.toList := by simp
end Go.Proofs.YtdpcncpfbaigeaaDoor
namespace Go.Proofs.YtdpcncpfbaigeaaDoor.ChunkLongP
open Go.RowKit
set_option linter.unusedSimpArgs false
set_option linter.unusedVariables false

set_option maxRecDepth 100000 in
set_option maxHeartbeats 3200000 in
theorem walk (n fl dg : Int) (w : World) (hn : (Lit.int .u16 n).wf = true) (hf : (Lit.int .u8 fl).wf = true) (hg : (Lit.int .u8 dg).wf = true) (mx : Int) (hm : w.cell? ⟨1, 0, none⟩ = some (.int .i64 mx)) (hd : w.cell? ⟨3, 15, none⟩ = some (.int .u8 4)) :
    Calls Tryd.prog 3 #[.int .u16 n, .int .u8 fl, .int .u8 dg] w fun e w' => e = .returned (.bool true) ∧ Below w.heap.size w w' := by
  have hn' : 0 ≤ n ∧ n < 65536 := by simp [Lit.wf, IntKind.min, IntKind.max, IntKind.signed, IntKind.bits] at hn; omega
  have hf' : 0 ≤ fl ∧ fl < 256 := by simp [Lit.wf, IntKind.min, IntKind.max, IntKind.signed, IntKind.bits] at hf; omega
  have hg' : 0 ≤ dg ∧ dg < 256 := by simp [Lit.wf, IntKind.min, IntKind.max, IntKind.signed, IntKind.bits] at hg; omega
  obtain ⟨K, hK, hK1⟩ : ∃ K : Nat, n.tmod 1100 = K ∧ K < 1100 := ⟨(n.tmod 1100).toNat, by rw [Int.tmod_eq_emod_of_nonneg hn'.1]; omega, by rw [Int.tmod_eq_emod_of_nonneg hn'.1]; omega⟩
  obtain ⟨F, hF, hF1⟩ : ∃ K : Nat, fl.tmod 70 = K ∧ K < 70 := ⟨(fl.tmod 70).toNat, by rw [Int.tmod_eq_emod_of_nonneg hf'.1]; omega, by rw [Int.tmod_eq_emod_of_nonneg hf'.1]; omega⟩
  obtain ⟨Z, hZ, hZ1⟩ : ∃ K : Nat, dg.tmod 16 = K ∧ K < 16 := ⟨(dg.tmod 16).toNat, by rw [Int.tmod_eq_emod_of_nonneg hg'.1]; omega, by rw [Int.tmod_eq_emod_of_nonneg hg'.1]; omega⟩
  have hmb : 1 < w.heap.size := World.block_lt_of_cell? w _ hm
  have hdb : 3 < w.heap.size := World.block_lt_of_cell? w _ hd
  have hmx : Hid (∀ W : World, Below w.heap.size w W → W.cell? ⟨1, 0, none⟩ = some (.int .i64 mx)) := hide fun W bl => (bl.cell (p := ⟨1, 0, none⟩) hmb).trans hm
  have an : Hid (∀ W : World, Below w.heap.size w W → Calls Tryd.prog 12 #[] W fun e w' => e = .returned (.bool true) ∧ Below W.heap.size W w') := hide fun W bl => ans18_any W ((bl.cell (p := ⟨3, 15, none⟩) hdb).trans hd)
  clear hn hf hg hn' hf' hg' hm hd
  go_enter Tryd.func3, Tryd.ntmps3
  go_wp2_with fail
  go_loopw [8, 9] (fun s i wr => ∃ (k : Nat) (sb : ByteArray), k ≤ K ∧ i = .int .i64 k ∧ s = .string sb ∧ sb.data.toList = [48] ++ (59 :: List.replicate k 97) ∧ wr = w) (fun _ i _ => K - (intOf i).toNat)
  case atStart => exact ⟨0, _, Nat.zero_le _, rfl, rfl, rfl, rfl⟩
  case round =>
    obtain ⟨k, sb, hk, rfl, rfl, hsb, hww⟩ := hrel; obtain rfl : w = wr := hww.symm
    have hsz : sb.size = k + 2 := by rw [size_of, hsb]; simp
    by_cases hlt : k < K
    · have y1 : ¬ 9223372036854775807 < sb.size + 1 := by omega
      have hap : (sb ++ ⟨#[97]⟩ : ByteArray).data.toList = [48] ++ (59 :: List.replicate (k + 1) 97) := by
        rw [app_list', hsb, List.replicate_succ']; simp
      have HAP := hide hap
      clear hap
      go_wp2
      go_roundw
      case rel => exact ⟨k + 1, _, by omega, by go_num, rfl, HAP.out, by first | rfl | trivial⟩
      case measure => simp [intOf]; omega
    · obtain rfl : k = K := by omega
      have hap : (sb ++ ⟨#[13, 10]⟩ : ByteArray).data.toList = [48] ++ (59 :: List.replicate k 97) ++ [13, 10] := by
        rw [app_list', hsb]
      obtain ⟨s2, hs2⟩ : ∃ x : ByteArray, x = sb ++ ⟨#[13, 10]⟩ := ⟨_, rfl⟩
      have y1 : ¬ 9223372036854775807 < sb.size + 2 := by omega
      have HS := hide hs2
      have HAP := hide hap
      clear hap hs2 hlt hk
      go_wp2_with fail
      go_loopw [8, 10] (fun s i wr => ∃ (j : Nat) (sc : ByteArray), j ≤ F ∧ i = .int .i64 j ∧ s = .string sc ∧ sc.data.toList = [48] ++ (59 :: List.replicate k 97) ++ 13 :: 10 :: fldsL j ∧ wr = w) (fun _ i _ => F - (intOf i).toNat)
      case atStart => exact ⟨0, _, Nat.zero_le _, rfl, rfl, by rw [HAP.out]; simp [fldsL], rfl⟩
      case round =>
        obtain ⟨j, sc, hj, rfl, rfl, hsc, hww⟩ := hrel; obtain rfl : w = wr := hww.symm
        have hscz : sc.size = k + 4 + 6 * j := by rw [size_of, hsc]; simp [fldsL_len]; omega
        clear HS HAP hsb hsz y1
        by_cases hlt : j < F
        · have y1 : ¬ 9223372036854775807 < sc.size + 6 := by omega
          have hap : (sc ++ ⟨#[97, 58, 32, 98, 13, 10]⟩ : ByteArray).data.toList = [48] ++ (59 :: List.replicate k 97) ++ 13 :: 10 :: fldsL (j + 1) := by
            rw [app_list', hsc, fldsL_snoc]; simp
          have HAP := hide hap
          clear hap
          go_wp2
          go_roundw
          case rel => exact ⟨j + 1, _, by omega, by go_num, rfl, HAP.out, by first | rfl | trivial⟩
          case measure => simp [intOf]; omega
        · obtain rfl : j = F := by omega
          have hS : (sc ++ ⟨#[13, 10]⟩ : ByteArray).data.toList = longS k j := by
            rw [app_list', hsc]; unfold longS; simp
          have hSz : (sc ++ ⟨#[13, 10]⟩ : ByteArray).size ≤ 2000 := by rw [ByteArray.size_append]; change sc.size + 2 ≤ 2000; omega
          have y1 : ¬ 9223372036854775807 < sc.size + 2 := by omega
          obtain ⟨SB, hSB⟩ : ∃ x : ByteArray, x = sc ++ ⟨#[13, 10]⟩ := ⟨_, rfl⟩
          rw [← hSB] at hS hSz
          clear hsc hscz hlt hj
          go_wp2_with fail
          go_loopw [11, 12] (fun s i wr => ∃ (z : Nat) (sd : ByteArray), z ≤ Z ∧ i = .int .i64 z ∧ s = .string sd ∧ sd.data.toList = List.replicate z 48 ∧ wr = w) (fun _ i _ => Z - (intOf i).toNat)
          case atStart => exact ⟨0, _, Nat.zero_le _, rfl, rfl, rfl, rfl⟩
          case round =>
            obtain ⟨z, sd, hz, rfl, rfl, hsd, hww⟩ := hrel; obtain rfl : w = wr := hww.symm
            have hsdz : sd.size = z := by rw [size_of, hsd]; simp
            by_cases hlt : z < Z
            · have y2 : ¬ 9223372036854775807 < sd.size + 1 := by omega
              have hap : (sd ++ ⟨#[48]⟩ : ByteArray).data.toList = List.replicate (z + 1) 48 := by
                rw [app_list', hsd, List.replicate_succ']
              have HAP := hide hap
              clear hap
              go_wp2
              go_roundw
              case rel => exact ⟨z + 1, _, by omega, by go_num, rfl, HAP.out, by first | rfl | trivial⟩
              case measure => simp [intOf]; omega
            · obtain rfl : z = Z := by omega
              have hT : (sd ++ ⟨#[13, 10, 13, 10]⟩ : ByteArray).data.toList = List.replicate z 48 ++ 13 :: 10 :: [13, 10] := by
                rw [app_list', hsd]
              have hTz : (sd ++ ⟨#[13, 10, 13, 10]⟩ : ByteArray).size ≤ 100 := by rw [ByteArray.size_append]; change sd.size + 4 ≤ 100; omega
              have y2 : ¬ 9223372036854775807 < sd.size + 4 := by omega
              obtain ⟨TB, hTB⟩ : ∃ x : ByteArray, x = sd ++ ⟨#[13, 10, 13, 10]⟩ := ⟨_, rfl⟩
              rw [← hTB] at hT hTz
              clear hsd hsdz hlt hz
              obtain ⟨sz, hsz'⟩ : ∃ m, m = SB.size := ⟨_, rfl⟩
              obtain ⟨tz, htz'⟩ : ∃ m, m = TB.size := ⟨_, rfl⟩
              have hszB : sz ≤ 2000 := by omega
              have htzB : tz ≤ 100 := by omega
              have hSl : (longS k j).length ≤ 2000 := by rw [← hS, ← size_of]; exact hSz
              have hTl : (List.replicate z 48 ++ 13 :: 10 :: [13, 10] : List UInt8).length ≤ 100 := by rw [← hT, ← size_of]; exact hTz
              have HSZ := hide hsz'
              have HTZ := hide htz'
              have HSB := hide hSB
              have HTB := hide hTB
              have HS := hide hS
              have HT := hide hT
              clear hsz' htz' hSB hTB hS hT
              go_wp2_with fail
              refine (chunknew_any w).mono ?_
              rintro e w1 ⟨rfl, x1, b1⟩
              go_wp2_with fail
              refine (chunknew_any w1).mono ?_
              rintro e w2 ⟨rfl, x2, b2⟩
              obtain ⟨D, hDw⟩ : ∃ D, w.heap.size = D := ⟨_, rfl⟩
              have t2 := b1.trans (b2.mono b1.size)
              have d1 := (dec_new x1 w.heap.size (Nat.le_refl _)).below b2
              have d2 := dec_new x2 w.heap.size b1.size
              have hDG : w.heap.size < w1.heap.size := x1.1
              have hG2 := x2.1
              obtain ⟨G, hGw⟩ : ∃ G, w1.heap.size = G := ⟨_, rfl⟩
              rw [hDw] at d1 d2 hDG t2 hmb hmx an ⊢
              rw [hGw] at d2 hDG hG2 ⊢
              clear b1 b2 x1 x2 hGw
              obtain ⟨A3, c3, w3, hcv, ho3, b3⟩ := conv_ow w2 SB (by have := HSZ.out; omega)
              rw [← HSZ.out] at hcv ho3
              rw [HS.out] at ho3
              have t3 := t2.trans (b3.mono (by omega))
              have e1 := d1.below b3
              have e2 := d2.below b3
              have hz3 := b3.size
              have p1 := decfeed0_any D D _ w3 e1 rfl _ sz c3 _ (longS k j) ho3.rd (by omega) (by omega)
              rw [HSB.out] at hcv
              clear d1 d2 b3 e1 ho3 t2
              go_wp2_with fail
              refine p1.mono ?_
              rintro e w4 ⟨rfl, own4, d4, ow4, g4⟩
              have t4 := t3.grown g4 (by omega) (by intro r e; cases e; omega)
              have e4 := e2.grown g4 (by omega) (by simp)
              have hz4 := g4.size
              clear p1 hcv e2 t3 g4
              obtain ⟨A5, c5, w5, hcv, ho5, b5⟩ := conv_ow w4 TB (by have := HTZ.out; omega)
              rw [← HTZ.out] at hcv ho5
              rw [HT.out] at ho5
              have t5 := t4.trans (b5.mono (by omega))
              have f4 := d4.below b5
              have f2 := e4.below b5
              have hz5 := b5.size
              have p2 := decfeed0_any G D _ w5 f2 rfl _ tz c5 _ (List.replicate z 48 ++ 13 :: 10 :: [13, 10]) ho5.rd (by omega) (by omega)
              rw [HTB.out] at hcv
              clear d4 e4 b5 f2 ho5 t4
              go_wp2_with fail
              refine p2.mono ?_
              rintro e w6 ⟨rfl, own6, d6, ow6, g6⟩
              have t6 := t5.grown g6 (by omega) (by intro r e; cases e; omega)
              have e6 := f4.grown g6 (by omega) (by intro e; have := ow4 _ e; omega)
              have hz6 := g6.size
              clear p2 hcv t5 f4 g6
              have p3 := dectake_any D D own4 _ 1 mx w6 e6 (fun g e => by have := ow4 g e; omega) (by omega) ⟨Nat.zero_le _, Nat.zero_le _, by show 0 + (longS k j).length ≤ _; omega⟩ (by decide) (hmx.out w6 t6) (by omega)
              have p4 := fun (W : World) (q : IsDec W G D own6 ⟨List.replicate z 48 ++ 13 :: 10 :: [13, 10], 0, 0, 0, 0⟩) (b : Below D w W) (hz : w6.heap.size ≤ W.heap.size) => dectake_any G D own6 _ 1 mx W q (fun g e => by have := ow6 g e; omega) (by omega) ⟨Nat.zero_le _, Nat.zero_le _, by show 0 + (List.replicate z 48 ++ 13 :: 10 :: [13, 10] : List UInt8).length ≤ _; omega⟩ (by decide) (hmx.out W b) (by omega)
              simp only [long_d k j hK1] at p3
              simp only [long_g z (by omega)] at p4
              clear HSB HTB HS HT HSZ HTZ e6
              obtain ⟨E1, hE1⟩ : ∃ E : Nat, E = if 1024 < k + 4 ∨ 64 < j then 6 else 8 := ⟨_, rfl⟩
              obtain ⟨E2, hE2⟩ : ∃ E : Nat, E = if z < 1 ∨ 12 < z then 2 else 8 := ⟨_, rfl⟩
              rw [← hE1] at p3
              simp only [← hE2] at p4
              have HE1 := hide hE1
              have HE2 := hide hE2
              clear hE1 hE2
              go_wp2_with fail
              refine p3.mono ?_
              rintro e w7 ⟨A7, c7, rfl, -, -, g7⟩
              have t7 := t6.grown g7 (by omega) (by intro r e; cases e; omega)
              have d7 := d6.grown g7 (by omega) (by intro e; have := ow6 _ e; omega)
              have hz7 := g7.size
              have p5 := p4 w7 d7 t7 hz7
              clear p3 p4 d6 t6 g7 d7
              go_wp2_with fail
              refine p5.mono ?_
              rintro e w8 ⟨A8, c8, rfl, -, -, g8⟩
              have t8 := t7.grown g8 (by omega) (by intro r e; cases e; omega)
              have hz8 := g8.size
              have an8 := an.out w8 t8
              clear p5 t7 g8
              have hc1 : ((1024 : Int) < k + 4 ∧ E1 = 6) ∨ (¬ (1024 : Int) < k + 4 ∧ (64 : Int) < j ∧ E1 = 6) ∨ (¬ (1024 : Int) < k + 4 ∧ ¬ (64 : Int) < j ∧ E1 = 8) := by
                have := HE1.out
                by_cases h1 : 1024 < k + 4
                · exact .inl ⟨by omega, by rw [this, if_pos (.inl h1)]⟩
                · by_cases h2 : 64 < j
                  · exact .inr (.inl ⟨by omega, by omega, by rw [this, if_pos (.inr h2)]⟩)
                  · exact .inr (.inr ⟨by omega, by omega, by rw [this, if_neg (by omega)]⟩)
              have hc2 : ((z : Int) < 1 ∧ E2 = 2) ∨ (¬ (z : Int) < 1 ∧ (12 : Int) < z ∧ E2 = 2) ∨ (¬ (z : Int) < 1 ∧ ¬ (12 : Int) < z ∧ E2 = 8) := by
                have := HE2.out
                by_cases h1 : z < 1
                · exact .inl ⟨by omega, by rw [this, if_pos (.inl h1)]⟩
                · by_cases h2 : 12 < z
                  · exact .inr (.inl ⟨by omega, by omega, by rw [this, if_pos (.inr h2)]⟩)
                  · exact .inr (.inr ⟨by omega, by omega, by rw [this, if_neg (by omega)]⟩)
              clear HE1 HE2
              rcases hc1 with ⟨u1, rfl⟩ | ⟨u1, u2, rfl⟩ | ⟨u1, u2, rfl⟩ <;> rcases hc2 with ⟨v1, rfl⟩ | ⟨v1, v2, rfl⟩ | ⟨v1, v2, rfl⟩
              all_goals
                go_wp2_with fail
                refine an8.mono ?_
                rintro e w9 ⟨rfl, b9⟩
                have t9 := t8.trans (b9.mono (by omega))
                go_wp2_with fail
                go_ret
                rw [hDw]
                exact ⟨rfl, t9⟩
noncomputable def laidWorld (os : Os) : World := laidWorld7 os
end Go.Proofs.YtdpcncpfbaigeaaDoor.ChunkLongP
