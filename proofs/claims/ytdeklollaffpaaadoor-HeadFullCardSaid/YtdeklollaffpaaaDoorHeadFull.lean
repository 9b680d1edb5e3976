/- HeadFull returns true for any two numbers. -/
import Derived.Test.YtdeklollaffpaaaDoorPrintReq
import Derived.Test.YtdeklollaffpaaaDoorFullSpec
import Derived.Test.YtdeklollaffpaaaDoorSameF
import Derived.Test.YtdeklollaffpaaaDoorRefName
import Derived.Test.YtdeklollaffpaaaDoorLaid6
namespace Go.Proofs.YtdeklollaffpaaaDoor.HeadFullP
open Go.RowKit

set_option linter.unusedSimpArgs false
theorem made_bytes (u : Nat) : (madeCells (Value.int .u8 0).cells (u * 1)).toList = bcells (List.replicate u 0) := by
  apply List.ext_getElem
  · simp [madeCells, bcells]
  · intro i h1 h2
    simp [madeCells, bcells, Value.cells, Nat.mod_one]
theorem make_bytes (w : World) (u : Nat) (hu : u ≤ 1000000) : ∃ w', (Instr.makeSlice 31 (.int .i64 u) (.int .i64 u)).run Tryd.prog w = .ok (.slice (some ⟨w.heap.size, 0, none⟩) u u) w' ∧
    Ow w' w.heap.size 1 (.slice (some ⟨w.heap.size, 0, none⟩) u u) u (bcells (List.replicate u 0)) ∧ Below w.heap.size w w' := by
  obtain ⟨i0, hi0, hz0, hz1, hz2⟩ := info_parts infoU8
  have h := run_make (P := Tryd.prog) w 31 5 i0 _ Tryd.underlying31 hi0 hz0 .i64 .i64 u u (by omega) (by omega) (by rw [hz2]; omega) (by omega)
  rw [Int.toNat_natCast, hz1] at h
  refine ⟨_, h, ?_, (Below.refl _ _).alloc (Nat.le_refl _) _⟩
  have ho := own_new w (madeCells (Value.int .u8 0).cells (u * 1)) 5 1 u (by rw [size_madeCells]) (by unfold maxLen; omega) w.heap.size (Nat.le_refl _)
  rw [made_bytes] at ho
  exact Ow.of_row ho
theorem bcells_u8 (l : List UInt8) : ∀ x ∈ bcells l, ∃ z : Int, x = .int .u8 z := by
  intro x hx
  obtain ⟨b, _, rfl⟩ := List.mem_map.1 hx
  exact ⟨_, rfl⟩
theorem preq_get (fs : List (List UInt8 × List UInt8)) : preqE [71, 69, 84] [47] 1 fs = printE get1 fs := by
  unfold preqE
  rw [if_pos (by decide)]
  have h : Lib.decDigits 1 = [49] := by unfold Lib.decDigits; rw [dif_pos (by omega)]; rfl
  unfold reqFirst
  rw [show Int.toNat 1 = 1 from rfl, h]
  rfl
theorem fill_step (k u : Nat) (h : k < u) : (List.replicate k (118 : UInt8) ++ List.replicate (u - k) 0).set k 118 = List.replicate (k + 1) 118 ++ List.replicate (u - (k + 1)) 0 := by
  rw [show u - k = (u - (k + 1)) + 1 by omega, List.replicate_succ, List.set_append_right _ _ (by simp), List.length_replicate, Nat.sub_self, List.set_cons_zero, List.replicate_succ', List.append_assoc]
  rfl


set_option maxRecDepth 100000 in
set_option maxHeartbeats 3200000 in
theorem walk (n size : Int) (w : World) (hn : (Lit.int .u8 n).wf = true) (hs : (Lit.int .u16 size).wf = true) (mx : Int) (hm : w.cell? ⟨0, 0, none⟩ = some (.int .i64 mx)) :
    Calls Tryd.prog 5 #[.int .u8 n, .int .u16 size] w fun e w' => e = .returned (.bool true) ∧ Below w.heap.size w w' := by
  have hn' : 0 ≤ n ∧ n < 256 := by simp [Lit.wf, IntKind.min, IntKind.max, IntKind.signed, IntKind.bits] at hn; omega
  have hs' : 0 ≤ size ∧ size < 65536 := by simp [Lit.wf, IntKind.min, IntKind.max, IntKind.signed, IntKind.bits] at hs; omega
  obtain ⟨K, hK, hK70⟩ : ∃ K : Nat, n.tmod 70 = K ∧ K < 70 := ⟨(n.tmod 70).toNat, by rw [Int.tmod_eq_emod_of_nonneg hn'.1]; omega, by rw [Int.tmod_eq_emod_of_nonneg hn'.1]; omega⟩
  obtain ⟨u, hu, hu42⟩ : ∃ K : Nat, size.tmod 4200 = K ∧ K < 4200 := ⟨(size.tmod 4200).toNat, by rw [Int.tmod_eq_emod_of_nonneg hs'.1]; omega, by rw [Int.tmod_eq_emod_of_nonneg hs'.1]; omega⟩
  have hmb : 0 < w.heap.size := World.block_lt_of_cell? w _ hm
  have hmx := fun (W : World) (bl : Below w.heap.size w W) => (bl.cell (p := ⟨0, 0, none⟩) hmb).trans hm
  obtain ⟨w1, hmk, ho1, b1⟩ := make_bytes w u (by omega)
  obtain ⟨i0, hi0, hz0, hz1, hz2⟩ := info_parts infoFld
  clear hn hs hn' hs'
  go_enter Tryd.func5, Tryd.ntmps5
  go_wp2_with fail
  obtain ⟨g, hg⟩ : ∃ g, w.heap.size = g := ⟨_, rfl⟩
  have hgw : g < w1.heap.size := by
    rcases ho1.2 with ⟨h1, -⟩ | ⟨g', off, cap, h1, -, h2, -⟩
    · cases h1
    · cases h1; omega
  rw [hg] at ho1 b1 hmb hmx ⊢
  go_loopw [7] (fun i wr => ∃ k : Nat, k ≤ u ∧ i = .int .i64 k ∧ Ow wr g 1 (.slice (some ⟨g, 0, none⟩) u u) u (bcells (List.replicate k 118 ++ List.replicate (u - k) 0)) ∧ Below g w wr) (fun i _ => u - (intOf i).toNat)
  case atStart => exact ⟨0, Nat.zero_le _, rfl, by simpa using ho1, b1⟩
  case round =>
    obtain ⟨k, hk, rfl, ho, hb⟩ := hrel
    by_cases hlt : k < u
    · obtain ⟨g', o', hA, hg1, hg2, hc, hf⟩ := ho.at_ (j := k) (by omega)
      cases hA
      have hst := fun v => ho.store (j := k) (by omega) v
      have hset : ∀ v, Below g w (wr.setCell ⟨g, 0 + k, none⟩ v) := fun v => hb.setCell (by simp) _
      simp only [Nat.zero_add] at hc hf hst hset
      have HS := hide hst
      have HB := hide hset
      have hlz : k < (bcells (List.replicate k 118 ++ List.replicate (u - k) 0)).length := by rw [bcells_length]; simp; omega
      obtain ⟨z, hz⟩ := bcells_u8 _ _ (List.getElem_mem hlz)
      rw [List.getElem?_eq_getElem hlz, hz] at hc
      have hstep := fill_step k u hlt
      have hsb : (bcells (List.replicate k 118 ++ List.replicate (u - k) 0)).set k (.int .u8 118) = bcells (List.replicate (k + 1) 118 ++ List.replicate (u - (k + 1)) 0) := by
        rw [← hstep]; unfold bcells; rw [List.map_set]; rfl
      have hrel' := HS.out (.int .u8 118)
      rw [hsb] at hrel'
      have HR := hide hrel'
      clear ho hst hset hb HS hstep hsb hrel' hlz hz
      go_wp2
      go_roundw
      case rel => exact ⟨k + 1, by omega, by go_num, HR.out, HB.out _⟩
      case measure => simp [intOf]; omega
    · obtain rfl : k = u := by omega
      have hv : Rd wr wr.heap.size 1 (some ⟨g, 0, none⟩) k (bcells (List.replicate k 118)) := by simpa using ho.rd
      clear ho
      obtain ⟨wb, hwb⟩ : ∃ wb, wb = wr := ⟨_, rfl⟩
      rw [← hwb] at hv hb ⊢
      clear hwb wr hlt hk b1 ho1 hmk
      go_wp2_with fail
      go_loopw [8, 9, 10] (fun s l i wr => ∃ (j : Nat) (sb : ByteArray), j ≤ K ∧ i = .int .i64 j ∧ s = .string sb ∧ sb.data.toList = get1 ++ crlfL ++ linesB (fullL j) ∧ wr.ownsRow wb.heap.size 33 2 l j (fcells (fullL j)) ∧ Below wb.heap.size wb wr) (fun _ _ i _ => K - (intOf i).toNat)
      case atStart => exact ⟨0, _, Nat.zero_le _, rfl, rfl, rfl, World.ownsRow_nil _ _ _ _, Below.refl _ _⟩
      case round =>
        obtain ⟨j, sb, hj, rfl, rfl, hsb, ho, hbb⟩ := hrel
        have hbz := hbb.size
        have hsz : sb.size ≤ 2000 := by
          have := full_len j (by omega)
          rw [size_of, hsb]
          simp only [List.length_append, get1, crlfL, List.length_cons, List.length_nil]
          omega
        by_cases hlt : j < K
        · have q1 := fun w => dec_any j (by omega) w
          have hul := udig_length j
          obtain ⟨D, hD⟩ : ∃ D : ByteArray, D = ⟨(udig j).toArray⟩ := ⟨_, rfl⟩
          rw [← hD] at q1
          have hDs : D.size ≤ 20 := by rw [hD, mk_size]; omega
          have hap : (sb ++ ⟨#[97]⟩ ++ D ++ ⟨#[58, 32, 98, 13, 10]⟩ : ByteArray).data.toList = get1 ++ crlfL ++ linesB (fullL (j + 1)) := by
            rw [app_list, app_list, app_list, hsb, hD, fullL_succ, linesB_snoc, List.append_assoc, List.append_assoc, List.append_assoc]
            simp [fldLn, fullF, crlfL]
          have hfc : fcells (fullL (j + 1)) = fcells (fullL j) ++ [.string (⟨#[97]⟩ ++ D), .string ⟨#[98]⟩] := by
            rw [fullL_succ, ← fcells_append]
            congr 1
            show [Value.string ⟨(97 :: udig j).toArray⟩, .string ⟨#[98]⟩] = _
            rw [show (⟨#[97]⟩ ++ D : ByteArray) = ⟨(97 :: udig j).toArray⟩ from bytes_ext (by rw [app_list, hD]; rfl)]
          have HAP := hide hap
          have HFC := hide hfc
          have y1 : ¬ 9223372036854775807 < sb.size + 1 := by omega
          have y2 : ¬ 9223372036854775807 < sb.size + 1 + D.size := by omega
          have y3 : ¬ 9223372036854775807 < sb.size + 1 + D.size + 5 := by omega
          have y4 : ¬ 9223372036854775807 < 1 + D.size := by omega
          clear hap hfc hD hul
          go_wp2_with fail
          refine (q1 wr).mono ?_
          rintro e w2 ⟨rfl, b2⟩
          have ho2 := own_below ho b2
          have t2 := hbb.trans (b2.mono hbz)
          have t2z := t2.size
          go_wp2_with fail
          refine (q1 w2).mono ?_
          rintro e w3 ⟨rfl, b3⟩
          have ho3 := own_below ho2 b3
          have t3 := t2.trans (b3.mono t2z)
          have t3z := t3.size
          go_wp2_with (at_builtin; refine wpl_push rfl _ _ _ rfl wb.heap.size i0 _ 2 32 Tryd.underlying25 hi0 hz0 hz1 hz2 rfl (by omega) _ _ _ rfl _ rfl ho3 rfl (by simp [Value.oneCell']) (by unfold maxLen; omega) (by omega) t3z ?_; intro v1 w4 hown1 hbel1 _)
          go_roundw
          case rel => exact ⟨j + 1, _, by omega, by go_num, rfl, HAP.out, by rw [HFC.out]; exact hown1, t3.trans hbel1⟩
          case measure => simp [intOf]; omega
        · obtain rfl : j = K := by omega
          have hSB : (sb ++ ⟨#[13, 10]⟩ : ByteArray).data.toList = headB get1 (fullL j) := by rw [app_list, hsb]; rfl
          have hSBz : (sb ++ ⟨#[13, 10]⟩ : ByteArray).size ≤ 2002 := by rw [ByteArray.size_append]; change sb.size + 2 ≤ 2002; omega
          obtain ⟨SB, hSBd⟩ : ∃ x : ByteArray, x = sb ++ ⟨#[13, 10]⟩ := ⟨_, rfl⟩
          rw [← hSBd] at hSB hSBz
          have y1 : ¬ 9223372036854775807 < sb.size + 2 := by omega
          have gz : ∀ W : World, Below g w W → g ≤ W.heap.size := fun W b => hg ▸ b.size
          have t0 := hb.trans (hbb.mono (gz _ hb))
          have hv1 := hv.below hbb
          obtain ⟨A1, c1, w2, hcv1, rr1, b2⟩ := conv_bytes wr SB (by omega)
          obtain ⟨sz, hsz'⟩ : ∃ m, m = SB.size := ⟨_, rfl⟩
          rw [← hsz'] at hcv1 rr1 hSBz
          rw [hSBd] at hcv1
          have t2 := t0.trans (b2.mono (gz _ t0))
          have hv2 := hv1.below (b2.mono hbz)
          have hl2 := own_below ho b2
          have p1 := parsereq_any (some A1) sz c1 w2.heap.size SB.data.toList mx w2 rr1 (Nat.le_refl _) (by omega) (hmx w2 t2)
          obtain ⟨E, hE⟩ : ∃ E, E = reqE (headB get1 (fullL j)) := ⟨_, rfl⟩
          obtain ⟨fl, hfl⟩ : ∃ fl, fl = rFs (headB get1 (fullL j)) := ⟨_, rfl⟩
          obtain ⟨vM, hvM⟩ : ∃ x : ByteArray, x = ⟨(rM (headB get1 (fullL j))).toArray⟩ := ⟨_, rfl⟩
          obtain ⟨vT, hvT⟩ : ∃ x : ByteArray, x = ⟨(rT (headB get1 (fullL j))).toArray⟩ := ⟨_, rfl⟩
          obtain ⟨vN, hvN⟩ : ∃ x : Nat, x = rN (headB get1 (fullL j)) := ⟨_, rfl⟩
          simp only [hSB, ← hE, ← hfl, ← hvM, ← hvT, ← hvN] at p1
          have hcase : (64 < j ∧ E = 6) ∨ (¬ 64 < j ∧ E = 0 ∧ fl = fullL j) := by
            obtain ⟨f1, f2⟩ := full_parse j hK70
            rw [← hE] at f1
            by_cases h : 64 < j
            · rw [if_pos h] at f1; exact .inl ⟨h, f1⟩
            · rw [if_neg h] at f1
              refine .inr ⟨h, f1, ?_⟩
              rw [hfl]; unfold rFs
              rw [← hE, if_pos f1, f2]
          obtain ⟨F, hF⟩ : ∃ F, F = printE get1 (fullL j) := ⟨_, rfl⟩
          have hcF : F = if 64 < j then 2 else 0 := by rw [hF, full_print j hK70]
          have hfs : fsOk (fullL j) := by
            intro f hf
            obtain ⟨i, hi, rfl⟩ := List.mem_map.1 hf
            have h1 := udig_length i
            have h2 := List.mem_range.1 hi
            simp only [fullF, List.length_cons, List.length_nil]
            omega
          have p2 := fun (W : World) (A : Option Addr) (c : Nat) (r : Rd W W.heap.size 2 A j (fcells (fullL j))) => printreq_any ⟨#[71, 69, 84]⟩ ⟨#[47]⟩ 1 A j c W.heap.size (fullL j) W r (Nat.le_refl _) (by omega) hfs (by decide) (by decide)
          simp only [preq_get, ← hF] at p2
          obtain ⟨G, hG⟩ : ∃ G, G = reqE (get1 ++ crlfL ++ ([97, 58, 32] ++ List.replicate k 118) ++ endL) := ⟨_, rfl⟩
          have hcG : G = if k ≤ 4096 then 0 else 2 := by rw [hG, full_value k hu42]
          obtain ⟨V, hV⟩ : ∃ V : ByteArray, V = ⟨(List.replicate k 118).toArray⟩ := ⟨_, rfl⟩
          have hVz : V.size = k := by rw [hV, mk_size]; simp
          have hap : (⟨#[71, 69, 84, 32, 47, 32, 72, 84, 84, 80, 47, 49, 46, 49, 13, 10, 97, 58, 32]⟩ ++ V ++ ⟨#[13, 10, 13, 10]⟩ : ByteArray).data.toList = get1 ++ crlfL ++ ([97, 58, 32] ++ List.replicate k 118) ++ endL := by
            rw [app_list, app_list, hV]; rfl
          have hapz : (⟨#[71, 69, 84, 32, 47, 32, 72, 84, 84, 80, 47, 49, 46, 49, 13, 10, 97, 58, 32]⟩ ++ V ++ ⟨#[13, 10, 13, 10]⟩ : ByteArray).size = 19 + k + 4 := by
            rw [ByteArray.size_append, ByteArray.size_append, hVz]; rfl
          have y5 : ¬ 9223372036854775807 < 19 + V.size := by omega
          have y6 : ¬ 9223372036854775807 < 19 + V.size + 4 := by omega
          have HFS := hide hfs
          have HCV : Hid (∀ W : World, Rd W wb.heap.size 1 (some ⟨g, 0, none⟩) k (bcells (List.replicate k 118)) → (convert 31 9 (.slice (some ⟨g, 0, none⟩) k k)).run Tryd.prog W = .ok (.string V) W) := hide fun W r => by
            have := run_string_of (P := Tryd.prog) 31 9 5 Tryd.underlying31 Tryd.underlying5 Tryd.underlying9 W wb.heap.size k k (some ⟨g, 0, none⟩) (List.replicate k 118) r
            rw [← hV] at this; exact this
          have b2s := b2.size
          have HcF := hide hcF
          have HcG := hide hcG
          have HcE := hide hcase
          clear hfs hSB hE hfl hvM hvT hvN hF hV hv hv1 hb hbb ho rr1 b2 hsb hsz' hSBd hcF hcG hcase
          go_wp2_with fail
          refine p1.mono ?_
          rintro e w3 ⟨A3, c3, rfl, r3, b3⟩
          have t3 := t2.trans (b3.mono (gz _ t2))
          have hv3 := hv2.below (b3.mono (Nat.le_trans hbz b2s))
          have hl3 := own_below hl2 b3
          have hbx3 := b3.size
          clear p1 hcv1 hv2 hl2 b3
          obtain ⟨A9, c9, rfl, -⟩ := own_shape hl3
          go_upto_region 15 with (fail)
          have k33 := cell_of_row (w3.alloc (.cells #[.string vM, .string vT, .int .i64 vN, .slice A3 fl.length c3] 27)) w3.heap.size 3 #[.string vM, .string vT, .int .i64 vN, .slice A3 fl.length c3] 27 (0, 0) (heap_alloc_new w3 _)
          have hbx : Below w3.heap.size w3 (w3.alloc (.cells #[.string vM, .string vT, .int .i64 vN, .slice A3 fl.length c3] 27)) := (Below.refl _ _).alloc (Nat.le_refl _) _
          have gx : w3.heap.size < (w3.alloc (.cells #[.string vM, .string vT, .int .i64 vN, .slice A3 fl.length c3] 27)).heap.size := by simp
          generalize w3.alloc _ = w4 at k33 hbx gx ⊢
          have t4 := t3.trans (hbx.mono (gz _ t3))
          have hv4 := hv3.below (hbx.mono (Nat.le_trans hbz (Nat.le_trans b2s hbx3)))
          have hl4 := own_below hl3 hbx
          have r4 := r3.below hbx
          simp at k33
          obtain ⟨gq, hgq⟩ : ∃ gq, w3.heap.size = gq := ⟨_, rfl⟩
          rw [hgq] at k33 gx r4 ⊢
          have hB4 : wb.heap.size ≤ w4.heap.size := by have := hbx.size; omega
          clear hbx hl3 hv3 r3 t3 hbx3
          have p3 := p2 w4 A9 c9 (Rd.of_own hl4)
          clear p2
          go_wp2_with fail
          refine p3.mono ?_
          rintro e w5 ⟨A5, c5, rfl, -, -, -, b5⟩
          have t5 := t4.trans (b5.mono (gz _ t4))
          have k53 := (b5.cell (p := ⟨gq, 3, none⟩) gx).trans k33
          have hv5 := hv4.below (b5.mono hB4)
          have r5 := r4.below (b5.mono (Nat.le_of_lt gx))
          have hl5 := (Rd.of_own hl4).below b5
          have gx5 : gq < w5.heap.size := Nat.lt_of_lt_of_le gx b5.size
          have hB5 : wb.heap.size ≤ w5.heap.size := Nat.le_trans hB4 b5.size
          have hl4z : w4.heap.size ≤ w5.heap.size := b5.size
          clear p3 k33 r4 hl4 hv4 t4 b5 gx
          have hcv2 := HCV.out w5 hv5
          obtain ⟨A6, c6, w6, hcv3, rr6, b6⟩ := conv_bytes w5 (⟨#[71, 69, 84, 32, 47, 32, 72, 84, 84, 80, 47, 49, 46, 49, 13, 10, 97, 58, 32]⟩ ++ V ++ ⟨#[13, 10, 13, 10]⟩ : ByteArray) (by omega)
          have t6 := t5.trans (b6.mono (gz _ t5))
          have p4 := parsereq_any (some A6) _ c6 w6.heap.size _ mx w6 rr6 (Nat.le_refl _) (by omega) (hmx w6 t6)
          obtain ⟨sz2, hsz2⟩ : ∃ m, m = (⟨#[71, 69, 84, 32, 47, 32, 72, 84, 84, 80, 47, 49, 46, 49, 13, 10, 97, 58, 32]⟩ ++ V ++ ⟨#[13, 10, 13, 10]⟩ : ByteArray).size := ⟨_, rfl⟩
          rw [hap, ← hG] at p4
          rw [← hsz2] at p4 hcv3
          obtain ⟨B4, hB4'⟩ : ∃ x, x = (get1 ++ crlfL ++ ([97, 58, 32] ++ List.replicate k 118) ++ endL) := ⟨_, rfl⟩
          rw [← hB4'] at p4
          have k63 := (b6.cell (p := ⟨gq, 3, none⟩) gx5).trans k53
          have r6 := r5.below (b6.mono (Nat.le_of_lt gx5))
          have hl6 := hl5.below (b6.mono hl4z)
          have hs6 := b6.size
          clear hB4' hsz2 hap hapz hG rr6 b6 hv5 t5 r5 hl5 k53 HCV
          go_wp2_with fail
          refine p4.mono ?_
          rintro e w7 ⟨A7, c7, rfl, -, b7⟩
          have t7 := t6.trans (b7.mono (gz _ t6))
          have k73 := (b7.cell (p := ⟨gq, 3, none⟩) (by show gq < _; omega)).trans k63
          have r7 := r6.below (b7.mono (by omega))
          have hl7 := hl6.below (b7.mono (by omega))
          have hs7 := b7.size
          clear p4 hcv3 hcv2 k63 r6 hl6 b7 t6
          generalize preqB _ _ _ _ = pb
          generalize rFs B4 = f4
          generalize rM B4 = m4
          generalize rT B4 = t44
          generalize rN B4 = n4
          clear B4
          go_upto_region 17 with (fail)
          have hbx : Below w7.heap.size w7 (w7.alloc (.cells #[.string ⟨m4.toArray⟩, .string ⟨t44.toArray⟩, .int .i64 n4, .slice A7 f4.length c7] 27)) := (Below.refl _ _).alloc (Nat.le_refl _) _
          generalize w7.alloc _ = w8 at hbx ⊢
          have t8 := t7.trans (hbx.mono (gz _ t7))
          have k83 := (hbx.cell (p := ⟨gq, 3, none⟩) (by show gq < _; omega)).trans k73
          have r8 := r7.below (hbx.mono (by omega))
          have hl8 := hl7.below (hbx.mono (by omega))
          have an := ans17_any w8 mx (hmx w8 t8)
          have hs8 := hbx.size
          clear hbx k73 r7 hl7 t7 hmx
          by_cases hk : k ≤ 4096
          · have hG0 : G = 0 := by rw [HcG.out, if_pos hk]
            subst hG0
            rcases HcE.out with ⟨h64, rfl⟩ | ⟨h64, rfl, rfl⟩
            · have hF0 : F = 2 := by rw [HcF.out, if_pos h64]
              subst hF0
              have hjn : ¬ ((j : Int) ≤ 64) := by omega
              have hkn : ((k : Int) ≤ 4096) := by omega
              go_wp2_with fail
              refine an.mono ?_
              rintro e w9 ⟨rfl, b9⟩
              go_wp2_with fail
              go_ret
              rw [hg]
              exact ⟨congrArg (fun b => Ending.returned (.bool b)) (by simp [hjn, hkn]), t8.trans (b9.mono (gz _ t8))⟩
            · have hF0 : F = 0 := by rw [HcF.out, if_neg h64]
              subst hF0
              have hjn : ((j : Int) ≤ 64) := by omega
              have hkn : ((k : Int) ≤ 4096) := by omega
              go_wp2_with fail
              refine an.mono ?_
              rintro e w9 ⟨rfl, b9⟩
              have k93 := (b9.cell (p := ⟨gq, 3, none⟩) (by show gq < _; omega)).trans k83
              have r9 := r8.below (b9.mono (by omega))
              have hl9 := hl8.below (b9.mono (by omega))
              have t9 := t8.trans (b9.mono (gz _ t8))
              clear an b9 k83 r8 hl8 t8
              go_wp2_with fail
              have hlen := fullL_len j
              refine (samef_any A3 A9 _ c3 j c9 _ _ _ _ w9 r9 hl9 (by omega) (by omega)).mono ?_
              rintro e w10 ⟨rfl, kq, rfl⟩
              rw [decide_eq_true rfl]
              go_wp2_with fail
              go_ret
              rw [hg]
              exact ⟨congrArg (fun b => Ending.returned (.bool b)) (by simp [hjn, hkn]), below_drewN t9⟩
          · have hG0 : G = 2 := by rw [HcG.out, if_neg hk]
            subst hG0
            rcases HcE.out with ⟨h64, rfl⟩ | ⟨h64, rfl, rfl⟩
            · have hF0 : F = 2 := by rw [HcF.out, if_pos h64]
              subst hF0
              have hjn : ¬ ((j : Int) ≤ 64) := by omega
              have hkn : ¬ ((k : Int) ≤ 4096) := by omega
              go_wp2_with fail
              refine an.mono ?_
              rintro e w9 ⟨rfl, b9⟩
              go_wp2_with fail
              go_ret
              rw [hg]
              exact ⟨congrArg (fun b => Ending.returned (.bool b)) (by simp [hjn, hkn]), t8.trans (b9.mono (gz _ t8))⟩
            · have hF0 : F = 0 := by rw [HcF.out, if_neg h64]
              subst hF0
              have hjn : ((j : Int) ≤ 64) := by omega
              have hkn : ¬ ((k : Int) ≤ 4096) := by omega
              go_wp2_with fail
              refine an.mono ?_
              rintro e w9 ⟨rfl, b9⟩
              have k93 := (b9.cell (p := ⟨gq, 3, none⟩) (by show gq < _; omega)).trans k83
              have r9 := r8.below (b9.mono (by omega))
              have hl9 := hl8.below (b9.mono (by omega))
              have t9 := t8.trans (b9.mono (gz _ t8))
              clear an b9 k83 r8 hl8 t8
              go_wp2_with fail
              have hlen := fullL_len j
              refine (samef_any A3 A9 _ c3 j c9 _ _ _ _ w9 r9 hl9 (by omega) (by omega)).mono ?_
              rintro e w10 ⟨rfl, kq, rfl⟩
              rw [decide_eq_true rfl]
              go_wp2_with fail
              go_ret
              rw [hg]
              exact ⟨congrArg (fun b => Ending.returned (.bool b)) (by simp [hjn, hkn]), below_drewN t9⟩
noncomputable def laidWorld (os : Os) : World := laidWorld6 os
end Go.Proofs.YtdeklollaffpaaaDoor.HeadFullP
