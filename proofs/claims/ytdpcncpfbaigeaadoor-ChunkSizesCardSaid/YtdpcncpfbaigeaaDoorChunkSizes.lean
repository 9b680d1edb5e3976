/- ChunkSizes returns true for any bytes, number and extension. -/
import Derived.Test.YtdpcncpfbaigeaaDoorMaxLen
import Derived.Test.YtdpcncpfbaigeaaDoorChunk0
import Derived.Test.YtdpcncpfbaigeaaDoorRunText
import Derived.Test.YtdpcncpfbaigeaaDoorSame
import Derived.Test.YtdpcncpfbaigeaaDoorLaid7
namespace Go.Proofs.YtdpcncpfbaigeaaDoor
open Go.RowKit
theorem app_list'' (a b : ByteArray) : (a ++ b).data.toList = a.data.toList ++ b.data.toList := by simp
end Go.Proofs.YtdpcncpfbaigeaaDoor
namespace Go.Proofs.YtdpcncpfbaigeaaDoor.ChunkSizesP
open Go.RowKit
set_option linter.unusedSimpArgs false
set_option linter.unusedVariables false

set_option maxRecDepth 100000 in
set_option maxHeartbeats 3200000 in
theorem walk (A : Option Addr) (n c : Nat) (bs : List UInt8) (nt : Int) (ext : ByteArray) (w : World) (h : Rd w w.heap.size 1 A n (bcells bs)) (_hn63 : n ≤ maxLen) (hwf : (Lit.int .u8 nt).wf = true) (hes : ext.size ≤ maxLen) (mx : Int) (hm : w.cell? ⟨1, 0, none⟩ = some (.int .i64 mx)) (hd : w.cell? ⟨3, 15, none⟩ = some (.int .u8 4)) :
    Calls Tryd.prog 7 #[.slice A n c, .int .u8 nt, .string ext] w fun e w' => e = .returned (.bool true) ∧ Below w.heap.size w w' := by
  have hn' : 0 ≤ nt ∧ nt < 256 := by simp [Lit.wf, IntKind.min, IntKind.max, IntKind.signed, IntKind.bits] at hwf; omega
  obtain ⟨Z, hZ, hZ1⟩ : ∃ K : Nat, nt.tmod 11 = K ∧ K < 11 := ⟨(nt.tmod 11).toNat, by rw [Int.tmod_eq_emod_of_nonneg hn'.1]; omega, by rw [Int.tmod_eq_emod_of_nonneg hn'.1]; omega⟩
  have hlen : bs.length = n := by have := h.1; rw [bcells_length] at this; omega
  have hmb : 1 < w.heap.size := World.block_lt_of_cell? w _ hm
  have hdb : 3 < w.heap.size := World.block_lt_of_cell? w _ hd
  have hmx : Hid (∀ W : World, Below w.heap.size w W → W.cell? ⟨1, 0, none⟩ = some (.int .i64 mx)) := hide fun W bl => (bl.cell (p := ⟨1, 0, none⟩) hmb).trans hm
  have an : Hid (∀ W : World, Below w.heap.size w W → Calls Tryd.prog 12 #[] W fun e w' => e = .returned (.bool true) ∧ Below W.heap.size W w') := hide fun W bl => ans18_any W ((bl.cell (p := ⟨3, 15, none⟩) hdb).trans hd)
  have an0 := an.out w (Below.refl _ _)
  have q1 := refvalue_any ext w (by unfold maxLen at hes; omega)
  have hes' : ext.size ≤ 9223372036854775807 := by unfold maxLen at hes; omega
  have hn63 : n ≤ 9223372036854775807 := by unfold maxLen at _hn63; omega
  clear hwf hm hd hn' hes _hn63
  by_cases h0 : n = 0
  · have h0' : (n : Int) = 0 := by omega
    go_enter Tryd.func7, Tryd.ntmps7
    go_wp2_with fail
    refine an0.mono ?_
    rintro e w1 ⟨rfl, b1⟩
    go_wp2_with fail
    go_ret
    exact ⟨rfl, b1⟩
  have h0' : ¬ (n : Int) = 0 := by omega
  by_cases h250 : 250 < n
  · have h250' : (250 : Int) < (n : Int) := by omega
    go_enter Tryd.func7, Tryd.ntmps7
    go_wp2_with fail
    refine an0.mono ?_
    rintro e w1 ⟨rfl, b1⟩
    go_wp2_with fail
    go_ret
    exact ⟨rfl, b1⟩
  have h250' : ¬ (250 : Int) < (n : Int) := by omega
  by_cases h200 : 200 < ext.size
  · have h200' : (200 : Int) < (ext.size : Int) := by omega
    go_enter Tryd.func7, Tryd.ntmps7
    go_wp2_with fail
    refine an0.mono ?_
    rintro e w1 ⟨rfl, b1⟩
    go_wp2_with fail
    go_ret
    exact ⟨rfl, b1⟩
  have h200' : ¬ (200 : Int) < (ext.size : Int) := by omega
  rcases hv : goodValueL ext.data.toList with _ | _
  · rw [hv] at q1
    go_enter Tryd.func7, Tryd.ntmps7
    go_wp2_with fail
    refine q1.mono ?_
    rintro e w1 ⟨rfl, rfl⟩
    go_wp2_with fail
    refine an0.mono ?_
    rintro e w1 ⟨rfl, b1⟩
    go_wp2_with fail
    go_ret
    exact ⟨rfl, b1⟩
  rw [hv] at q1
  have hev : ext.data.toList.all valueB = true := by
    unfold goodValueL at hv
    simp only [Bool.and_eq_true] at hv
    exact hv.1.1
  have HEV := hide hev
  clear hv hev an0
  go_enter Tryd.func7, Tryd.ntmps7
  go_wp2_with fail
  refine q1.mono ?_
  rintro e w1 ⟨rfl, rfl⟩
  go_wp2_with fail
  go_loopw [7, 8] (fun s i wr => ∃ (z : Nat) (sd : ByteArray), z ≤ Z ∧ i = .int .i64 z ∧ s = .string sd ∧ sd.data.toList = List.replicate z 48 ∧ wr = w) (fun _ i _ => Z - (intOf i).toNat)
  case atStart => exact ⟨0, _, Nat.zero_le _, rfl, rfl, rfl, rfl⟩
  case round =>
    obtain ⟨z, sd, hz, rfl, rfl, hsd, hww⟩ := hrel; obtain rfl : w = wr := hww.symm
    have hsdz : sd.size = z := by rw [size_of, hsd]; simp
    by_cases hlt : z < Z
    · have y2 : ¬ 9223372036854775807 < sd.size + 1 := by omega
      have hap : (sd ++ ⟨#[48]⟩ : ByteArray).data.toList = List.replicate (z + 1) 48 := by
        rw [app_list'', hsd, List.replicate_succ']
      have HAP := hide hap
      clear hap
      go_wp2
      go_roundw
      case rel => exact ⟨z + 1, _, by omega, by go_num, rfl, HAP.out, by first | rfl | trivial⟩
      case measure => simp [intOf]; omega
    · obtain rfl : z = Z := by omega
      have HSD := hide hsd
      clear hsd hlt hz q1
      go_upto_region 9 with (fail)
      generalize hLG : (⟨#[48, 49, 50, 51, 52, 53, 54, 55, 56, 57, 65, 66, 67, 68, 69, 70]⟩ : ByteArray) = LG
      have hLl : LG.data.toList = largeL := by rw [← hLG]; rfl
      have hLs : LG.size = 16 := by rw [← hLG]; rfl
      have hLg : ∀ (j : Nat) (h : j < LG.size), LG[j] = largeL.getD j 0 := fun j h => by
        rw [List.getD_eq_getElem?_getD, ← hLl, get_toList LG j h]; rfl
      have hd1 : (n : Int).tdiv 16 = ((n / 16 : Nat) : Int) := by rw [Int.tdiv_eq_ediv_of_nonneg (by omega)]; omega
      have hd2 : (n : Int).tmod 16 = ((n % 16 : Nat) : Int) := by rw [Int.tmod_eq_emod_of_nonneg (by omega)]; omega
      obtain ⟨d1, hd1'⟩ : ∃ d, d = n / 16 := ⟨_, rfl⟩
      obtain ⟨d2, hd2'⟩ : ∃ d, d = n % 16 := ⟨_, rfl⟩
      rw [← hd1'] at hd1
      rw [← hd2'] at hd2
      have j1 : (d1 : Int) < (LG.size : Int) := by omega
      have j2 : (d2 : Int) < (LG.size : Int) := by omega
      have j1' : d1 < LG.size := by omega
      have j2' : d2 < LG.size := by omega
      have g1 := hLg d1 j1'
      have g2 := hLg d2 j2'
      obtain ⟨m1, hm1⟩ : ∃ m, LG[d1] = m := ⟨_, rfl⟩
      obtain ⟨m2, hm2⟩ : ∃ m, LG[d2] = m := ⟨_, rfl⟩
      rw [hm1] at g1
      rw [hm2] at g2
      have G1 := hide g1
      have G2 := hide g2
      have HD1 := hide hd1'
      have HD2 := hide hd2'
      have x1 : IntKind.i64.wrap (d1 : Int) = d1 := by rw [IntKind.wrap_i64]; omega
      have x2 : IntKind.i64.wrap (d2 : Int) = d2 := by rw [IntKind.wrap_i64]; omega
      have x3 : (0 : Int) ≤ (d1 : Int) := by omega
      have x4 : (0 : Int) ≤ (d2 : Int) := by omega
      clear hLG hLl hLs hLg g1 g2 hd1' hd2'
      have hcS : (convert 26 9 (.slice (some ⟨w.heap.size, 0, none⟩) 2 2)).run Tryd.prog (w.alloc (Obj.cells #[Value.int IntKind.u8 (m1.toNat : Int), Value.int IntKind.u8 (m2.toNat : Int)] 5)).drew = .ok (.string ⟨#[m1, m2]⟩) (w.alloc (Obj.cells #[Value.int IntKind.u8 (m1.toNat : Int), Value.int IntKind.u8 (m2.toNat : Int)] 5)).drew :=
        run_string_of (P := Tryd.prog) 26 9 5 Tryd.underlying26 Tryd.underlying5 Tryd.underlying9 _ (w.heap.size + 1) 2 2 (some ⟨w.heap.size, 0, none⟩) [m1, m2] ⟨rfl, .inr ⟨_, rfl, Nat.lt_succ_self _, fun j u hu => by
          show (w.alloc _).cell? _ = _
          rw [Addr.add_lit, cell_of_row _ w.heap.size _ _ _ (0, 0) (heap_alloc_new w _)]; simpa [bcells] using hu⟩⟩
      have bS : Below w.heap.size w (w.alloc (Obj.cells #[Value.int IntKind.u8 (m1.toNat : Int), Value.int IntKind.u8 (m2.toNat : Int)] 5)).drew := ((Below.refl _ _).alloc (Nat.le_refl _) _).drew
      have hWS := hide (rfl : (w.alloc (Obj.cells #[Value.int IntKind.u8 (m1.toNat : Int), Value.int IntKind.u8 (m2.toNat : Int)] 5)).drew = (w.alloc (Obj.cells #[Value.int IntKind.u8 (m1.toNat : Int), Value.int IntKind.u8 (m2.toNat : Int)] 5)).drew)
      refine CalmP.hideN (fun K0 hQ => ?_)
      refine wp_region_held_drew (S := fun w' : World => Below w.heap.size w w') (by kernel_rfl) (Below.refl _ _).drew (fun hHeld => ?_)
      refine wpAnyH_take (i := 0) (v := ?_) rfl (by kernel_rfl) (by kernel_rfl) (by kernel_rfl) CalmP.onlyN_panic (Or.inl ⟨by kernel_rfl, ?_⟩) (by assumption) ?_
      rotate_left
      · (intro w_ hSw; (try dsimp only at hSw); go_simp; try with_reducible rfl)
      try simp only [Act.put, List.setIfInBounds_toArray, List.set_cons_zero, List.set_cons_succ]
      refine wpAnyH_take (i := 1) (v := ?_) rfl (by kernel_rfl) (by kernel_rfl) (by kernel_rfl) CalmP.onlyN_panic (Or.inl ⟨by kernel_rfl, ?_⟩) (by assumption) ?_
      rotate_left
      · (intro w_ hSw; (try dsimp only at hSw); go_simp; try with_reducible rfl)
      try simp only [Act.put, List.setIfInBounds_toArray, List.set_cons_zero, List.set_cons_succ]
      refine wpAnyH_take (i := 2) (v := ?_) rfl (by kernel_rfl) (by kernel_rfl) (by kernel_rfl) CalmP.onlyN_panic (Or.inl ⟨by kernel_rfl, ?_⟩) (by assumption) ?_
      rotate_left
      · (intro w_ hSw; (try dsimp only at hSw); go_simp; try with_reducible rfl)
      try simp only [Act.put, List.setIfInBounds_toArray, List.set_cons_zero, List.set_cons_succ]
      refine wpAnyH_take (i := 3) (v := ?_) rfl (by kernel_rfl) (by kernel_rfl) (by kernel_rfl) CalmP.onlyN_panic (Or.inl ⟨by kernel_rfl, ?_⟩) (by assumption) ?_
      rotate_left
      · (intro w_ hSw; (try dsimp only at hSw); go_simp; try with_reducible rfl)
      try simp only [Act.put, List.setIfInBounds_toArray, List.set_cons_zero, List.set_cons_succ]
      refine wpAnyH_take (i := 4) (v := ?_) rfl (by kernel_rfl) (by kernel_rfl) (by kernel_rfl) CalmP.onlyN_panic (Or.inl ⟨by kernel_rfl, ?_⟩) (by assumption) ?_
      rotate_left
      · (intro w_ hSw; (try dsimp only at hSw); go_simp; try with_reducible rfl)
      try simp only [Act.put, List.setIfInBounds_toArray, List.set_cons_zero, List.set_cons_succ]
      refine wpAnyH_take (i := 5) (v := ?_) rfl (by kernel_rfl) (by kernel_rfl) (by kernel_rfl) CalmP.onlyN_panic (Or.inl ⟨by kernel_rfl, ?_⟩) (by assumption) ?_
      rotate_left
      · (intro w_ hSw; (try dsimp only at hSw); go_simp; try with_reducible rfl)
      try simp only [Act.put, List.setIfInBounds_toArray, List.set_cons_zero, List.set_cons_succ]
      refine wpAnyH_take (i := 6) (v := ?_) rfl (by kernel_rfl) (by kernel_rfl) (by kernel_rfl) CalmP.onlyN_panic (Or.inl ⟨by kernel_rfl, ?_⟩) (by assumption) ?_
      rotate_left
      · (intro w_ hSw; (try dsimp only at hSw); go_simp; try with_reducible rfl)
      try simp only [Act.put, List.setIfInBounds_toArray, List.set_cons_zero, List.set_cons_succ]
      refine wpAnyH_take (i := 7) (v := ?_) rfl (by kernel_rfl) (by kernel_rfl) (by kernel_rfl) CalmP.onlyN_panic (Or.inl ⟨by kernel_rfl, ?_⟩) (by assumption) ?_
      rotate_left
      · (intro w_ hSw; (try dsimp only at hSw); go_simp; try with_reducible rfl)
      try simp only [Act.put, List.setIfInBounds_toArray, List.set_cons_zero, List.set_cons_succ]
      refine wpAnyH_take (i := 8) (v := ?_) rfl (by kernel_rfl) (by kernel_rfl) (by kernel_rfl) CalmP.onlyN_panic (Or.inl ⟨by kernel_rfl, ?_⟩) (by assumption) ?_
      rotate_left
      · (intro w_ hSw; (try dsimp only at hSw); go_simp; try with_reducible rfl)
      try simp only [Act.put, List.setIfInBounds_toArray, List.set_cons_zero, List.set_cons_succ]
      refine wpAnyH_take (i := 9) (v := ?_) rfl (by kernel_rfl) (by kernel_rfl) (by kernel_rfl) CalmP.onlyN_panic (Or.inl ⟨by kernel_rfl, ?_⟩) (by assumption) ?_
      rotate_left
      · (intro w_ hSw; (try dsimp only at hSw); go_simp; try with_reducible rfl)
      try simp only [Act.put, List.setIfInBounds_toArray, List.set_cons_zero, List.set_cons_succ]
      refine wpAnyH_ready (rs := [10]) (by kernel_rfl) (by simp) ?_
      refine AllReadyH.cons rfl (fun K_ hK => ?_) AllReadyH.nil
      go_simp
      refine hK.out _ _ bS (fun hHeld => ?_)
      clear hK K_
      try simp only [Act.put, List.setIfInBounds_toArray, List.set_cons_zero, List.set_cons_succ]
      refine wpAnyH_ready (rs := [11]) (by kernel_rfl) (by simp) ?_
      refine AllReadyH.cons rfl (fun K_ hK => ?_) AllReadyH.nil
      go_simp
      refine hK.out _ _ bS (fun hHeld => ?_)
      clear hK K_
      try simp only [Act.put, List.setIfInBounds_toArray, List.set_cons_zero, List.set_cons_succ]
      refine wpAnyH_take (i := 12) (v := ?_) rfl (by kernel_rfl) (by kernel_rfl) (by kernel_rfl) CalmP.onlyN_panic (Or.inl ⟨by kernel_rfl, ?_⟩) (by assumption) ?_
      rotate_left
      · (intro w_ hSw; (try dsimp only at hSw); go_simp; try with_reducible rfl)
      try simp only [Act.put, List.setIfInBounds_toArray, List.set_cons_zero, List.set_cons_succ]
      refine wpAnyH_done (by kernel_rfl) ?_ _
      refine CalmP.onlyN_here (hQ.out _ _ ?_)
      clear hQ K0 hcS hWS
      generalize (w.alloc (Obj.cells #[Value.int IntKind.u8 (m1.toNat : Int), Value.int IntKind.u8 (m2.toNat : Int)] 5)).drew = w2 at bS ⊢
      clear hHeld
      obtain ⟨q, hq'⟩ : ∃ q, q = z / 6 := ⟨_, rfl⟩
      obtain ⟨a, ha'⟩ : ∃ a, a = z - q := ⟨_, rfl⟩
      have hq : (z : Int).tdiv 6 = (q : Int) := by rw [Int.tdiv_eq_ediv_of_nonneg (by omega)]; omega
      have hs1 : (z : Int) - (q : Int) = (a : Int) := by omega
      have hs2 : IntKind.i64.wrap (a : Int) = a := by rw [IntKind.wrap_i64]; omega
      have hs3 : IntKind.i64.wrap (q : Int) = q := by rw [IntKind.wrap_i64]; omega
      have hs4 : (a : Int) ≤ (z : Int) := by omega
      have hs5 : (0 : Int) ≤ (a : Int) := by omega
      have hxs : (sd.extract 0 a).size = a := by rw [ByteArray.size_extract]; omega
      have haz : a + 2 ≤ 12 := by omega
      have hxl : (sd.extract 0 a).data.toList = List.replicate a 48 := by
        rw [show (sd.extract 0 a).data.toList = sd.data.toList.take a by simp, HSD.out, List.take_replicate]
        congr 1; omega
      have HXL := hide hxl
      clear ha' hq' hxl
      have hcB := fun W (b : Below w.heap.size w W) => run_string_of (P := Tryd.prog) 26 9 5 Tryd.underlying26 Tryd.underlying5 Tryd.underlying9 W _ n c A bs (h.below b)
      obtain ⟨BB, hBB⟩ : ∃ B : ByteArray, B = ⟨bs.toArray⟩ := ⟨_, rfl⟩
      have hBs : BB.size = n := by rw [hBB, size_of]; simpa using hlen
      have hBl : BB.data.toList = bs := by rw [hBB]
      rw [← hBB] at hcB
      have y1 : ¬ 9223372036854775807 < a + 2 := by omega
      have y2 : ¬ 9223372036854775807 < a + 2 + 1 := by omega
      have y3 : ¬ 9223372036854775807 < a + 2 + 1 + ext.size := by omega
      have y4 : ¬ 9223372036854775807 < a + 2 + 1 + ext.size + 2 := by omega
      have y5 : ¬ 9223372036854775807 < a + 2 + 1 + ext.size + 2 + n := by omega
      have y6 : ¬ 9223372036854775807 < a + 2 + 1 + ext.size + 2 + n + 3 := by omega
      have y7 : ¬ 9223372036854775807 < a + 2 + 1 + ext.size + 2 + n + 3 + z := by omega
      have y8 : ¬ 9223372036854775807 < a + 2 + 1 + ext.size + 2 + n + 3 + z + 8 := by omega
      have HBL := hide hBl
      clear hBB hBl
      have hcQ := fun k => hcB (w2.drewN k) (below_drewN bS)
      go_upto_region 10 with (fail)
      go_quiet (fail)
      have hT : (sd.extract 0 a ++ ⟨#[m1, m2]⟩ ++ ⟨#[59]⟩ ++ ext ++ ⟨#[13, 10]⟩ ++ BB ++ ⟨#[13, 10, 48]⟩ ++ sd ++ ⟨#[13, 10, 13, 10, 114, 101, 115, 116]⟩ : ByteArray).data.toList = sizesL a z ext.data.toList bs := by
        rw [app_list'', app_list'', app_list'', app_list'', app_list'', app_list'', app_list'', app_list'', HXL.out, HSD.out, HBL.out]
        unfold sizesL
        rw [hlen, ← HD1.out, ← HD2.out, ← G1.out, ← G2.out]
        simp
      obtain ⟨SX, hSX, hT⟩ : ∃ S : ByteArray, S = (sd.extract 0 a ++ ⟨#[m1, m2]⟩ ++ ⟨#[59]⟩ ++ ext ++ ⟨#[13, 10]⟩ ++ BB ++ ⟨#[13, 10, 48]⟩ ++ sd ++ ⟨#[13, 10, 13, 10, 114, 101, 115, 116]⟩ : ByteArray) ∧ S.data.toList = sizesL a z ext.data.toList bs := ⟨_, rfl, hT⟩
      have bS3 := below_drewN (k := nq) bS
      generalize w2.drewN nq = w3 at bS3 ⊢
      have hel : ext.data.toList.length ≤ 200 := by rw [← size_of]; omega
      have hrun := sizes_run (a := a) (z := z) (ext := ext.data.toList) (b := bs) haz (by omega) (by rintro rfl; exact h0 hlen.symm) (by omega) HEV.out hel
      have hSl := sizes_len (a := a) (z := z) (ext := ext.data.toList) (b := bs) haz (by omega) (by omega) hel
      have hSs : SX.size = (sizesL a z ext.data.toList bs).length := by rw [size_of, hT]
      have h3 := h.below bS3
      have bz3 := bS3.size
      clear y1 y2 y3 y4 y5 y6 y7 y8 hcB hcQ bS hel G1 G2 HD1 HD2 hd1 hd2 j1 j2 j1' j2' hm1 hm2 x1 x2 x3 x4 HXL HBL HSD HEV
      have HSX := hide hSX
      have HRUN := hide hrun
      have HT := hide hT
      obtain ⟨sz, hsz'⟩ : ∃ m, m = SX.size := ⟨_, rfl⟩
      have hszB : sz ≤ 1000 := by omega
      have HSZ := hide hsz'
      clear hSX hT hrun hSs hsz' 
      have u1' : ¬ (12 : Int) < (a : Int) + 2 := by omega
      have u2' : ¬ (12 : Int) < (z : Int) + 1 := by omega
      go_wp2_with fail
      refine (chunknew_any w3).mono ?_
      rintro e w4 ⟨rfl, x1, b1⟩
      have t4 := bS3.trans (b1.mono bz3)
      have d1 := dec_new x1 w3.heap.size (Nat.le_refl _)
      have hz4 := b1.size
      have h4 := h3.below (b1.mono bz3)
      obtain ⟨D, hDw⟩ : ∃ D, w3.heap.size = D := ⟨_, rfl⟩
      rw [hDw] at d1 hz4 bz3 ⊢
      clear b1 x1 h3 bS3
      obtain ⟨A5, c5, w5, hcv, ho5, b5⟩ := conv_ow w4 SX (by have := HSZ.out; omega)
      rw [← HSZ.out] at hcv ho5
      rw [HT.out] at ho5
      have t5 := t4.trans (b5.mono (by omega))
      have d5 := d1.below b5
      have h5 := h4.below (b5.mono (by omega))
      have hz5 := b5.size
      have p1 := decfeed0_any D D _ w5 d5 rfl _ sz c5 _ (sizesL a z ext.data.toList bs) ho5.rd (by omega) (by omega)
      rw [HSX.out] at hcv
      clear d1 b5 d5 ho5 t4 h4
      go_wp2_with fail
      refine p1.mono ?_
      rintro e w6 ⟨rfl, own6, d6, ow6, g6⟩
      have t6 := t5.grown g6 (by omega) (by intro r e; cases e; omega)
      have hz6 := g6.size
      have hD6 := d6.er_cell.2.2
      have h6 : Rd w6 w.heap.size 1 A n (bcells bs) := h.below t6
      have hok6 : DSok ⟨sizesL a z ext.data.toList bs, 0, 0, 0, 0⟩ := ⟨Nat.zero_le _, Nat.zero_le _, by show 0 + (sizesL a z ext.data.toList bs).length ≤ _; omega⟩
      obtain ⟨r1, r2, r3, r4, -⟩ := take_run n hok6 HRUN.out
      rw [List.take_of_length_le (by omega)] at r1
      rw [List.drop_eq_nil_of_le (by omega)] at r2
      rw [if_pos (by omega)] at r4
      have p2 := dectake_any D D own6 _ n mx w6 d6 (fun g e => (ow6 g e).2) (by omega) hok6 (by omega) (hmx.out w6 t6) (by omega)
      rw [r1, r4] at p2
      obtain ⟨S7, hS7⟩ : ∃ S, S = (takeR n ⟨sizesL a z ext.data.toList bs, 0, 0, 0, 0⟩).2.2 := ⟨_, rfl⟩
      rw [← hS7] at r2 r3 p2
      obtain ⟨-, -, s3, s4, s5⟩ := take_run 1 r3 r2
      have s5' := s5 (by decide)
      rw [if_neg (by decide), if_neg (by decide)] at s4
      have p3 := fun (W : World) (q : IsDec W D D own6 S7) (b : Below w.heap.size w W) (hz : w6.heap.size ≤ W.heap.size) => dectake_any D D own6 S7 1 mx W q (fun g e => by have := (ow6 g e).2; omega) (by omega) r3 (by decide) (hmx.out W b) (by omega)
      have s4' : takeEr 1 S7 = 8 := s4
      have s5'' : (takeR 1 S7).2.2 = ⟨[114, 101, 115, 116], 3, 0, 0, 8⟩ := s5'
      simp only [s4', s5''] at p3
      generalize takeO 1 S7 = o7 at p3
      clear r1 r2 r3 r4 hS7 s3 s4 s5 s5' s4' s5'' p1 hcv t5 g6 d6 h5 HRUN hok6
      go_wp2_with fail
      refine p2.mono ?_
      rintro e w7 ⟨A7, c7, rfl, v7, d7, g7⟩
      rw [hlen] at v7 ⊢
      have t7 := t6.grown g7 (by omega) (by intro r e; cases e; omega)
      have hz7 := g7.size
      have h7 : Rd w7 w.heap.size 1 A n (bcells bs) := h.below t7
      clear p2 t6 g7 h6
      go_wp2_with fail
      refine (p3 w7 d7 t7 hz7).mono ?_
      rintro e w8 ⟨A8, c8, rfl, -, d8, g8⟩
      have t8 := t7.grown g8 (by omega) (by intro r e; cases e; omega)
      have hz8 := g8.size
      have h8 : Rd w8 w.heap.size 1 A n (bcells bs) := h.below t8
      have v8 := v7.kept g8 (.inr fun e => by have := (v7.lt _ e).1; omega)
      have an8 := an.out w8 t8
      clear p3 t7 g8 h7 d7 v7 ow6
      go_wp2_with fail
      refine an8.mono ?_
      rintro e w9 ⟨rfl, b9⟩
      have t9 := t8.trans (b9.mono (by omega))
      have h9 := h8.below (b9.mono (by omega))
      have v9 := (v8.below b9).rd
      have d9 := d8.below b9
      have sm := same_any A7 A n c7 n c _ _ bs bs w9 v9 h9 (by omega) (by omega)
      rw [beq_self_eq_true] at sm
      clear an8 b9 t8 h8 v8 d8
      go_wp2_with fail
      refine sm.mono ?_
      rintro e w10 ⟨rfl, kq, rfl⟩
      have t10 := below_drewN (k := kq) t9
      have d10 := d9.drewN kq
      generalize w9.drewN kq = w10 at t10 d10 ⊢
      have rs := decrest_done D D own6 _ w10 d10 rfl
      clear sm d9 t9
      go_wp2_with fail
      refine rs.mono ?_
      rintro e w11 ⟨A11, c11, rfl, r11, -, g11⟩
      have hz10 := t10.size
      have t11 := t10.grown g11 (by omega) (by intro r e; cases e; omega)
      have hcv := run_string_of (P := Tryd.prog) 26 9 5 Tryd.underlying26 Tryd.underlying5 Tryd.underlying9 w11 _ 4 c11 A11 [114, 101, 115, 116] r11
      clear rs d10 r11 g11
      go_wp2_with fail
      go_ret
      exact ⟨rfl, t11⟩
noncomputable def laidWorld (os : Os) : World := laidWorld7 os
end Go.Proofs.YtdpcncpfbaigeaaDoor.ChunkSizesP
