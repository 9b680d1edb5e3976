/- The reference's Eligible: is a body to be made shorter? -/
import Derived.Test.YtgdjlmpfjmakkaaGreatDoorElig
namespace Go.Proofs.YtgdjlmpfjmakkaaGreatDoor
open Go.RowKit
open FrameLengthsP (step_)

set_option maxRecDepth 100000 in
set_option maxHeartbeats 25600000 in
set_option linter.unusedSimpArgs false in
theorem refelig_any (A0 A1 : Option Addr) (n0 c0 n1 c1 : Nat) (lv least cp bf tm minor status : Int) (s_ m : ByteArray) (A : Option Addr) (n c B : Nat) (fs : List (List UInt8 × List UInt8)) (ts : List (List UInt8)) (w : World) (h : Rd w B 2 A n (fcells fs)) (h1 : Rd w B 1 A1 n1 (scells ts)) (hB : B ≤ w.heap.size) (hn : n ≤ 1000) (hn1 : n1 ≤ 1000) (hok : fsOk fs) (hts : ∀ t ∈ ts, t.length ≤ 1000000) :
    Calls Tryz.prog 16 #[.agg #[.slice A0 n0 c0, .slice A1 n1 c1, .int .i64 lv, .int .i64 least, .int .i64 cp, .int .i64 bf, .int .i64 tm], .string m, .agg #[.int .i64 minor, .int .i64 status, .string s_, .slice A n c]] w fun e w' => e = .returned (.bool (eligL least ts m.data.toList status fs)) ∧ Below w.heap.size w w' := by
  obtain ⟨w1, hw1⟩ : ∃ w1, (w.alloc (.cells #[.slice A0 n0 c0, .slice A1 n1 c1, .int .i64 lv, .int .i64 least, .int .i64 cp, .int .i64 bf, .int .i64 tm] 25)).alloc (.cells #[.int .i64 minor, .int .i64 status, .string s_, .slice A n c] 30) = w1 := ⟨_, rfl⟩
  obtain ⟨bC, bR, tW⟩ := two_boxes w #[.slice A0 n0 c0, .slice A1 n1 c1, .int .i64 lv, .int .i64 least, .int .i64 cp, .int .i64 bf, .int .i64 tm] #[.int .i64 minor, .int .i64 status, .string s_, .slice A n c] 25 30
  rw [hw1] at bC bR tW
  have hM : (m.toList == [72, 69, 65, 68]) = decide (m.data.toList = [72, 69, 65, 68]) := by rw [ByteArray.toList_eq, Bool.eq_iff_iff, decide_eq_true_iff]; simp
  have hml := mediaL_len fs 1000000 (getL_mem hok ctL)
  have b_ := fun (W : World) (b : Below w1.heap.size w1 W) => tW.trans (b.mono tW.size)
  have qK := fun (W : World) (b : Below w1.heap.size w1 W) => refpkept_any minor status s_ A n c B fs W (h.below ((b_ W b).mono hB)) (Nat.le_trans hB (b_ W b).size) hn hok
  have qC := fun (W : World) (b : Below w1.heap.size w1 W) => coding_any minor status s_ A n c B fs W (h.below ((b_ W b).mono hB)) (Nat.le_trans hB (b_ W b).size) hn hok
  have qM := fun (W : World) (b : Below w1.heap.size w1 W) => refmedia_any minor status s_ A n c B fs W (h.below ((b_ W b).mono hB)) (Nat.le_trans hB (b_ W b).size) hn hok
  have qW := fun (W : World) (b : Below w1.heap.size w1 W) => refworth_any A1 n1 c1 B ts ⟨(mediaL fs).toArray⟩ W (h1.below ((b_ W b).mono hB)) (Nat.le_trans hB (b_ W b).size) hn1 hts (by rw [mk_size]; omega)
  have q1 := fun (W : World) (b : Below w1.heap.size w1 W) => refget_any A n c B fs ⟨#[99, 111, 110, 116, 101, 110, 116, 45, 108, 101, 110, 103, 116, 104]⟩ W (h.below ((b_ W b).mono hB)) (Nat.le_trans hB (b_ W b).size) (by omega) hok (by decide)
  change ∀ W, Below w1.heap.size w1 W → Calls Tryz.prog _ _ W (fun e w' => ∃ A' c', e = .returned (.slice A' (getL fs nameCL).length c') ∧ w'.ownsRow W.heap.size 9 1 (.slice A' (getL fs nameCL).length c') (getL fs nameCL).length (scells (getL fs nameCL)) ∧ (getL fs nameCL).length ≤ c' ∧ Below W.heap.size W w') at q1
  have hmem := getL_mem hok nameCL
  have hgl := getL_len fs nameCL
  have hfl := h.flen
  simp only [mk_list] at qW
  obtain ⟨r, hr⟩ : ∃ r, r = eligL least ts m.data.toList status fs := ⟨_, rfl⟩
  rw [← hr]
  unfold eligL at hr
  obtain ⟨K, hK⟩ : ∃ K, K = keptL status fs := ⟨_, rfl⟩
  obtain ⟨Hd, hHd⟩ : ∃ K, K = decide (m.data.toList = [72, 69, 65, 68]) := ⟨_, rfl⟩
  obtain ⟨Cd, hCd⟩ : ∃ K, K = codingL (allL fs codeL) := ⟨_, rfl⟩
  obtain ⟨Wo, hWo⟩ : ∃ K, K = worthL ts (mediaL fs) := ⟨_, rfl⟩
  obtain ⟨bm, hbm⟩ : ∃ b : ByteArray, b = ⟨(mediaL fs).toArray⟩ := ⟨_, rfl⟩
  rw [← hK, ← hHd, ← hCd, ← hWo] at hr
  simp only [← hK] at qK
  rw [← hHd] at hM
  simp only [← hCd] at qC
  simp only [← hbm, ← hWo] at qW
  simp only [← hbm] at qM
  obtain ⟨D, hD⟩ : ∃ D, D = !(statB status && !K && !Hd && decide (Cd = 0) && Wo) := ⟨_, rfl⟩
  have hr2 : r = (!D && longL least fs) := by rw [hr, hD]; cases statB status <;> cases K <;> cases Hd <;> cases decide (Cd = 0) <;> cases Wo <;> rfl
  have HD := hide hD
  have HR := hide hr2
  clear hr hr2 hD hK hHd hCd hWo hbm hml b_ h h1 hok hts
  obtain ⟨gc, hgc⟩ : ∃ g, w.heap.size = g := ⟨_, rfl⟩
  obtain ⟨gr, hgr⟩ : ∃ g, g = gc + 1 := ⟨_, rfl⟩
  rw [hgc] at bC bR
  rw [← hgr] at bR
  have mk : ∀ W, Below w1.heap.size w1 W → W.cell? ⟨gc, 0, none⟩ = some (.slice A0 n0 c0) ∧ W.cell? ⟨gc, 1, none⟩ = some (.slice A1 n1 c1) ∧ W.cell? ⟨gc, 2, none⟩ = some (.int .i64 lv) ∧ W.cell? ⟨gc, 3, none⟩ = some (.int .i64 least) ∧ W.cell? ⟨gc, 4, none⟩ = some (.int .i64 cp) ∧ W.cell? ⟨gc, 5, none⟩ = some (.int .i64 bf) ∧ W.cell? ⟨gc, 6, none⟩ = some (.int .i64 tm) ∧ W.cell? ⟨gr, 0, none⟩ = some (.int .i64 minor) ∧ W.cell? ⟨gr, 1, none⟩ = some (.int .i64 status) ∧ W.cell? ⟨gr, 2, none⟩ = some (.string s_) ∧ W.cell? ⟨gr, 3, none⟩ = some (.slice A n c) := fun W b => by
    have b1 := bC.below b
    have b2 := bR.below b
    exact ⟨(b1.2 0 _ rfl).1, (b1.2 1 _ rfl).1, (b1.2 2 _ rfl).1, (b1.2 3 _ rfl).1, (b1.2 4 _ rfl).1, (b1.2 5 _ rfl).1, (b1.2 6 _ rfl).1, (b2.2 0 _ rfl).1, (b2.2 1 _ rfl).1, (b2.2 2 _ rfl).1, (b2.2 3 _ rfl).1⟩
  have x1 := (bR.2 1 _ rfl).1
  have z1 : Below w1.heap.size w1 w1.drew := below_drew1
  go_enter Tryz.func16, Tryz.ntmps16
  go_upto_region 1 with (fail)
  try rw [hw1]
  try rw [hgc]
  try rw [← hgr]
  clear hw1 hgc hgr
  go_upto_region 2 with (fail)
  go_cut [52] from 13 to 52 (fun s wx => s = .bool D ∧ Below w1.heap.size w1 wx)
  case first =>
    rcases K with _ | _
    · rcases Hd with _ | _
      · rcases hst : statB status with _ | _
        · obtain ⟨h1, h2, h3, h4, h5⟩ := stat_not hst
          have e1 : (status == 200) = false := by simpa using h1
          have e2 : (status == 201) = false := by simpa using h2
          have e3 : (status == 203) = false := by simpa using h3
          have e4 : (status == 404) = false := by simpa using h4
          have e5 : (status == 410) = false := by simpa using h5
          have HS := hide hst
          clear h1 h2 h3 h4 h5 hst
          refine CalmP.hideN (fun K0 hQ => ?_)
          refine wp_region_held_drew (S := (fun W : World => W.cell? ⟨gc, 0, none⟩ = some (.slice A0 n0 c0) ∧ W.cell? ⟨gc, 1, none⟩ = some (.slice A1 n1 c1) ∧ W.cell? ⟨gc, 2, none⟩ = some (.int .i64 lv) ∧ W.cell? ⟨gc, 3, none⟩ = some (.int .i64 least) ∧ W.cell? ⟨gc, 4, none⟩ = some (.int .i64 cp) ∧ W.cell? ⟨gc, 5, none⟩ = some (.int .i64 bf) ∧ W.cell? ⟨gc, 6, none⟩ = some (.int .i64 tm) ∧ W.cell? ⟨gr, 0, none⟩ = some (.int .i64 minor) ∧ W.cell? ⟨gr, 1, none⟩ = some (.int .i64 status) ∧ W.cell? ⟨gr, 2, none⟩ = some (.string s_) ∧ W.cell? ⟨gr, 3, none⟩ = some (.slice A n c))) (by kernel_rfl) (mk _ z1) (fun hHeld => ?_)
          refine wpAnyH_take (i := 0) (v := ?_) rfl (by kernel_rfl) (by kernel_rfl) (by kernel_rfl) CalmP.onlyN_panic (Or.inl ⟨by kernel_rfl, ?_⟩) (by assumption) ?_
          rotate_left
          · (intro w_ hSw; (try dsimp only at hSw); go_simp; try with_reducible rfl)
          try simp only [Act.put, List.setIfInBounds_toArray, List.set_cons_zero, List.set_cons_succ]
          refine wpAnyH_ready (rs := [1]) (by kernel_rfl) (by simp) ?_
          refine AllReadyH.cons rfl (fun K_ hK => ?_) AllReadyH.nil
          go_simp
          refine (qK _ z1).mono ?_
          rintro e_ V1 ⟨rfl, k_⟩
          have y1 := z1.trans (k_.mono z1.size)
          clear k_
          refine hK.out _ _ (mk _ y1) (fun hHeld => ?_)
          clear hK K_
          try simp only [Act.put, List.setIfInBounds_toArray, List.set_cons_zero, List.set_cons_succ]
          refine wpAnyH_take (i := 2) (v := ?_) rfl (by kernel_rfl) (by kernel_rfl) (by kernel_rfl) CalmP.onlyN_panic (Or.inl ⟨by kernel_rfl, ?_⟩) (by assumption) ?_
          rotate_left
          · (intro w_ hSw; (try dsimp only at hSw); go_simp; try with_reducible rfl)
          try simp only [Act.put, List.setIfInBounds_toArray, List.set_cons_zero, List.set_cons_succ]
          refine wpAnyH_take (i := 3) (v := ?_) rfl (by kernel_rfl) (by kernel_rfl) (by kernel_rfl) CalmP.onlyN_panic (Or.inl ⟨by kernel_rfl, ?_⟩) (by assumption) ?_
          rotate_left
          · (intro w_ hSw; (try dsimp only at hSw); go_simp; try with_reducible rfl)
          try simp only [Act.put, List.setIfInBounds_toArray, List.set_cons_zero, List.set_cons_succ]
          refine wpAnyH_take (i := 4) (v := ?_) rfl (by kernel_rfl) (by kernel_rfl) (by kernel_rfl) CalmP.onlyN_panic (Or.inl ⟨by kernel_rfl, ?_⟩) (by assumption) ?_
          rotate_left
          · (intro w_ hSw; (try dsimp only at hSw); go_simp; try with_reducible rfl)
          try simp only [Act.put, List.setIfInBounds_toArray, List.set_cons_zero, List.set_cons_succ]
          refine wpAnyH_take (i := 5) (v := ?_) rfl (by kernel_rfl) (by kernel_rfl) (by kernel_rfl) CalmP.onlyN_panic (Or.inl ⟨by kernel_rfl, ?_⟩) (by assumption) ?_
          rotate_left
          · (intro w_ hSw; (try dsimp only at hSw); go_simp; try with_reducible rfl)
          try simp only [Act.put, List.setIfInBounds_toArray, List.set_cons_zero, List.set_cons_succ]
          refine wpAnyH_take (i := 6) (v := ?_) rfl (by kernel_rfl) (by kernel_rfl) (by kernel_rfl) CalmP.onlyN_panic (Or.inl ⟨by kernel_rfl, ?_⟩) (by assumption) ?_
          rotate_left
          · (intro w_ hSw; (try dsimp only at hSw); go_simp; try with_reducible rfl)
          try simp only [Act.put, List.setIfInBounds_toArray, List.set_cons_zero, List.set_cons_succ]
          refine wpAnyH_take (i := 7) (v := ?_) rfl (by kernel_rfl) (by kernel_rfl) (by kernel_rfl) CalmP.onlyN_panic (Or.inl ⟨by kernel_rfl, ?_⟩) (by assumption) ?_
          rotate_left
          · (intro w_ hSw; (try dsimp only at hSw); go_simp; try with_reducible rfl)
          try simp only [Act.put, List.setIfInBounds_toArray, List.set_cons_zero, List.set_cons_succ]
          refine wpAnyH_take (i := 8) (v := ?_) rfl (by kernel_rfl) (by kernel_rfl) (by kernel_rfl) CalmP.onlyN_panic (Or.inl ⟨by kernel_rfl, ?_⟩) (by assumption) ?_
          rotate_left
          · (intro w_ hSw; (try dsimp only at hSw); go_simp; try with_reducible rfl)
          try simp only [Act.put, List.setIfInBounds_toArray, List.set_cons_zero, List.set_cons_succ]
          refine wpAnyH_take (i := 9) (v := ?_) rfl (by kernel_rfl) (by kernel_rfl) (by kernel_rfl) CalmP.onlyN_panic (Or.inl ⟨by kernel_rfl, ?_⟩) (by assumption) ?_
          rotate_left
          · (intro w_ hSw; (try dsimp only at hSw); go_simp; try with_reducible rfl)
          try simp only [Act.put, List.setIfInBounds_toArray, List.set_cons_zero, List.set_cons_succ]
          refine wpAnyH_take (i := 10) (v := ?_) rfl (by kernel_rfl) (by kernel_rfl) (by kernel_rfl) CalmP.onlyN_panic (Or.inl ⟨by kernel_rfl, ?_⟩) (by assumption) ?_
          rotate_left
          · (intro w_ hSw; (try dsimp only at hSw); go_simp; try with_reducible rfl)
          try simp only [Act.put, List.setIfInBounds_toArray, List.set_cons_zero, List.set_cons_succ]
          refine wpAnyH_take (i := 11) (v := ?_) rfl (by kernel_rfl) (by kernel_rfl) (by kernel_rfl) CalmP.onlyN_panic (Or.inl ⟨by kernel_rfl, ?_⟩) (by assumption) ?_
          rotate_left
          · (intro w_ hSw; (try dsimp only at hSw); go_simp; try with_reducible rfl)
          try simp only [Act.put, List.setIfInBounds_toArray, List.set_cons_zero, List.set_cons_succ]
          refine wpAnyH_take (i := 12) (v := ?_) rfl (by kernel_rfl) (by kernel_rfl) (by kernel_rfl) CalmP.onlyN_panic (Or.inl ⟨by kernel_rfl, ?_⟩) (by assumption) ?_
          rotate_left
          · (intro w_ hSw; (try dsimp only at hSw); go_simp; try with_reducible rfl)
          try simp only [Act.put, List.setIfInBounds_toArray, List.set_cons_zero, List.set_cons_succ]
          refine wpAnyH_take (i := 13) (v := ?_) rfl (by kernel_rfl) (by kernel_rfl) (by kernel_rfl) CalmP.onlyN_panic (Or.inl ⟨by kernel_rfl, ?_⟩) (by assumption) ?_
          rotate_left
          · (intro w_ hSw; (try dsimp only at hSw); go_simp; try with_reducible rfl)
          try simp only [Act.put, List.setIfInBounds_toArray, List.set_cons_zero, List.set_cons_succ]
          refine wpAnyH_take (i := 14) (v := ?_) rfl (by kernel_rfl) (by kernel_rfl) (by kernel_rfl) CalmP.onlyN_panic (Or.inl ⟨by kernel_rfl, ?_⟩) (by assumption) ?_
          rotate_left
          · (intro w_ hSw; (try dsimp only at hSw); go_simp; try with_reducible rfl)
          try simp only [Act.put, List.setIfInBounds_toArray, List.set_cons_zero, List.set_cons_succ]
          refine wpAnyH_take (i := 15) (v := ?_) rfl (by kernel_rfl) (by kernel_rfl) (by kernel_rfl) CalmP.onlyN_panic (Or.inl ⟨by kernel_rfl, ?_⟩) (by assumption) ?_
          rotate_left
          · (intro w_ hSw; (try dsimp only at hSw); go_simp; try with_reducible rfl)
          try simp only [Act.put, List.setIfInBounds_toArray, List.set_cons_zero, List.set_cons_succ]
          refine wpAnyH_take (i := 16) (v := ?_) rfl (by kernel_rfl) (by kernel_rfl) (by kernel_rfl) CalmP.onlyN_panic (Or.inl ⟨by kernel_rfl, ?_⟩) (by assumption) ?_
          rotate_left
          · (intro w_ hSw; (try dsimp only at hSw); go_simp; try with_reducible rfl)
          try simp only [Act.put, List.setIfInBounds_toArray, List.set_cons_zero, List.set_cons_succ]
          refine wpAnyH_take (i := 17) (v := ?_) rfl (by kernel_rfl) (by kernel_rfl) (by kernel_rfl) CalmP.onlyN_panic (Or.inl ⟨by kernel_rfl, ?_⟩) (by assumption) ?_
          rotate_left
          · (intro w_ hSw; (try dsimp only at hSw); go_simp; try with_reducible rfl)
          try simp only [Act.put, List.setIfInBounds_toArray, List.set_cons_zero, List.set_cons_succ]
          refine wpAnyH_take (i := 18) (v := ?_) rfl (by kernel_rfl) (by kernel_rfl) (by kernel_rfl) CalmP.onlyN_panic (Or.inl ⟨by kernel_rfl, ?_⟩) (by assumption) ?_
          rotate_left
          · (intro w_ hSw; (try dsimp only at hSw); go_simp; try with_reducible rfl)
          try simp only [Act.put, List.setIfInBounds_toArray, List.set_cons_zero, List.set_cons_succ]
          refine wpAnyH_take (i := 19) (v := ?_) rfl (by kernel_rfl) (by kernel_rfl) (by kernel_rfl) CalmP.onlyN_panic (Or.inl ⟨by kernel_rfl, ?_⟩) (by assumption) ?_
          rotate_left
          · (intro w_ hSw; (try dsimp only at hSw); go_simp; try with_reducible rfl)
          try simp only [Act.put, List.setIfInBounds_toArray, List.set_cons_zero, List.set_cons_succ]
          refine wpAnyH_take (i := 20) (v := ?_) rfl (by kernel_rfl) (by kernel_rfl) (by kernel_rfl) CalmP.onlyN_panic (Or.inl ⟨by kernel_rfl, ?_⟩) (by assumption) ?_
          rotate_left
          · (intro w_ hSw; (try dsimp only at hSw); go_simp; try with_reducible rfl)
          try simp only [Act.put, List.setIfInBounds_toArray, List.set_cons_zero, List.set_cons_succ]
          refine wpAnyH_take (i := 21) (v := ?_) rfl (by kernel_rfl) (by kernel_rfl) (by kernel_rfl) CalmP.onlyN_panic (Or.inl ⟨by kernel_rfl, ?_⟩) (by assumption) ?_
          rotate_left
          · (intro w_ hSw; (try dsimp only at hSw); go_simp; try with_reducible rfl)
          try simp only [Act.put, List.setIfInBounds_toArray, List.set_cons_zero, List.set_cons_succ]
          refine wpAnyH_take (i := 22) (v := ?_) rfl (by kernel_rfl) (by kernel_rfl) (by kernel_rfl) CalmP.onlyN_panic (Or.inl ⟨by kernel_rfl, ?_⟩) (by assumption) ?_
          rotate_left
          · (intro w_ hSw; (try dsimp only at hSw); go_simp; try with_reducible rfl)
          try simp only [Act.put, List.setIfInBounds_toArray, List.set_cons_zero, List.set_cons_succ]
          refine wpAnyH_take (i := 23) (v := ?_) rfl (by kernel_rfl) (by kernel_rfl) (by kernel_rfl) CalmP.onlyN_panic (Or.inl ⟨by kernel_rfl, ?_⟩) (by assumption) ?_
          rotate_left
          · (intro w_ hSw; (try dsimp only at hSw); go_simp; try with_reducible rfl)
          try simp only [Act.put, List.setIfInBounds_toArray, List.set_cons_zero, List.set_cons_succ]
          refine wpAnyH_take (i := 24) (v := ?_) rfl (by kernel_rfl) (by kernel_rfl) (by kernel_rfl) CalmP.onlyN_panic (Or.inl ⟨by kernel_rfl, ?_⟩) (by assumption) ?_
          rotate_left
          · (intro w_ hSw; (try dsimp only at hSw); go_simp; try with_reducible rfl)
          try simp only [Act.put, List.setIfInBounds_toArray, List.set_cons_zero, List.set_cons_succ]
          refine wpAnyH_take (i := 25) (v := ?_) rfl (by kernel_rfl) (by kernel_rfl) (by kernel_rfl) CalmP.onlyN_panic (Or.inl ⟨by kernel_rfl, ?_⟩) (by assumption) ?_
          rotate_left
          · (intro w_ hSw; (try dsimp only at hSw); go_simp; try with_reducible rfl)
          try simp only [Act.put, List.setIfInBounds_toArray, List.set_cons_zero, List.set_cons_succ]
          refine wpAnyH_take (i := 26) (v := ?_) rfl (by kernel_rfl) (by kernel_rfl) (by kernel_rfl) CalmP.onlyN_panic (Or.inl ⟨by kernel_rfl, ?_⟩) (by assumption) ?_
          rotate_left
          · (intro w_ hSw; (try dsimp only at hSw); go_simp; try with_reducible rfl)
          try simp only [Act.put, List.setIfInBounds_toArray, List.set_cons_zero, List.set_cons_succ]
          refine wpAnyH_take (i := 27) (v := ?_) rfl (by kernel_rfl) (by kernel_rfl) (by kernel_rfl) CalmP.onlyN_panic (Or.inl ⟨by kernel_rfl, ?_⟩) (by assumption) ?_
          rotate_left
          · (intro w_ hSw; (try dsimp only at hSw); go_simp; try with_reducible rfl)
          try simp only [Act.put, List.setIfInBounds_toArray, List.set_cons_zero, List.set_cons_succ]
          refine wpAnyH_take (i := 28) (v := undef) rfl (by kernel_rfl) (by kernel_rfl) (by kernel_rfl) CalmP.onlyN_panic (Or.inr ⟨by kernel_rfl, rfl⟩) (by assumption) ?_
          try simp only [Act.put, List.setIfInBounds_toArray, List.set_cons_zero, List.set_cons_succ]
          refine wpAnyH_take (i := 29) (v := undef) rfl (by kernel_rfl) (by kernel_rfl) (by kernel_rfl) CalmP.onlyN_panic (Or.inr ⟨by kernel_rfl, rfl⟩) (by assumption) ?_
          try simp only [Act.put, List.setIfInBounds_toArray, List.set_cons_zero, List.set_cons_succ]
          refine wpAnyH_take (i := 30) (v := undef) rfl (by kernel_rfl) (by kernel_rfl) (by kernel_rfl) CalmP.onlyN_panic (Or.inr ⟨by kernel_rfl, rfl⟩) (by assumption) ?_
          try simp only [Act.put, List.setIfInBounds_toArray, List.set_cons_zero, List.set_cons_succ]
          refine wpAnyH_take (i := 31) (v := ?_) rfl (by kernel_rfl) (by kernel_rfl) (by kernel_rfl) CalmP.onlyN_panic (Or.inl ⟨by kernel_rfl, ?_⟩) (by assumption) ?_
          rotate_left
          · (intro w_ hSw; (try dsimp only at hSw); go_simp; try with_reducible rfl)
          try simp only [Act.put, List.setIfInBounds_toArray, List.set_cons_zero, List.set_cons_succ]
          refine wpAnyH_take (i := 32) (v := ?_) rfl (by kernel_rfl) (by kernel_rfl) (by kernel_rfl) CalmP.onlyN_panic (Or.inl ⟨by kernel_rfl, ?_⟩) (by assumption) ?_
          rotate_left
          · (intro w_ hSw; (try dsimp only at hSw); go_simp; try with_reducible rfl)
          try simp only [Act.put, List.setIfInBounds_toArray, List.set_cons_zero, List.set_cons_succ]
          refine wpAnyH_take (i := 33) (v := undef) rfl (by kernel_rfl) (by kernel_rfl) (by kernel_rfl) CalmP.onlyN_panic (Or.inr ⟨by kernel_rfl, rfl⟩) (by assumption) ?_
          try simp only [Act.put, List.setIfInBounds_toArray, List.set_cons_zero, List.set_cons_succ]
          refine wpAnyH_take (i := 34) (v := undef) rfl (by kernel_rfl) (by kernel_rfl) (by kernel_rfl) CalmP.onlyN_panic (Or.inr ⟨by kernel_rfl, rfl⟩) (by assumption) ?_
          try simp only [Act.put, List.setIfInBounds_toArray, List.set_cons_zero, List.set_cons_succ]
          refine wpAnyH_take (i := 35) (v := undef) rfl (by kernel_rfl) (by kernel_rfl) (by kernel_rfl) CalmP.onlyN_panic (Or.inr ⟨by kernel_rfl, rfl⟩) (by assumption) ?_
          try simp only [Act.put, List.setIfInBounds_toArray, List.set_cons_zero, List.set_cons_succ]
          refine wpAnyH_take (i := 36) (v := undef) rfl (by kernel_rfl) (by kernel_rfl) (by kernel_rfl) CalmP.onlyN_panic (Or.inr ⟨by kernel_rfl, rfl⟩) (by assumption) ?_
          try simp only [Act.put, List.setIfInBounds_toArray, List.set_cons_zero, List.set_cons_succ]
          refine wpAnyH_take (i := 37) (v := undef) rfl (by kernel_rfl) (by kernel_rfl) (by kernel_rfl) CalmP.onlyN_panic (Or.inr ⟨by kernel_rfl, rfl⟩) (by assumption) ?_
          try simp only [Act.put, List.setIfInBounds_toArray, List.set_cons_zero, List.set_cons_succ]
          refine wpAnyH_take (i := 38) (v := undef) rfl (by kernel_rfl) (by kernel_rfl) (by kernel_rfl) CalmP.onlyN_panic (Or.inr ⟨by kernel_rfl, rfl⟩) (by assumption) ?_
          try simp only [Act.put, List.setIfInBounds_toArray, List.set_cons_zero, List.set_cons_succ]
          refine wpAnyH_take (i := 39) (v := ?_) rfl (by kernel_rfl) (by kernel_rfl) (by kernel_rfl) CalmP.onlyN_panic (Or.inl ⟨by kernel_rfl, ?_⟩) (by assumption) ?_
          rotate_left
          · (intro w_ hSw; (try dsimp only at hSw); go_simp; try with_reducible rfl)
          try simp only [Act.put, List.setIfInBounds_toArray, List.set_cons_zero, List.set_cons_succ]
          refine wpAnyH_done (by kernel_rfl) ?_ _
          refine CalmP.onlyN_here (hQ.out _ _ ?_)
          clear hQ K0
          go_wp2_with fail
          go_meet
          exact ⟨by rw [HD.out]; rw [HS.out]; rfl, y1⟩
        · have hcs := stat_cases hst
          have HS := hide hst
          clear hst
          obtain ⟨b0, e0⟩ : ∃ b, (status == 200) = b := ⟨_, rfl⟩
          obtain ⟨b1, e1⟩ : ∃ b, (status == 201) = b := ⟨_, rfl⟩
          obtain ⟨b2, e2⟩ : ∃ b, (status == 203) = b := ⟨_, rfl⟩
          obtain ⟨b3, e3⟩ : ∃ b, (status == 404) = b := ⟨_, rfl⟩
          obtain ⟨b4, e4⟩ : ∃ b, (status == 410) = b := ⟨_, rfl⟩
          have hb : (b0 || b1 || b2 || b3 || b4) = true := by rw [← e0, ← e1, ← e2, ← e3, ← e4]; rcases hcs with rfl | rfl | rfl | rfl | rfl <;> rfl
          clear hcs
          by_cases hC0 : Cd = 0
          · subst hC0
            rcases Wo with _ | _
            · refine CalmP.hideN (fun K0 hQ => ?_)
              refine wp_region_held_drew (S := (fun W : World => W.cell? ⟨gc, 0, none⟩ = some (.slice A0 n0 c0) ∧ W.cell? ⟨gc, 1, none⟩ = some (.slice A1 n1 c1) ∧ W.cell? ⟨gc, 2, none⟩ = some (.int .i64 lv) ∧ W.cell? ⟨gc, 3, none⟩ = some (.int .i64 least) ∧ W.cell? ⟨gc, 4, none⟩ = some (.int .i64 cp) ∧ W.cell? ⟨gc, 5, none⟩ = some (.int .i64 bf) ∧ W.cell? ⟨gc, 6, none⟩ = some (.int .i64 tm) ∧ W.cell? ⟨gr, 0, none⟩ = some (.int .i64 minor) ∧ W.cell? ⟨gr, 1, none⟩ = some (.int .i64 status) ∧ W.cell? ⟨gr, 2, none⟩ = some (.string s_) ∧ W.cell? ⟨gr, 3, none⟩ = some (.slice A n c))) (by kernel_rfl) (mk _ z1) (fun hHeld => ?_)
              refine wpAnyH_take (i := 0) (v := ?_) rfl (by kernel_rfl) (by kernel_rfl) (by kernel_rfl) CalmP.onlyN_panic (Or.inl ⟨by kernel_rfl, ?_⟩) (by assumption) ?_
              rotate_left
              · (intro w_ hSw; (try dsimp only at hSw); go_simp; try with_reducible rfl)
              try simp only [Act.put, List.setIfInBounds_toArray, List.set_cons_zero, List.set_cons_succ]
              refine wpAnyH_ready (rs := [1]) (by kernel_rfl) (by simp) ?_
              refine AllReadyH.cons rfl (fun K_ hK => ?_) AllReadyH.nil
              go_simp
              refine (qK _ z1).mono ?_
              rintro e_ V1 ⟨rfl, k_⟩
              have y1 := z1.trans (k_.mono z1.size)
              clear k_
              refine hK.out _ _ (mk _ y1) (fun hHeld => ?_)
              clear hK K_
              try simp only [Act.put, List.setIfInBounds_toArray, List.set_cons_zero, List.set_cons_succ]
              refine wpAnyH_take (i := 2) (v := ?_) rfl (by kernel_rfl) (by kernel_rfl) (by kernel_rfl) CalmP.onlyN_panic (Or.inl ⟨by kernel_rfl, ?_⟩) (by assumption) ?_
              rotate_left
              · (intro w_ hSw; (try dsimp only at hSw); go_simp; try with_reducible rfl)
              try simp only [Act.put, List.setIfInBounds_toArray, List.set_cons_zero, List.set_cons_succ]
              refine wpAnyH_take (i := 3) (v := ?_) rfl (by kernel_rfl) (by kernel_rfl) (by kernel_rfl) CalmP.onlyN_panic (Or.inl ⟨by kernel_rfl, ?_⟩) (by assumption) ?_
              rotate_left
              · (intro w_ hSw; (try dsimp only at hSw); go_simp; try with_reducible rfl)
              try simp only [Act.put, List.setIfInBounds_toArray, List.set_cons_zero, List.set_cons_succ]
              refine wpAnyH_take (i := 4) (v := ?_) rfl (by kernel_rfl) (by kernel_rfl) (by kernel_rfl) CalmP.onlyN_panic (Or.inl ⟨by kernel_rfl, ?_⟩) (by assumption) ?_
              rotate_left
              · (intro w_ hSw; (try dsimp only at hSw); go_simp; try with_reducible rfl)
              try simp only [Act.put, List.setIfInBounds_toArray, List.set_cons_zero, List.set_cons_succ]
              refine wpAnyH_take (i := 5) (v := ?_) rfl (by kernel_rfl) (by kernel_rfl) (by kernel_rfl) CalmP.onlyN_panic (Or.inl ⟨by kernel_rfl, ?_⟩) (by assumption) ?_
              rotate_left
              · (intro w_ hSw; (try dsimp only at hSw); go_simp; try with_reducible rfl)
              try simp only [Act.put, List.setIfInBounds_toArray, List.set_cons_zero, List.set_cons_succ]
              refine wpAnyH_take (i := 6) (v := ?_) rfl (by kernel_rfl) (by kernel_rfl) (by kernel_rfl) CalmP.onlyN_panic (Or.inl ⟨by kernel_rfl, ?_⟩) (by assumption) ?_
              rotate_left
              · (intro w_ hSw; (try dsimp only at hSw); go_simp; try with_reducible rfl)
              try simp only [Act.put, List.setIfInBounds_toArray, List.set_cons_zero, List.set_cons_succ]
              refine wpAnyH_take (i := 7) (v := ?_) rfl (by kernel_rfl) (by kernel_rfl) (by kernel_rfl) CalmP.onlyN_panic (Or.inl ⟨by kernel_rfl, ?_⟩) (by assumption) ?_
              rotate_left
              · (intro w_ hSw; (try dsimp only at hSw); go_simp; try with_reducible rfl)
              try simp only [Act.put, List.setIfInBounds_toArray, List.set_cons_zero, List.set_cons_succ]
              refine wpAnyH_take (i := 8) (v := ?_) rfl (by kernel_rfl) (by kernel_rfl) (by kernel_rfl) CalmP.onlyN_panic (Or.inl ⟨by kernel_rfl, ?_⟩) (by assumption) ?_
              rotate_left
              · (intro w_ hSw; (try dsimp only at hSw); go_simp; try with_reducible rfl)
              try simp only [Act.put, List.setIfInBounds_toArray, List.set_cons_zero, List.set_cons_succ]
              refine wpAnyH_take (i := 9) (v := ?_) rfl (by kernel_rfl) (by kernel_rfl) (by kernel_rfl) CalmP.onlyN_panic (Or.inl ⟨by kernel_rfl, ?_⟩) (by assumption) ?_
              rotate_left
              · (intro w_ hSw; (try dsimp only at hSw); go_simp; try with_reducible rfl)
              try simp only [Act.put, List.setIfInBounds_toArray, List.set_cons_zero, List.set_cons_succ]
              refine wpAnyH_take (i := 10) (v := (bif b0 then undef else .int .i64 status)) rfl (by kernel_rfl) (by kernel_rfl) (by kernel_rfl) CalmP.onlyN_panic ?_ (by assumption) ?_
              · (cases b0 <;> first | exact Or.inr ⟨by kernel_rfl, rfl⟩ | exact Or.inl ⟨by kernel_rfl, by (intro w_ hSw; (try dsimp only at hSw); (try simp only [cond_true, cond_false, Bool.or_true, Bool.true_or, Bool.or_false, Bool.false_or]); go_simp; try with_reducible rfl)⟩)
              try simp only [Act.put, List.setIfInBounds_toArray, List.set_cons_zero, List.set_cons_succ]
              refine wpAnyH_take (i := 11) (v := (bif b0 then undef else .bool b1)) rfl (by kernel_rfl) (by kernel_rfl) (by kernel_rfl) CalmP.onlyN_panic ?_ (by assumption) ?_
              · (cases b0 <;> first | exact Or.inr ⟨by kernel_rfl, rfl⟩ | exact Or.inl ⟨by kernel_rfl, by (intro w_ hSw; (try dsimp only at hSw); (try simp only [cond_true, cond_false, Bool.or_true, Bool.true_or, Bool.or_false, Bool.false_or]); go_simp; try with_reducible rfl)⟩)
              try simp only [Act.put, List.setIfInBounds_toArray, List.set_cons_zero, List.set_cons_succ]
              refine wpAnyH_take (i := 12) (v := .bool (b0 || b1)) rfl (by kernel_rfl) (by kernel_rfl) (by kernel_rfl) CalmP.onlyN_panic ?_ (by assumption) ?_
              · (cases b0 <;> first | exact Or.inr ⟨by kernel_rfl, rfl⟩ | exact Or.inl ⟨by kernel_rfl, by (intro w_ hSw; (try dsimp only at hSw); (try simp only [cond_true, cond_false, Bool.or_true, Bool.true_or, Bool.or_false, Bool.false_or]); go_simp; try with_reducible rfl)⟩)
              try simp only [Act.put, List.setIfInBounds_toArray, List.set_cons_zero, List.set_cons_succ]
              refine wpAnyH_take (i := 13) (v := .bool (b0 || b1)) rfl (by kernel_rfl) (by kernel_rfl) (by kernel_rfl) CalmP.onlyN_panic ?_ (by assumption) ?_
              · (cases b0 <;> cases b1 <;> first | exact Or.inr ⟨by kernel_rfl, rfl⟩ | exact Or.inl ⟨by kernel_rfl, by (intro w_ hSw; (try dsimp only at hSw); (try simp only [cond_true, cond_false, Bool.or_true, Bool.true_or, Bool.or_false, Bool.false_or]); go_simp; try with_reducible rfl)⟩)
              try simp only [Act.put, List.setIfInBounds_toArray, List.set_cons_zero, List.set_cons_succ]
              refine wpAnyH_take (i := 14) (v := (bif (b0 || b1) then undef else .int .i64 status)) rfl (by kernel_rfl) (by kernel_rfl) (by kernel_rfl) CalmP.onlyN_panic ?_ (by assumption) ?_
              · (cases b0 <;> cases b1 <;> first | exact Or.inr ⟨by kernel_rfl, rfl⟩ | exact Or.inl ⟨by kernel_rfl, by (intro w_ hSw; (try dsimp only at hSw); (try simp only [cond_true, cond_false, Bool.or_true, Bool.true_or, Bool.or_false, Bool.false_or]); go_simp; try with_reducible rfl)⟩)
              try simp only [Act.put, List.setIfInBounds_toArray, List.set_cons_zero, List.set_cons_succ]
              refine wpAnyH_take (i := 15) (v := (bif (b0 || b1) then undef else .bool b2)) rfl (by kernel_rfl) (by kernel_rfl) (by kernel_rfl) CalmP.onlyN_panic ?_ (by assumption) ?_
              · (cases b0 <;> cases b1 <;> first | exact Or.inr ⟨by kernel_rfl, rfl⟩ | exact Or.inl ⟨by kernel_rfl, by (intro w_ hSw; (try dsimp only at hSw); (try simp only [cond_true, cond_false, Bool.or_true, Bool.true_or, Bool.or_false, Bool.false_or]); go_simp; try with_reducible rfl)⟩)
              try simp only [Act.put, List.setIfInBounds_toArray, List.set_cons_zero, List.set_cons_succ]
              refine wpAnyH_take (i := 16) (v := .bool (b0 || b1 || b2)) rfl (by kernel_rfl) (by kernel_rfl) (by kernel_rfl) CalmP.onlyN_panic ?_ (by assumption) ?_
              · (cases b0 <;> cases b1 <;> first | exact Or.inr ⟨by kernel_rfl, rfl⟩ | exact Or.inl ⟨by kernel_rfl, by (intro w_ hSw; (try dsimp only at hSw); (try simp only [cond_true, cond_false, Bool.or_true, Bool.true_or, Bool.or_false, Bool.false_or]); go_simp; try with_reducible rfl)⟩)
              try simp only [Act.put, List.setIfInBounds_toArray, List.set_cons_zero, List.set_cons_succ]
              refine wpAnyH_take (i := 17) (v := .bool (b0 || b1 || b2)) rfl (by kernel_rfl) (by kernel_rfl) (by kernel_rfl) CalmP.onlyN_panic ?_ (by assumption) ?_
              · (cases b0 <;> cases b1 <;> cases b2 <;> first | exact Or.inr ⟨by kernel_rfl, rfl⟩ | exact Or.inl ⟨by kernel_rfl, by (intro w_ hSw; (try dsimp only at hSw); (try simp only [cond_true, cond_false, Bool.or_true, Bool.true_or, Bool.or_false, Bool.false_or]); go_simp; try with_reducible rfl)⟩)
              try simp only [Act.put, List.setIfInBounds_toArray, List.set_cons_zero, List.set_cons_succ]
              refine wpAnyH_take (i := 18) (v := (bif (b0 || b1 || b2) then undef else .int .i64 status)) rfl (by kernel_rfl) (by kernel_rfl) (by kernel_rfl) CalmP.onlyN_panic ?_ (by assumption) ?_
              · (cases b0 <;> cases b1 <;> cases b2 <;> first | exact Or.inr ⟨by kernel_rfl, rfl⟩ | exact Or.inl ⟨by kernel_rfl, by (intro w_ hSw; (try dsimp only at hSw); (try simp only [cond_true, cond_false, Bool.or_true, Bool.true_or, Bool.or_false, Bool.false_or]); go_simp; try with_reducible rfl)⟩)
              try simp only [Act.put, List.setIfInBounds_toArray, List.set_cons_zero, List.set_cons_succ]
              refine wpAnyH_take (i := 19) (v := (bif (b0 || b1 || b2) then undef else .bool b3)) rfl (by kernel_rfl) (by kernel_rfl) (by kernel_rfl) CalmP.onlyN_panic ?_ (by assumption) ?_
              · (cases b0 <;> cases b1 <;> cases b2 <;> first | exact Or.inr ⟨by kernel_rfl, rfl⟩ | exact Or.inl ⟨by kernel_rfl, by (intro w_ hSw; (try dsimp only at hSw); (try simp only [cond_true, cond_false, Bool.or_true, Bool.true_or, Bool.or_false, Bool.false_or]); go_simp; try with_reducible rfl)⟩)
              try simp only [Act.put, List.setIfInBounds_toArray, List.set_cons_zero, List.set_cons_succ]
              refine wpAnyH_take (i := 20) (v := .bool (b0 || b1 || b2 || b3)) rfl (by kernel_rfl) (by kernel_rfl) (by kernel_rfl) CalmP.onlyN_panic ?_ (by assumption) ?_
              · (cases b0 <;> cases b1 <;> cases b2 <;> first | exact Or.inr ⟨by kernel_rfl, rfl⟩ | exact Or.inl ⟨by kernel_rfl, by (intro w_ hSw; (try dsimp only at hSw); (try simp only [cond_true, cond_false, Bool.or_true, Bool.true_or, Bool.or_false, Bool.false_or]); go_simp; try with_reducible rfl)⟩)
              try simp only [Act.put, List.setIfInBounds_toArray, List.set_cons_zero, List.set_cons_succ]
              refine wpAnyH_take (i := 21) (v := .bool (b0 || b1 || b2 || b3)) rfl (by kernel_rfl) (by kernel_rfl) (by kernel_rfl) CalmP.onlyN_panic ?_ (by assumption) ?_
              · (cases b0 <;> cases b1 <;> cases b2 <;> cases b3 <;> first | exact Or.inr ⟨by kernel_rfl, rfl⟩ | exact Or.inl ⟨by kernel_rfl, by (intro w_ hSw; (try dsimp only at hSw); (try simp only [cond_true, cond_false, Bool.or_true, Bool.true_or, Bool.or_false, Bool.false_or]); go_simp; try with_reducible rfl)⟩)
              try simp only [Act.put, List.setIfInBounds_toArray, List.set_cons_zero, List.set_cons_succ]
              refine wpAnyH_take (i := 22) (v := (bif (b0 || b1 || b2 || b3) then undef else .int .i64 status)) rfl (by kernel_rfl) (by kernel_rfl) (by kernel_rfl) CalmP.onlyN_panic ?_ (by assumption) ?_
              · (cases b0 <;> cases b1 <;> cases b2 <;> cases b3 <;> first | exact Or.inr ⟨by kernel_rfl, rfl⟩ | exact Or.inl ⟨by kernel_rfl, by (intro w_ hSw; (try dsimp only at hSw); (try simp only [cond_true, cond_false, Bool.or_true, Bool.true_or, Bool.or_false, Bool.false_or]); go_simp; try with_reducible rfl)⟩)
              try simp only [Act.put, List.setIfInBounds_toArray, List.set_cons_zero, List.set_cons_succ]
              refine wpAnyH_take (i := 23) (v := (bif (b0 || b1 || b2 || b3) then undef else .bool b4)) rfl (by kernel_rfl) (by kernel_rfl) (by kernel_rfl) CalmP.onlyN_panic ?_ (by assumption) ?_
              · (cases b0 <;> cases b1 <;> cases b2 <;> cases b3 <;> first | exact Or.inr ⟨by kernel_rfl, rfl⟩ | exact Or.inl ⟨by kernel_rfl, by (intro w_ hSw; (try dsimp only at hSw); (try simp only [cond_true, cond_false, Bool.or_true, Bool.true_or, Bool.or_false, Bool.false_or]); go_simp; try with_reducible rfl)⟩)
              try simp only [Act.put, List.setIfInBounds_toArray, List.set_cons_zero, List.set_cons_succ]
              refine wpAnyH_take (i := 24) (v := .bool true) rfl (by kernel_rfl) (by kernel_rfl) (by kernel_rfl) CalmP.onlyN_panic ?_ (by assumption) ?_
              · (cases b0 <;> cases b1 <;> cases b2 <;> cases b3 <;> cases b4 <;> first | exact Or.inr ⟨by kernel_rfl, rfl⟩ | exact absurd hb (by decide) | exact Or.inl ⟨by kernel_rfl, by (intro w_ hSw; (try dsimp only at hSw); (try simp only [cond_true, cond_false, Bool.or_true, Bool.true_or, Bool.or_false, Bool.false_or]); go_simp; try with_reducible rfl)⟩)
              try simp only [Act.put, List.setIfInBounds_toArray, List.set_cons_zero, List.set_cons_succ]
              refine wpAnyH_take (i := 25) (v := ?_) rfl (by kernel_rfl) (by kernel_rfl) (by kernel_rfl) CalmP.onlyN_panic (Or.inl ⟨by kernel_rfl, ?_⟩) (by assumption) ?_
              rotate_left
              · (intro w_ hSw; (try dsimp only at hSw); go_simp; try with_reducible rfl)
              try simp only [Act.put, List.setIfInBounds_toArray, List.set_cons_zero, List.set_cons_succ]
              refine wpAnyH_take (i := 26) (v := ?_) rfl (by kernel_rfl) (by kernel_rfl) (by kernel_rfl) CalmP.onlyN_panic (Or.inl ⟨by kernel_rfl, ?_⟩) (by assumption) ?_
              rotate_left
              · (intro w_ hSw; (try dsimp only at hSw); go_simp; try with_reducible rfl)
              try simp only [Act.put, List.setIfInBounds_toArray, List.set_cons_zero, List.set_cons_succ]
              refine wpAnyH_take (i := 27) (v := ?_) rfl (by kernel_rfl) (by kernel_rfl) (by kernel_rfl) CalmP.onlyN_panic (Or.inl ⟨by kernel_rfl, ?_⟩) (by assumption) ?_
              rotate_left
              · (intro w_ hSw; (try dsimp only at hSw); go_simp; try with_reducible rfl)
              try simp only [Act.put, List.setIfInBounds_toArray, List.set_cons_zero, List.set_cons_succ]
              refine wpAnyH_take (i := 28) (v := ?_) rfl (by kernel_rfl) (by kernel_rfl) (by kernel_rfl) CalmP.onlyN_panic (Or.inl ⟨by kernel_rfl, ?_⟩) (by assumption) ?_
              rotate_left
              · (intro w_ hSw; (try dsimp only at hSw); go_simp; try with_reducible rfl)
              try simp only [Act.put, List.setIfInBounds_toArray, List.set_cons_zero, List.set_cons_succ]
              refine wpAnyH_ready (rs := [29]) (by kernel_rfl) (by simp) ?_
              refine AllReadyH.cons rfl (fun K_ hK => ?_) AllReadyH.nil
              go_simp
              refine (qC _ y1).mono ?_
              rintro e_ V2 ⟨rfl, k_⟩
              have y2 := y1.trans (k_.mono y1.size)
              clear k_
              refine hK.out _ _ (mk _ y2) (fun hHeld => ?_)
              clear hK K_
              try simp only [Act.put, List.setIfInBounds_toArray, List.set_cons_zero, List.set_cons_succ]
              refine wpAnyH_take (i := 30) (v := ?_) rfl (by kernel_rfl) (by kernel_rfl) (by kernel_rfl) CalmP.onlyN_panic (Or.inl ⟨by kernel_rfl, ?_⟩) (by assumption) ?_
              rotate_left
              · (intro w_ hSw; (try dsimp only at hSw); go_simp; try with_reducible rfl)
              try simp only [Act.put, List.setIfInBounds_toArray, List.set_cons_zero, List.set_cons_succ]
              refine wpAnyH_take (i := 31) (v := ?_) rfl (by kernel_rfl) (by kernel_rfl) (by kernel_rfl) CalmP.onlyN_panic (Or.inl ⟨by kernel_rfl, ?_⟩) (by assumption) ?_
              rotate_left
              · (intro w_ hSw; (try dsimp only at hSw); go_simp; try with_reducible rfl)
              try simp only [Act.put, List.setIfInBounds_toArray, List.set_cons_zero, List.set_cons_succ]
              refine wpAnyH_take (i := 32) (v := ?_) rfl (by kernel_rfl) (by kernel_rfl) (by kernel_rfl) CalmP.onlyN_panic (Or.inl ⟨by kernel_rfl, ?_⟩) (by assumption) ?_
              rotate_left
              · (intro w_ hSw; (try dsimp only at hSw); go_simp; try with_reducible rfl)
              try simp only [Act.put, List.setIfInBounds_toArray, List.set_cons_zero, List.set_cons_succ]
              refine wpAnyH_take (i := 33) (v := ?_) rfl (by kernel_rfl) (by kernel_rfl) (by kernel_rfl) CalmP.onlyN_panic (Or.inl ⟨by kernel_rfl, ?_⟩) (by assumption) ?_
              rotate_left
              · (intro w_ hSw; (try dsimp only at hSw); go_simp; try with_reducible rfl)
              try simp only [Act.put, List.setIfInBounds_toArray, List.set_cons_zero, List.set_cons_succ]
              refine wpAnyH_take (i := 34) (v := ?_) rfl (by kernel_rfl) (by kernel_rfl) (by kernel_rfl) CalmP.onlyN_panic (Or.inl ⟨by kernel_rfl, ?_⟩) (by assumption) ?_
              rotate_left
              · (intro w_ hSw; (try dsimp only at hSw); go_simp; try with_reducible rfl)
              try simp only [Act.put, List.setIfInBounds_toArray, List.set_cons_zero, List.set_cons_succ]
              refine wpAnyH_take (i := 35) (v := ?_) rfl (by kernel_rfl) (by kernel_rfl) (by kernel_rfl) CalmP.onlyN_panic (Or.inl ⟨by kernel_rfl, ?_⟩) (by assumption) ?_
              rotate_left
              · (intro w_ hSw; (try dsimp only at hSw); go_simp; try with_reducible rfl)
              try simp only [Act.put, List.setIfInBounds_toArray, List.set_cons_zero, List.set_cons_succ]
              refine wpAnyH_ready (rs := [36]) (by kernel_rfl) (by simp) ?_
              refine AllReadyH.cons rfl (fun K_ hK => ?_) AllReadyH.nil
              go_simp
              refine (qM _ y2).mono ?_
              rintro e_ V3 ⟨rfl, k_⟩
              have y3 := y2.trans (k_.mono y2.size)
              clear k_
              refine hK.out _ _ (mk _ y3) (fun hHeld => ?_)
              clear hK K_
              try simp only [Act.put, List.setIfInBounds_toArray, List.set_cons_zero, List.set_cons_succ]
              refine wpAnyH_ready (rs := [37]) (by kernel_rfl) (by simp) ?_
              refine AllReadyH.cons rfl (fun K_ hK => ?_) AllReadyH.nil
              go_simp
              refine (qW _ y3).mono ?_
              rintro e_ V4 ⟨rfl, k_⟩
              have y4 := y3.trans (k_.mono y3.size)
              clear k_
              refine hK.out _ _ (mk _ y4) (fun hHeld => ?_)
              clear hK K_
              try simp only [Act.put, List.setIfInBounds_toArray, List.set_cons_zero, List.set_cons_succ]
              refine wpAnyH_take (i := 38) (v := ?_) rfl (by kernel_rfl) (by kernel_rfl) (by kernel_rfl) CalmP.onlyN_panic (Or.inl ⟨by kernel_rfl, ?_⟩) (by assumption) ?_
              rotate_left
              · (intro w_ hSw; (try dsimp only at hSw); go_simp; try with_reducible rfl)
              try simp only [Act.put, List.setIfInBounds_toArray, List.set_cons_zero, List.set_cons_succ]
              refine wpAnyH_take (i := 39) (v := ?_) rfl (by kernel_rfl) (by kernel_rfl) (by kernel_rfl) CalmP.onlyN_panic (Or.inl ⟨by kernel_rfl, ?_⟩) (by assumption) ?_
              rotate_left
              · (intro w_ hSw; (try dsimp only at hSw); go_simp; try with_reducible rfl)
              try simp only [Act.put, List.setIfInBounds_toArray, List.set_cons_zero, List.set_cons_succ]
              refine wpAnyH_done (by kernel_rfl) ?_ _
              refine CalmP.onlyN_here (hQ.out _ _ ?_)
              clear hQ K0
              go_wp2_with fail
              go_meet
              exact ⟨by rw [HD.out]; rw [HS.out]; rfl, y4⟩
            · refine CalmP.hideN (fun K0 hQ => ?_)
              refine wp_region_held_drew (S := (fun W : World => W.cell? ⟨gc, 0, none⟩ = some (.slice A0 n0 c0) ∧ W.cell? ⟨gc, 1, none⟩ = some (.slice A1 n1 c1) ∧ W.cell? ⟨gc, 2, none⟩ = some (.int .i64 lv) ∧ W.cell? ⟨gc, 3, none⟩ = some (.int .i64 least) ∧ W.cell? ⟨gc, 4, none⟩ = some (.int .i64 cp) ∧ W.cell? ⟨gc, 5, none⟩ = some (.int .i64 bf) ∧ W.cell? ⟨gc, 6, none⟩ = some (.int .i64 tm) ∧ W.cell? ⟨gr, 0, none⟩ = some (.int .i64 minor) ∧ W.cell? ⟨gr, 1, none⟩ = some (.int .i64 status) ∧ W.cell? ⟨gr, 2, none⟩ = some (.string s_) ∧ W.cell? ⟨gr, 3, none⟩ = some (.slice A n c))) (by kernel_rfl) (mk _ z1) (fun hHeld => ?_)
              refine wpAnyH_take (i := 0) (v := ?_) rfl (by kernel_rfl) (by kernel_rfl) (by kernel_rfl) CalmP.onlyN_panic (Or.inl ⟨by kernel_rfl, ?_⟩) (by assumption) ?_
              rotate_left
              · (intro w_ hSw; (try dsimp only at hSw); go_simp; try with_reducible rfl)
              try simp only [Act.put, List.setIfInBounds_toArray, List.set_cons_zero, List.set_cons_succ]
              refine wpAnyH_ready (rs := [1]) (by kernel_rfl) (by simp) ?_
              refine AllReadyH.cons rfl (fun K_ hK => ?_) AllReadyH.nil
              go_simp
              refine (qK _ z1).mono ?_
              rintro e_ V1 ⟨rfl, k_⟩
              have y1 := z1.trans (k_.mono z1.size)
              clear k_
              refine hK.out _ _ (mk _ y1) (fun hHeld => ?_)
              clear hK K_
              try simp only [Act.put, List.setIfInBounds_toArray, List.set_cons_zero, List.set_cons_succ]
              refine wpAnyH_take (i := 2) (v := ?_) rfl (by kernel_rfl) (by kernel_rfl) (by kernel_rfl) CalmP.onlyN_panic (Or.inl ⟨by kernel_rfl, ?_⟩) (by assumption) ?_
              rotate_left
              · (intro w_ hSw; (try dsimp only at hSw); go_simp; try with_reducible rfl)
              try simp only [Act.put, List.setIfInBounds_toArray, List.set_cons_zero, List.set_cons_succ]
              refine wpAnyH_take (i := 3) (v := ?_) rfl (by kernel_rfl) (by kernel_rfl) (by kernel_rfl) CalmP.onlyN_panic (Or.inl ⟨by kernel_rfl, ?_⟩) (by assumption) ?_
              rotate_left
              · (intro w_ hSw; (try dsimp only at hSw); go_simp; try with_reducible rfl)
              try simp only [Act.put, List.setIfInBounds_toArray, List.set_cons_zero, List.set_cons_succ]
              refine wpAnyH_take (i := 4) (v := ?_) rfl (by kernel_rfl) (by kernel_rfl) (by kernel_rfl) CalmP.onlyN_panic (Or.inl ⟨by kernel_rfl, ?_⟩) (by assumption) ?_
              rotate_left
              · (intro w_ hSw; (try dsimp only at hSw); go_simp; try with_reducible rfl)
              try simp only [Act.put, List.setIfInBounds_toArray, List.set_cons_zero, List.set_cons_succ]
              refine wpAnyH_take (i := 5) (v := ?_) rfl (by kernel_rfl) (by kernel_rfl) (by kernel_rfl) CalmP.onlyN_panic (Or.inl ⟨by kernel_rfl, ?_⟩) (by assumption) ?_
              rotate_left
              · (intro w_ hSw; (try dsimp only at hSw); go_simp; try with_reducible rfl)
              try simp only [Act.put, List.setIfInBounds_toArray, List.set_cons_zero, List.set_cons_succ]
              refine wpAnyH_take (i := 6) (v := ?_) rfl (by kernel_rfl) (by kernel_rfl) (by kernel_rfl) CalmP.onlyN_panic (Or.inl ⟨by kernel_rfl, ?_⟩) (by assumption) ?_
              rotate_left
              · (intro w_ hSw; (try dsimp only at hSw); go_simp; try with_reducible rfl)
              try simp only [Act.put, List.setIfInBounds_toArray, List.set_cons_zero, List.set_cons_succ]
              refine wpAnyH_take (i := 7) (v := ?_) rfl (by kernel_rfl) (by kernel_rfl) (by kernel_rfl) CalmP.onlyN_panic (Or.inl ⟨by kernel_rfl, ?_⟩) (by assumption) ?_
              rotate_left
              · (intro w_ hSw; (try dsimp only at hSw); go_simp; try with_reducible rfl)
              try simp only [Act.put, List.setIfInBounds_toArray, List.set_cons_zero, List.set_cons_succ]
              refine wpAnyH_take (i := 8) (v := ?_) rfl (by kernel_rfl) (by kernel_rfl) (by kernel_rfl) CalmP.onlyN_panic (Or.inl ⟨by kernel_rfl, ?_⟩) (by assumption) ?_
              rotate_left
              · (intro w_ hSw; (try dsimp only at hSw); go_simp; try with_reducible rfl)
              try simp only [Act.put, List.setIfInBounds_toArray, List.set_cons_zero, List.set_cons_succ]
              refine wpAnyH_take (i := 9) (v := ?_) rfl (by kernel_rfl) (by kernel_rfl) (by kernel_rfl) CalmP.onlyN_panic (Or.inl ⟨by kernel_rfl, ?_⟩) (by assumption) ?_
              rotate_left
              · (intro w_ hSw; (try dsimp only at hSw); go_simp; try with_reducible rfl)
              try simp only [Act.put, List.setIfInBounds_toArray, List.set_cons_zero, List.set_cons_succ]
              refine wpAnyH_take (i := 10) (v := (bif b0 then undef else .int .i64 status)) rfl (by kernel_rfl) (by kernel_rfl) (by kernel_rfl) CalmP.onlyN_panic ?_ (by assumption) ?_
              · (cases b0 <;> first | exact Or.inr ⟨by kernel_rfl, rfl⟩ | exact Or.inl ⟨by kernel_rfl, by (intro w_ hSw; (try dsimp only at hSw); (try simp only [cond_true, cond_false, Bool.or_true, Bool.true_or, Bool.or_false, Bool.false_or]); go_simp; try with_reducible rfl)⟩)
              try simp only [Act.put, List.setIfInBounds_toArray, List.set_cons_zero, List.set_cons_succ]
              refine wpAnyH_take (i := 11) (v := (bif b0 then undef else .bool b1)) rfl (by kernel_rfl) (by kernel_rfl) (by kernel_rfl) CalmP.onlyN_panic ?_ (by assumption) ?_
              · (cases b0 <;> first | exact Or.inr ⟨by kernel_rfl, rfl⟩ | exact Or.inl ⟨by kernel_rfl, by (intro w_ hSw; (try dsimp only at hSw); (try simp only [cond_true, cond_false, Bool.or_true, Bool.true_or, Bool.or_false, Bool.false_or]); go_simp; try with_reducible rfl)⟩)
              try simp only [Act.put, List.setIfInBounds_toArray, List.set_cons_zero, List.set_cons_succ]
              refine wpAnyH_take (i := 12) (v := .bool (b0 || b1)) rfl (by kernel_rfl) (by kernel_rfl) (by kernel_rfl) CalmP.onlyN_panic ?_ (by assumption) ?_
              · (cases b0 <;> first | exact Or.inr ⟨by kernel_rfl, rfl⟩ | exact Or.inl ⟨by kernel_rfl, by (intro w_ hSw; (try dsimp only at hSw); (try simp only [cond_true, cond_false, Bool.or_true, Bool.true_or, Bool.or_false, Bool.false_or]); go_simp; try with_reducible rfl)⟩)
              try simp only [Act.put, List.setIfInBounds_toArray, List.set_cons_zero, List.set_cons_succ]
              refine wpAnyH_take (i := 13) (v := .bool (b0 || b1)) rfl (by kernel_rfl) (by kernel_rfl) (by kernel_rfl) CalmP.onlyN_panic ?_ (by assumption) ?_
              · (cases b0 <;> cases b1 <;> first | exact Or.inr ⟨by kernel_rfl, rfl⟩ | exact Or.inl ⟨by kernel_rfl, by (intro w_ hSw; (try dsimp only at hSw); (try simp only [cond_true, cond_false, Bool.or_true, Bool.true_or, Bool.or_false, Bool.false_or]); go_simp; try with_reducible rfl)⟩)
              try simp only [Act.put, List.setIfInBounds_toArray, List.set_cons_zero, List.set_cons_succ]
              refine wpAnyH_take (i := 14) (v := (bif (b0 || b1) then undef else .int .i64 status)) rfl (by kernel_rfl) (by kernel_rfl) (by kernel_rfl) CalmP.onlyN_panic ?_ (by assumption) ?_
              · (cases b0 <;> cases b1 <;> first | exact Or.inr ⟨by kernel_rfl, rfl⟩ | exact Or.inl ⟨by kernel_rfl, by (intro w_ hSw; (try dsimp only at hSw); (try simp only [cond_true, cond_false, Bool.or_true, Bool.true_or, Bool.or_false, Bool.false_or]); go_simp; try with_reducible rfl)⟩)
              try simp only [Act.put, List.setIfInBounds_toArray, List.set_cons_zero, List.set_cons_succ]
              refine wpAnyH_take (i := 15) (v := (bif (b0 || b1) then undef else .bool b2)) rfl (by kernel_rfl) (by kernel_rfl) (by kernel_rfl) CalmP.onlyN_panic ?_ (by assumption) ?_
              · (cases b0 <;> cases b1 <;> first | exact Or.inr ⟨by kernel_rfl, rfl⟩ | exact Or.inl ⟨by kernel_rfl, by (intro w_ hSw; (try dsimp only at hSw); (try simp only [cond_true, cond_false, Bool.or_true, Bool.true_or, Bool.or_false, Bool.false_or]); go_simp; try with_reducible rfl)⟩)
              try simp only [Act.put, List.setIfInBounds_toArray, List.set_cons_zero, List.set_cons_succ]
              refine wpAnyH_take (i := 16) (v := .bool (b0 || b1 || b2)) rfl (by kernel_rfl) (by kernel_rfl) (by kernel_rfl) CalmP.onlyN_panic ?_ (by assumption) ?_
              · (cases b0 <;> cases b1 <;> first | exact Or.inr ⟨by kernel_rfl, rfl⟩ | exact Or.inl ⟨by kernel_rfl, by (intro w_ hSw; (try dsimp only at hSw); (try simp only [cond_true, cond_false, Bool.or_true, Bool.true_or, Bool.or_false, Bool.false_or]); go_simp; try with_reducible rfl)⟩)
              try simp only [Act.put, List.setIfInBounds_toArray, List.set_cons_zero, List.set_cons_succ]
              refine wpAnyH_take (i := 17) (v := .bool (b0 || b1 || b2)) rfl (by kernel_rfl) (by kernel_rfl) (by kernel_rfl) CalmP.onlyN_panic ?_ (by assumption) ?_
              · (cases b0 <;> cases b1 <;> cases b2 <;> first | exact Or.inr ⟨by kernel_rfl, rfl⟩ | exact Or.inl ⟨by kernel_rfl, by (intro w_ hSw; (try dsimp only at hSw); (try simp only [cond_true, cond_false, Bool.or_true, Bool.true_or, Bool.or_false, Bool.false_or]); go_simp; try with_reducible rfl)⟩)
              try simp only [Act.put, List.setIfInBounds_toArray, List.set_cons_zero, List.set_cons_succ]
              refine wpAnyH_take (i := 18) (v := (bif (b0 || b1 || b2) then undef else .int .i64 status)) rfl (by kernel_rfl) (by kernel_rfl) (by kernel_rfl) CalmP.onlyN_panic ?_ (by assumption) ?_
              · (cases b0 <;> cases b1 <;> cases b2 <;> first | exact Or.inr ⟨by kernel_rfl, rfl⟩ | exact Or.inl ⟨by kernel_rfl, by (intro w_ hSw; (try dsimp only at hSw); (try simp only [cond_true, cond_false, Bool.or_true, Bool.true_or, Bool.or_false, Bool.false_or]); go_simp; try with_reducible rfl)⟩)
              try simp only [Act.put, List.setIfInBounds_toArray, List.set_cons_zero, List.set_cons_succ]
              refine wpAnyH_take (i := 19) (v := (bif (b0 || b1 || b2) then undef else .bool b3)) rfl (by kernel_rfl) (by kernel_rfl) (by kernel_rfl) CalmP.onlyN_panic ?_ (by assumption) ?_
              · (cases b0 <;> cases b1 <;> cases b2 <;> first | exact Or.inr ⟨by kernel_rfl, rfl⟩ | exact Or.inl ⟨by kernel_rfl, by (intro w_ hSw; (try dsimp only at hSw); (try simp only [cond_true, cond_false, Bool.or_true, Bool.true_or, Bool.or_false, Bool.false_or]); go_simp; try with_reducible rfl)⟩)
              try simp only [Act.put, List.setIfInBounds_toArray, List.set_cons_zero, List.set_cons_succ]
              refine wpAnyH_take (i := 20) (v := .bool (b0 || b1 || b2 || b3)) rfl (by kernel_rfl) (by kernel_rfl) (by kernel_rfl) CalmP.onlyN_panic ?_ (by assumption) ?_
              · (cases b0 <;> cases b1 <;> cases b2 <;> first | exact Or.inr ⟨by kernel_rfl, rfl⟩ | exact Or.inl ⟨by kernel_rfl, by (intro w_ hSw; (try dsimp only at hSw); (try simp only [cond_true, cond_false, Bool.or_true, Bool.true_or, Bool.or_false, Bool.false_or]); go_simp; try with_reducible rfl)⟩)
              try simp only [Act.put, List.setIfInBounds_toArray, List.set_cons_zero, List.set_cons_succ]
              refine wpAnyH_take (i := 21) (v := .bool (b0 || b1 || b2 || b3)) rfl (by kernel_rfl) (by kernel_rfl) (by kernel_rfl) CalmP.onlyN_panic ?_ (by assumption) ?_
              · (cases b0 <;> cases b1 <;> cases b2 <;> cases b3 <;> first | exact Or.inr ⟨by kernel_rfl, rfl⟩ | exact Or.inl ⟨by kernel_rfl, by (intro w_ hSw; (try dsimp only at hSw); (try simp only [cond_true, cond_false, Bool.or_true, Bool.true_or, Bool.or_false, Bool.false_or]); go_simp; try with_reducible rfl)⟩)
              try simp only [Act.put, List.setIfInBounds_toArray, List.set_cons_zero, List.set_cons_succ]
              refine wpAnyH_take (i := 22) (v := (bif (b0 || b1 || b2 || b3) then undef else .int .i64 status)) rfl (by kernel_rfl) (by kernel_rfl) (by kernel_rfl) CalmP.onlyN_panic ?_ (by assumption) ?_
              · (cases b0 <;> cases b1 <;> cases b2 <;> cases b3 <;> first | exact Or.inr ⟨by kernel_rfl, rfl⟩ | exact Or.inl ⟨by kernel_rfl, by (intro w_ hSw; (try dsimp only at hSw); (try simp only [cond_true, cond_false, Bool.or_true, Bool.true_or, Bool.or_false, Bool.false_or]); go_simp; try with_reducible rfl)⟩)
              try simp only [Act.put, List.setIfInBounds_toArray, List.set_cons_zero, List.set_cons_succ]
              refine wpAnyH_take (i := 23) (v := (bif (b0 || b1 || b2 || b3) then undef else .bool b4)) rfl (by kernel_rfl) (by kernel_rfl) (by kernel_rfl) CalmP.onlyN_panic ?_ (by assumption) ?_
              · (cases b0 <;> cases b1 <;> cases b2 <;> cases b3 <;> first | exact Or.inr ⟨by kernel_rfl, rfl⟩ | exact Or.inl ⟨by kernel_rfl, by (intro w_ hSw; (try dsimp only at hSw); (try simp only [cond_true, cond_false, Bool.or_true, Bool.true_or, Bool.or_false, Bool.false_or]); go_simp; try with_reducible rfl)⟩)
              try simp only [Act.put, List.setIfInBounds_toArray, List.set_cons_zero, List.set_cons_succ]
              refine wpAnyH_take (i := 24) (v := .bool true) rfl (by kernel_rfl) (by kernel_rfl) (by kernel_rfl) CalmP.onlyN_panic ?_ (by assumption) ?_
              · (cases b0 <;> cases b1 <;> cases b2 <;> cases b3 <;> cases b4 <;> first | exact Or.inr ⟨by kernel_rfl, rfl⟩ | exact absurd hb (by decide) | exact Or.inl ⟨by kernel_rfl, by (intro w_ hSw; (try dsimp only at hSw); (try simp only [cond_true, cond_false, Bool.or_true, Bool.true_or, Bool.or_false, Bool.false_or]); go_simp; try with_reducible rfl)⟩)
              try simp only [Act.put, List.setIfInBounds_toArray, List.set_cons_zero, List.set_cons_succ]
              refine wpAnyH_take (i := 25) (v := ?_) rfl (by kernel_rfl) (by kernel_rfl) (by kernel_rfl) CalmP.onlyN_panic (Or.inl ⟨by kernel_rfl, ?_⟩) (by assumption) ?_
              rotate_left
              · (intro w_ hSw; (try dsimp only at hSw); go_simp; try with_reducible rfl)
              try simp only [Act.put, List.setIfInBounds_toArray, List.set_cons_zero, List.set_cons_succ]
              refine wpAnyH_take (i := 26) (v := ?_) rfl (by kernel_rfl) (by kernel_rfl) (by kernel_rfl) CalmP.onlyN_panic (Or.inl ⟨by kernel_rfl, ?_⟩) (by assumption) ?_
              rotate_left
              · (intro w_ hSw; (try dsimp only at hSw); go_simp; try with_reducible rfl)
              try simp only [Act.put, List.setIfInBounds_toArray, List.set_cons_zero, List.set_cons_succ]
              refine wpAnyH_take (i := 27) (v := ?_) rfl (by kernel_rfl) (by kernel_rfl) (by kernel_rfl) CalmP.onlyN_panic (Or.inl ⟨by kernel_rfl, ?_⟩) (by assumption) ?_
              rotate_left
              · (intro w_ hSw; (try dsimp only at hSw); go_simp; try with_reducible rfl)
              try simp only [Act.put, List.setIfInBounds_toArray, List.set_cons_zero, List.set_cons_succ]
              refine wpAnyH_take (i := 28) (v := ?_) rfl (by kernel_rfl) (by kernel_rfl) (by kernel_rfl) CalmP.onlyN_panic (Or.inl ⟨by kernel_rfl, ?_⟩) (by assumption) ?_
              rotate_left
              · (intro w_ hSw; (try dsimp only at hSw); go_simp; try with_reducible rfl)
              try simp only [Act.put, List.setIfInBounds_toArray, List.set_cons_zero, List.set_cons_succ]
              refine wpAnyH_ready (rs := [29]) (by kernel_rfl) (by simp) ?_
              refine AllReadyH.cons rfl (fun K_ hK => ?_) AllReadyH.nil
              go_simp
              refine (qC _ y1).mono ?_
              rintro e_ V2 ⟨rfl, k_⟩
              have y2 := y1.trans (k_.mono y1.size)
              clear k_
              refine hK.out _ _ (mk _ y2) (fun hHeld => ?_)
              clear hK K_
              try simp only [Act.put, List.setIfInBounds_toArray, List.set_cons_zero, List.set_cons_succ]
              refine wpAnyH_take (i := 30) (v := ?_) rfl (by kernel_rfl) (by kernel_rfl) (by kernel_rfl) CalmP.onlyN_panic (Or.inl ⟨by kernel_rfl, ?_⟩) (by assumption) ?_
              rotate_left
              · (intro w_ hSw; (try dsimp only at hSw); go_simp; try with_reducible rfl)
              try simp only [Act.put, List.setIfInBounds_toArray, List.set_cons_zero, List.set_cons_succ]
              refine wpAnyH_take (i := 31) (v := ?_) rfl (by kernel_rfl) (by kernel_rfl) (by kernel_rfl) CalmP.onlyN_panic (Or.inl ⟨by kernel_rfl, ?_⟩) (by assumption) ?_
              rotate_left
              · (intro w_ hSw; (try dsimp only at hSw); go_simp; try with_reducible rfl)
              try simp only [Act.put, List.setIfInBounds_toArray, List.set_cons_zero, List.set_cons_succ]
              refine wpAnyH_take (i := 32) (v := ?_) rfl (by kernel_rfl) (by kernel_rfl) (by kernel_rfl) CalmP.onlyN_panic (Or.inl ⟨by kernel_rfl, ?_⟩) (by assumption) ?_
              rotate_left
              · (intro w_ hSw; (try dsimp only at hSw); go_simp; try with_reducible rfl)
              try simp only [Act.put, List.setIfInBounds_toArray, List.set_cons_zero, List.set_cons_succ]
              refine wpAnyH_take (i := 33) (v := ?_) rfl (by kernel_rfl) (by kernel_rfl) (by kernel_rfl) CalmP.onlyN_panic (Or.inl ⟨by kernel_rfl, ?_⟩) (by assumption) ?_
              rotate_left
              · (intro w_ hSw; (try dsimp only at hSw); go_simp; try with_reducible rfl)
              try simp only [Act.put, List.setIfInBounds_toArray, List.set_cons_zero, List.set_cons_succ]
              refine wpAnyH_take (i := 34) (v := ?_) rfl (by kernel_rfl) (by kernel_rfl) (by kernel_rfl) CalmP.onlyN_panic (Or.inl ⟨by kernel_rfl, ?_⟩) (by assumption) ?_
              rotate_left
              · (intro w_ hSw; (try dsimp only at hSw); go_simp; try with_reducible rfl)
              try simp only [Act.put, List.setIfInBounds_toArray, List.set_cons_zero, List.set_cons_succ]
              refine wpAnyH_take (i := 35) (v := ?_) rfl (by kernel_rfl) (by kernel_rfl) (by kernel_rfl) CalmP.onlyN_panic (Or.inl ⟨by kernel_rfl, ?_⟩) (by assumption) ?_
              rotate_left
              · (intro w_ hSw; (try dsimp only at hSw); go_simp; try with_reducible rfl)
              try simp only [Act.put, List.setIfInBounds_toArray, List.set_cons_zero, List.set_cons_succ]
              refine wpAnyH_ready (rs := [36]) (by kernel_rfl) (by simp) ?_
              refine AllReadyH.cons rfl (fun K_ hK => ?_) AllReadyH.nil
              go_simp
              refine (qM _ y2).mono ?_
              rintro e_ V3 ⟨rfl, k_⟩
              have y3 := y2.trans (k_.mono y2.size)
              clear k_
              refine hK.out _ _ (mk _ y3) (fun hHeld => ?_)
              clear hK K_
              try simp only [Act.put, List.setIfInBounds_toArray, List.set_cons_zero, List.set_cons_succ]
              refine wpAnyH_ready (rs := [37]) (by kernel_rfl) (by simp) ?_
              refine AllReadyH.cons rfl (fun K_ hK => ?_) AllReadyH.nil
              go_simp
              refine (qW _ y3).mono ?_
              rintro e_ V4 ⟨rfl, k_⟩
              have y4 := y3.trans (k_.mono y3.size)
              clear k_
              refine hK.out _ _ (mk _ y4) (fun hHeld => ?_)
              clear hK K_
              try simp only [Act.put, List.setIfInBounds_toArray, List.set_cons_zero, List.set_cons_succ]
              refine wpAnyH_take (i := 38) (v := ?_) rfl (by kernel_rfl) (by kernel_rfl) (by kernel_rfl) CalmP.onlyN_panic (Or.inl ⟨by kernel_rfl, ?_⟩) (by assumption) ?_
              rotate_left
              · (intro w_ hSw; (try dsimp only at hSw); go_simp; try with_reducible rfl)
              try simp only [Act.put, List.setIfInBounds_toArray, List.set_cons_zero, List.set_cons_succ]
              refine wpAnyH_take (i := 39) (v := ?_) rfl (by kernel_rfl) (by kernel_rfl) (by kernel_rfl) CalmP.onlyN_panic (Or.inl ⟨by kernel_rfl, ?_⟩) (by assumption) ?_
              rotate_left
              · (intro w_ hSw; (try dsimp only at hSw); go_simp; try with_reducible rfl)
              try simp only [Act.put, List.setIfInBounds_toArray, List.set_cons_zero, List.set_cons_succ]
              refine wpAnyH_done (by kernel_rfl) ?_ _
              refine CalmP.onlyN_here (hQ.out _ _ ?_)
              clear hQ K0
              go_wp2_with fail
              go_meet
              exact ⟨by rw [HD.out]; rw [HS.out]; rfl, y4⟩
          · have eC : ((Cd : Int) == 0) = false := by simpa using hC0
            have eC2 : ((Cd : Int) != 0) = true := by simpa using hC0
            have HC := hide (show decide (Cd = 0) = false from decide_eq_false hC0)
            clear hC0
            refine CalmP.hideN (fun K0 hQ => ?_)
            refine wp_region_held_drew (S := (fun W : World => W.cell? ⟨gc, 0, none⟩ = some (.slice A0 n0 c0) ∧ W.cell? ⟨gc, 1, none⟩ = some (.slice A1 n1 c1) ∧ W.cell? ⟨gc, 2, none⟩ = some (.int .i64 lv) ∧ W.cell? ⟨gc, 3, none⟩ = some (.int .i64 least) ∧ W.cell? ⟨gc, 4, none⟩ = some (.int .i64 cp) ∧ W.cell? ⟨gc, 5, none⟩ = some (.int .i64 bf) ∧ W.cell? ⟨gc, 6, none⟩ = some (.int .i64 tm) ∧ W.cell? ⟨gr, 0, none⟩ = some (.int .i64 minor) ∧ W.cell? ⟨gr, 1, none⟩ = some (.int .i64 status) ∧ W.cell? ⟨gr, 2, none⟩ = some (.string s_) ∧ W.cell? ⟨gr, 3, none⟩ = some (.slice A n c))) (by kernel_rfl) (mk _ z1) (fun hHeld => ?_)
            refine wpAnyH_take (i := 0) (v := ?_) rfl (by kernel_rfl) (by kernel_rfl) (by kernel_rfl) CalmP.onlyN_panic (Or.inl ⟨by kernel_rfl, ?_⟩) (by assumption) ?_
            rotate_left
            · (intro w_ hSw; (try dsimp only at hSw); go_simp; try with_reducible rfl)
            try simp only [Act.put, List.setIfInBounds_toArray, List.set_cons_zero, List.set_cons_succ]
            refine wpAnyH_ready (rs := [1]) (by kernel_rfl) (by simp) ?_
            refine AllReadyH.cons rfl (fun K_ hK => ?_) AllReadyH.nil
            go_simp
            refine (qK _ z1).mono ?_
            rintro e_ V1 ⟨rfl, k_⟩
            have y1 := z1.trans (k_.mono z1.size)
            clear k_
            refine hK.out _ _ (mk _ y1) (fun hHeld => ?_)
            clear hK K_
            try simp only [Act.put, List.setIfInBounds_toArray, List.set_cons_zero, List.set_cons_succ]
            refine wpAnyH_take (i := 2) (v := ?_) rfl (by kernel_rfl) (by kernel_rfl) (by kernel_rfl) CalmP.onlyN_panic (Or.inl ⟨by kernel_rfl, ?_⟩) (by assumption) ?_
            rotate_left
            · (intro w_ hSw; (try dsimp only at hSw); go_simp; try with_reducible rfl)
            try simp only [Act.put, List.setIfInBounds_toArray, List.set_cons_zero, List.set_cons_succ]
            refine wpAnyH_take (i := 3) (v := ?_) rfl (by kernel_rfl) (by kernel_rfl) (by kernel_rfl) CalmP.onlyN_panic (Or.inl ⟨by kernel_rfl, ?_⟩) (by assumption) ?_
            rotate_left
            · (intro w_ hSw; (try dsimp only at hSw); go_simp; try with_reducible rfl)
            try simp only [Act.put, List.setIfInBounds_toArray, List.set_cons_zero, List.set_cons_succ]
            refine wpAnyH_take (i := 4) (v := ?_) rfl (by kernel_rfl) (by kernel_rfl) (by kernel_rfl) CalmP.onlyN_panic (Or.inl ⟨by kernel_rfl, ?_⟩) (by assumption) ?_
            rotate_left
            · (intro w_ hSw; (try dsimp only at hSw); go_simp; try with_reducible rfl)
            try simp only [Act.put, List.setIfInBounds_toArray, List.set_cons_zero, List.set_cons_succ]
            refine wpAnyH_take (i := 5) (v := ?_) rfl (by kernel_rfl) (by kernel_rfl) (by kernel_rfl) CalmP.onlyN_panic (Or.inl ⟨by kernel_rfl, ?_⟩) (by assumption) ?_
            rotate_left
            · (intro w_ hSw; (try dsimp only at hSw); go_simp; try with_reducible rfl)
            try simp only [Act.put, List.setIfInBounds_toArray, List.set_cons_zero, List.set_cons_succ]
            refine wpAnyH_take (i := 6) (v := ?_) rfl (by kernel_rfl) (by kernel_rfl) (by kernel_rfl) CalmP.onlyN_panic (Or.inl ⟨by kernel_rfl, ?_⟩) (by assumption) ?_
            rotate_left
            · (intro w_ hSw; (try dsimp only at hSw); go_simp; try with_reducible rfl)
            try simp only [Act.put, List.setIfInBounds_toArray, List.set_cons_zero, List.set_cons_succ]
            refine wpAnyH_take (i := 7) (v := ?_) rfl (by kernel_rfl) (by kernel_rfl) (by kernel_rfl) CalmP.onlyN_panic (Or.inl ⟨by kernel_rfl, ?_⟩) (by assumption) ?_
            rotate_left
            · (intro w_ hSw; (try dsimp only at hSw); go_simp; try with_reducible rfl)
            try simp only [Act.put, List.setIfInBounds_toArray, List.set_cons_zero, List.set_cons_succ]
            refine wpAnyH_take (i := 8) (v := ?_) rfl (by kernel_rfl) (by kernel_rfl) (by kernel_rfl) CalmP.onlyN_panic (Or.inl ⟨by kernel_rfl, ?_⟩) (by assumption) ?_
            rotate_left
            · (intro w_ hSw; (try dsimp only at hSw); go_simp; try with_reducible rfl)
            try simp only [Act.put, List.setIfInBounds_toArray, List.set_cons_zero, List.set_cons_succ]
            refine wpAnyH_take (i := 9) (v := ?_) rfl (by kernel_rfl) (by kernel_rfl) (by kernel_rfl) CalmP.onlyN_panic (Or.inl ⟨by kernel_rfl, ?_⟩) (by assumption) ?_
            rotate_left
            · (intro w_ hSw; (try dsimp only at hSw); go_simp; try with_reducible rfl)
            try simp only [Act.put, List.setIfInBounds_toArray, List.set_cons_zero, List.set_cons_succ]
            refine wpAnyH_take (i := 10) (v := (bif b0 then undef else .int .i64 status)) rfl (by kernel_rfl) (by kernel_rfl) (by kernel_rfl) CalmP.onlyN_panic ?_ (by assumption) ?_
            · (cases b0 <;> first | exact Or.inr ⟨by kernel_rfl, rfl⟩ | exact Or.inl ⟨by kernel_rfl, by (intro w_ hSw; (try dsimp only at hSw); (try simp only [cond_true, cond_false, Bool.or_true, Bool.true_or, Bool.or_false, Bool.false_or]); go_simp; try with_reducible rfl)⟩)
            try simp only [Act.put, List.setIfInBounds_toArray, List.set_cons_zero, List.set_cons_succ]
            refine wpAnyH_take (i := 11) (v := (bif b0 then undef else .bool b1)) rfl (by kernel_rfl) (by kernel_rfl) (by kernel_rfl) CalmP.onlyN_panic ?_ (by assumption) ?_
            · (cases b0 <;> first | exact Or.inr ⟨by kernel_rfl, rfl⟩ | exact Or.inl ⟨by kernel_rfl, by (intro w_ hSw; (try dsimp only at hSw); (try simp only [cond_true, cond_false, Bool.or_true, Bool.true_or, Bool.or_false, Bool.false_or]); go_simp; try with_reducible rfl)⟩)
            try simp only [Act.put, List.setIfInBounds_toArray, List.set_cons_zero, List.set_cons_succ]
            refine wpAnyH_take (i := 12) (v := .bool (b0 || b1)) rfl (by kernel_rfl) (by kernel_rfl) (by kernel_rfl) CalmP.onlyN_panic ?_ (by assumption) ?_
            · (cases b0 <;> first | exact Or.inr ⟨by kernel_rfl, rfl⟩ | exact Or.inl ⟨by kernel_rfl, by (intro w_ hSw; (try dsimp only at hSw); (try simp only [cond_true, cond_false, Bool.or_true, Bool.true_or, Bool.or_false, Bool.false_or]); go_simp; try with_reducible rfl)⟩)
            try simp only [Act.put, List.setIfInBounds_toArray, List.set_cons_zero, List.set_cons_succ]
            refine wpAnyH_take (i := 13) (v := .bool (b0 || b1)) rfl (by kernel_rfl) (by kernel_rfl) (by kernel_rfl) CalmP.onlyN_panic ?_ (by assumption) ?_
            · (cases b0 <;> cases b1 <;> first | exact Or.inr ⟨by kernel_rfl, rfl⟩ | exact Or.inl ⟨by kernel_rfl, by (intro w_ hSw; (try dsimp only at hSw); (try simp only [cond_true, cond_false, Bool.or_true, Bool.true_or, Bool.or_false, Bool.false_or]); go_simp; try with_reducible rfl)⟩)
            try simp only [Act.put, List.setIfInBounds_toArray, List.set_cons_zero, List.set_cons_succ]
            refine wpAnyH_take (i := 14) (v := (bif (b0 || b1) then undef else .int .i64 status)) rfl (by kernel_rfl) (by kernel_rfl) (by kernel_rfl) CalmP.onlyN_panic ?_ (by assumption) ?_
            · (cases b0 <;> cases b1 <;> first | exact Or.inr ⟨by kernel_rfl, rfl⟩ | exact Or.inl ⟨by kernel_rfl, by (intro w_ hSw; (try dsimp only at hSw); (try simp only [cond_true, cond_false, Bool.or_true, Bool.true_or, Bool.or_false, Bool.false_or]); go_simp; try with_reducible rfl)⟩)
            try simp only [Act.put, List.setIfInBounds_toArray, List.set_cons_zero, List.set_cons_succ]
            refine wpAnyH_take (i := 15) (v := (bif (b0 || b1) then undef else .bool b2)) rfl (by kernel_rfl) (by kernel_rfl) (by kernel_rfl) CalmP.onlyN_panic ?_ (by assumption) ?_
            · (cases b0 <;> cases b1 <;> first | exact Or.inr ⟨by kernel_rfl, rfl⟩ | exact Or.inl ⟨by kernel_rfl, by (intro w_ hSw; (try dsimp only at hSw); (try simp only [cond_true, cond_false, Bool.or_true, Bool.true_or, Bool.or_false, Bool.false_or]); go_simp; try with_reducible rfl)⟩)
            try simp only [Act.put, List.setIfInBounds_toArray, List.set_cons_zero, List.set_cons_succ]
            refine wpAnyH_take (i := 16) (v := .bool (b0 || b1 || b2)) rfl (by kernel_rfl) (by kernel_rfl) (by kernel_rfl) CalmP.onlyN_panic ?_ (by assumption) ?_
            · (cases b0 <;> cases b1 <;> first | exact Or.inr ⟨by kernel_rfl, rfl⟩ | exact Or.inl ⟨by kernel_rfl, by (intro w_ hSw; (try dsimp only at hSw); (try simp only [cond_true, cond_false, Bool.or_true, Bool.true_or, Bool.or_false, Bool.false_or]); go_simp; try with_reducible rfl)⟩)
            try simp only [Act.put, List.setIfInBounds_toArray, List.set_cons_zero, List.set_cons_succ]
            refine wpAnyH_take (i := 17) (v := .bool (b0 || b1 || b2)) rfl (by kernel_rfl) (by kernel_rfl) (by kernel_rfl) CalmP.onlyN_panic ?_ (by assumption) ?_
            · (cases b0 <;> cases b1 <;> cases b2 <;> first | exact Or.inr ⟨by kernel_rfl, rfl⟩ | exact Or.inl ⟨by kernel_rfl, by (intro w_ hSw; (try dsimp only at hSw); (try simp only [cond_true, cond_false, Bool.or_true, Bool.true_or, Bool.or_false, Bool.false_or]); go_simp; try with_reducible rfl)⟩)
            try simp only [Act.put, List.setIfInBounds_toArray, List.set_cons_zero, List.set_cons_succ]
            refine wpAnyH_take (i := 18) (v := (bif (b0 || b1 || b2) then undef else .int .i64 status)) rfl (by kernel_rfl) (by kernel_rfl) (by kernel_rfl) CalmP.onlyN_panic ?_ (by assumption) ?_
            · (cases b0 <;> cases b1 <;> cases b2 <;> first | exact Or.inr ⟨by kernel_rfl, rfl⟩ | exact Or.inl ⟨by kernel_rfl, by (intro w_ hSw; (try dsimp only at hSw); (try simp only [cond_true, cond_false, Bool.or_true, Bool.true_or, Bool.or_false, Bool.false_or]); go_simp; try with_reducible rfl)⟩)
            try simp only [Act.put, List.setIfInBounds_toArray, List.set_cons_zero, List.set_cons_succ]
            refine wpAnyH_take (i := 19) (v := (bif (b0 || b1 || b2) then undef else .bool b3)) rfl (by kernel_rfl) (by kernel_rfl) (by kernel_rfl) CalmP.onlyN_panic ?_ (by assumption) ?_
            · (cases b0 <;> cases b1 <;> cases b2 <;> first | exact Or.inr ⟨by kernel_rfl, rfl⟩ | exact Or.inl ⟨by kernel_rfl, by (intro w_ hSw; (try dsimp only at hSw); (try simp only [cond_true, cond_false, Bool.or_true, Bool.true_or, Bool.or_false, Bool.false_or]); go_simp; try with_reducible rfl)⟩)
            try simp only [Act.put, List.setIfInBounds_toArray, List.set_cons_zero, List.set_cons_succ]
            refine wpAnyH_take (i := 20) (v := .bool (b0 || b1 || b2 || b3)) rfl (by kernel_rfl) (by kernel_rfl) (by kernel_rfl) CalmP.onlyN_panic ?_ (by assumption) ?_
            · (cases b0 <;> cases b1 <;> cases b2 <;> first | exact Or.inr ⟨by kernel_rfl, rfl⟩ | exact Or.inl ⟨by kernel_rfl, by (intro w_ hSw; (try dsimp only at hSw); (try simp only [cond_true, cond_false, Bool.or_true, Bool.true_or, Bool.or_false, Bool.false_or]); go_simp; try with_reducible rfl)⟩)
            try simp only [Act.put, List.setIfInBounds_toArray, List.set_cons_zero, List.set_cons_succ]
            refine wpAnyH_take (i := 21) (v := .bool (b0 || b1 || b2 || b3)) rfl (by kernel_rfl) (by kernel_rfl) (by kernel_rfl) CalmP.onlyN_panic ?_ (by assumption) ?_
            · (cases b0 <;> cases b1 <;> cases b2 <;> cases b3 <;> first | exact Or.inr ⟨by kernel_rfl, rfl⟩ | exact Or.inl ⟨by kernel_rfl, by (intro w_ hSw; (try dsimp only at hSw); (try simp only [cond_true, cond_false, Bool.or_true, Bool.true_or, Bool.or_false, Bool.false_or]); go_simp; try with_reducible rfl)⟩)
            try simp only [Act.put, List.setIfInBounds_toArray, List.set_cons_zero, List.set_cons_succ]
            refine wpAnyH_take (i := 22) (v := (bif (b0 || b1 || b2 || b3) then undef else .int .i64 status)) rfl (by kernel_rfl) (by kernel_rfl) (by kernel_rfl) CalmP.onlyN_panic ?_ (by assumption) ?_
            · (cases b0 <;> cases b1 <;> cases b2 <;> cases b3 <;> first | exact Or.inr ⟨by kernel_rfl, rfl⟩ | exact Or.inl ⟨by kernel_rfl, by (intro w_ hSw; (try dsimp only at hSw); (try simp only [cond_true, cond_false, Bool.or_true, Bool.true_or, Bool.or_false, Bool.false_or]); go_simp; try with_reducible rfl)⟩)
            try simp only [Act.put, List.setIfInBounds_toArray, List.set_cons_zero, List.set_cons_succ]
            refine wpAnyH_take (i := 23) (v := (bif (b0 || b1 || b2 || b3) then undef else .bool b4)) rfl (by kernel_rfl) (by kernel_rfl) (by kernel_rfl) CalmP.onlyN_panic ?_ (by assumption) ?_
            · (cases b0 <;> cases b1 <;> cases b2 <;> cases b3 <;> first | exact Or.inr ⟨by kernel_rfl, rfl⟩ | exact Or.inl ⟨by kernel_rfl, by (intro w_ hSw; (try dsimp only at hSw); (try simp only [cond_true, cond_false, Bool.or_true, Bool.true_or, Bool.or_false, Bool.false_or]); go_simp; try with_reducible rfl)⟩)
            try simp only [Act.put, List.setIfInBounds_toArray, List.set_cons_zero, List.set_cons_succ]
            refine wpAnyH_take (i := 24) (v := .bool true) rfl (by kernel_rfl) (by kernel_rfl) (by kernel_rfl) CalmP.onlyN_panic ?_ (by assumption) ?_
            · (cases b0 <;> cases b1 <;> cases b2 <;> cases b3 <;> cases b4 <;> first | exact Or.inr ⟨by kernel_rfl, rfl⟩ | exact absurd hb (by decide) | exact Or.inl ⟨by kernel_rfl, by (intro w_ hSw; (try dsimp only at hSw); (try simp only [cond_true, cond_false, Bool.or_true, Bool.true_or, Bool.or_false, Bool.false_or]); go_simp; try with_reducible rfl)⟩)
            try simp only [Act.put, List.setIfInBounds_toArray, List.set_cons_zero, List.set_cons_succ]
            refine wpAnyH_take (i := 25) (v := ?_) rfl (by kernel_rfl) (by kernel_rfl) (by kernel_rfl) CalmP.onlyN_panic (Or.inl ⟨by kernel_rfl, ?_⟩) (by assumption) ?_
            rotate_left
            · (intro w_ hSw; (try dsimp only at hSw); go_simp; try with_reducible rfl)
            try simp only [Act.put, List.setIfInBounds_toArray, List.set_cons_zero, List.set_cons_succ]
            refine wpAnyH_take (i := 26) (v := ?_) rfl (by kernel_rfl) (by kernel_rfl) (by kernel_rfl) CalmP.onlyN_panic (Or.inl ⟨by kernel_rfl, ?_⟩) (by assumption) ?_
            rotate_left
            · (intro w_ hSw; (try dsimp only at hSw); go_simp; try with_reducible rfl)
            try simp only [Act.put, List.setIfInBounds_toArray, List.set_cons_zero, List.set_cons_succ]
            refine wpAnyH_take (i := 27) (v := ?_) rfl (by kernel_rfl) (by kernel_rfl) (by kernel_rfl) CalmP.onlyN_panic (Or.inl ⟨by kernel_rfl, ?_⟩) (by assumption) ?_
            rotate_left
            · (intro w_ hSw; (try dsimp only at hSw); go_simp; try with_reducible rfl)
            try simp only [Act.put, List.setIfInBounds_toArray, List.set_cons_zero, List.set_cons_succ]
            refine wpAnyH_take (i := 28) (v := ?_) rfl (by kernel_rfl) (by kernel_rfl) (by kernel_rfl) CalmP.onlyN_panic (Or.inl ⟨by kernel_rfl, ?_⟩) (by assumption) ?_
            rotate_left
            · (intro w_ hSw; (try dsimp only at hSw); go_simp; try with_reducible rfl)
            try simp only [Act.put, List.setIfInBounds_toArray, List.set_cons_zero, List.set_cons_succ]
            refine wpAnyH_ready (rs := [29]) (by kernel_rfl) (by simp) ?_
            refine AllReadyH.cons rfl (fun K_ hK => ?_) AllReadyH.nil
            go_simp
            refine (qC _ y1).mono ?_
            rintro e_ V2 ⟨rfl, k_⟩
            have y2 := y1.trans (k_.mono y1.size)
            clear k_
            refine hK.out _ _ (mk _ y2) (fun hHeld => ?_)
            clear hK K_
            try simp only [Act.put, List.setIfInBounds_toArray, List.set_cons_zero, List.set_cons_succ]
            refine wpAnyH_take (i := 30) (v := ?_) rfl (by kernel_rfl) (by kernel_rfl) (by kernel_rfl) CalmP.onlyN_panic (Or.inl ⟨by kernel_rfl, ?_⟩) (by assumption) ?_
            rotate_left
            · (intro w_ hSw; (try dsimp only at hSw); go_simp; try with_reducible rfl)
            try simp only [Act.put, List.setIfInBounds_toArray, List.set_cons_zero, List.set_cons_succ]
            refine wpAnyH_take (i := 31) (v := ?_) rfl (by kernel_rfl) (by kernel_rfl) (by kernel_rfl) CalmP.onlyN_panic (Or.inl ⟨by kernel_rfl, ?_⟩) (by assumption) ?_
            rotate_left
            · (intro w_ hSw; (try dsimp only at hSw); go_simp; try with_reducible rfl)
            try simp only [Act.put, List.setIfInBounds_toArray, List.set_cons_zero, List.set_cons_succ]
            refine wpAnyH_take (i := 32) (v := ?_) rfl (by kernel_rfl) (by kernel_rfl) (by kernel_rfl) CalmP.onlyN_panic (Or.inl ⟨by kernel_rfl, ?_⟩) (by assumption) ?_
            rotate_left
            · (intro w_ hSw; (try dsimp only at hSw); go_simp; try with_reducible rfl)
            try simp only [Act.put, List.setIfInBounds_toArray, List.set_cons_zero, List.set_cons_succ]
            refine wpAnyH_take (i := 33) (v := undef) rfl (by kernel_rfl) (by kernel_rfl) (by kernel_rfl) CalmP.onlyN_panic (Or.inr ⟨by kernel_rfl, rfl⟩) (by assumption) ?_
            try simp only [Act.put, List.setIfInBounds_toArray, List.set_cons_zero, List.set_cons_succ]
            refine wpAnyH_take (i := 34) (v := undef) rfl (by kernel_rfl) (by kernel_rfl) (by kernel_rfl) CalmP.onlyN_panic (Or.inr ⟨by kernel_rfl, rfl⟩) (by assumption) ?_
            try simp only [Act.put, List.setIfInBounds_toArray, List.set_cons_zero, List.set_cons_succ]
            refine wpAnyH_take (i := 35) (v := undef) rfl (by kernel_rfl) (by kernel_rfl) (by kernel_rfl) CalmP.onlyN_panic (Or.inr ⟨by kernel_rfl, rfl⟩) (by assumption) ?_
            try simp only [Act.put, List.setIfInBounds_toArray, List.set_cons_zero, List.set_cons_succ]
            refine wpAnyH_take (i := 36) (v := undef) rfl (by kernel_rfl) (by kernel_rfl) (by kernel_rfl) CalmP.onlyN_panic (Or.inr ⟨by kernel_rfl, rfl⟩) (by assumption) ?_
            try simp only [Act.put, List.setIfInBounds_toArray, List.set_cons_zero, List.set_cons_succ]
            refine wpAnyH_take (i := 37) (v := undef) rfl (by kernel_rfl) (by kernel_rfl) (by kernel_rfl) CalmP.onlyN_panic (Or.inr ⟨by kernel_rfl, rfl⟩) (by assumption) ?_
            try simp only [Act.put, List.setIfInBounds_toArray, List.set_cons_zero, List.set_cons_succ]
            refine wpAnyH_take (i := 38) (v := undef) rfl (by kernel_rfl) (by kernel_rfl) (by kernel_rfl) CalmP.onlyN_panic (Or.inr ⟨by kernel_rfl, rfl⟩) (by assumption) ?_
            try simp only [Act.put, List.setIfInBounds_toArray, List.set_cons_zero, List.set_cons_succ]
            refine wpAnyH_take (i := 39) (v := ?_) rfl (by kernel_rfl) (by kernel_rfl) (by kernel_rfl) CalmP.onlyN_panic (Or.inl ⟨by kernel_rfl, ?_⟩) (by assumption) ?_
            rotate_left
            · (intro w_ hSw; (try dsimp only at hSw); go_simp; try with_reducible rfl)
            try simp only [Act.put, List.setIfInBounds_toArray, List.set_cons_zero, List.set_cons_succ]
            refine wpAnyH_done (by kernel_rfl) ?_ _
            refine CalmP.onlyN_here (hQ.out _ _ ?_)
            clear hQ K0
            go_wp2_with fail
            go_meet
            exact ⟨by rw [HD.out]; rw [HS.out, HC.out]; rfl, y2⟩
      · refine CalmP.hideN (fun K0 hQ => ?_)
        refine wp_region_held_drew (S := (fun W : World => W.cell? ⟨gc, 0, none⟩ = some (.slice A0 n0 c0) ∧ W.cell? ⟨gc, 1, none⟩ = some (.slice A1 n1 c1) ∧ W.cell? ⟨gc, 2, none⟩ = some (.int .i64 lv) ∧ W.cell? ⟨gc, 3, none⟩ = some (.int .i64 least) ∧ W.cell? ⟨gc, 4, none⟩ = some (.int .i64 cp) ∧ W.cell? ⟨gc, 5, none⟩ = some (.int .i64 bf) ∧ W.cell? ⟨gc, 6, none⟩ = some (.int .i64 tm) ∧ W.cell? ⟨gr, 0, none⟩ = some (.int .i64 minor) ∧ W.cell? ⟨gr, 1, none⟩ = some (.int .i64 status) ∧ W.cell? ⟨gr, 2, none⟩ = some (.string s_) ∧ W.cell? ⟨gr, 3, none⟩ = some (.slice A n c))) (by kernel_rfl) (mk _ z1) (fun hHeld => ?_)
        refine wpAnyH_take (i := 0) (v := ?_) rfl (by kernel_rfl) (by kernel_rfl) (by kernel_rfl) CalmP.onlyN_panic (Or.inl ⟨by kernel_rfl, ?_⟩) (by assumption) ?_
        rotate_left
        · (intro w_ hSw; (try dsimp only at hSw); go_simp; try with_reducible rfl)
        try simp only [Act.put, List.setIfInBounds_toArray, List.set_cons_zero, List.set_cons_succ]
        refine wpAnyH_ready (rs := [1]) (by kernel_rfl) (by simp) ?_
        refine AllReadyH.cons rfl (fun K_ hK => ?_) AllReadyH.nil
        go_simp
        refine (qK _ z1).mono ?_
        rintro e_ V1 ⟨rfl, k_⟩
        have y1 := z1.trans (k_.mono z1.size)
        clear k_
        refine hK.out _ _ (mk _ y1) (fun hHeld => ?_)
        clear hK K_
        try simp only [Act.put, List.setIfInBounds_toArray, List.set_cons_zero, List.set_cons_succ]
        refine wpAnyH_take (i := 2) (v := ?_) rfl (by kernel_rfl) (by kernel_rfl) (by kernel_rfl) CalmP.onlyN_panic (Or.inl ⟨by kernel_rfl, ?_⟩) (by assumption) ?_
        rotate_left
        · (intro w_ hSw; (try dsimp only at hSw); go_simp; try with_reducible rfl)
        try simp only [Act.put, List.setIfInBounds_toArray, List.set_cons_zero, List.set_cons_succ]
        refine wpAnyH_take (i := 3) (v := ?_) rfl (by kernel_rfl) (by kernel_rfl) (by kernel_rfl) CalmP.onlyN_panic (Or.inl ⟨by kernel_rfl, ?_⟩) (by assumption) ?_
        rotate_left
        · (intro w_ hSw; (try dsimp only at hSw); go_simp; try with_reducible rfl)
        try simp only [Act.put, List.setIfInBounds_toArray, List.set_cons_zero, List.set_cons_succ]
        refine wpAnyH_take (i := 4) (v := ?_) rfl (by kernel_rfl) (by kernel_rfl) (by kernel_rfl) CalmP.onlyN_panic (Or.inl ⟨by kernel_rfl, ?_⟩) (by assumption) ?_
        rotate_left
        · (intro w_ hSw; (try dsimp only at hSw); go_simp; try with_reducible rfl)
        try simp only [Act.put, List.setIfInBounds_toArray, List.set_cons_zero, List.set_cons_succ]
        refine wpAnyH_take (i := 5) (v := ?_) rfl (by kernel_rfl) (by kernel_rfl) (by kernel_rfl) CalmP.onlyN_panic (Or.inl ⟨by kernel_rfl, ?_⟩) (by assumption) ?_
        rotate_left
        · (intro w_ hSw; (try dsimp only at hSw); go_simp; try with_reducible rfl)
        try simp only [Act.put, List.setIfInBounds_toArray, List.set_cons_zero, List.set_cons_succ]
        refine wpAnyH_take (i := 6) (v := ?_) rfl (by kernel_rfl) (by kernel_rfl) (by kernel_rfl) CalmP.onlyN_panic (Or.inl ⟨by kernel_rfl, ?_⟩) (by assumption) ?_
        rotate_left
        · (intro w_ hSw; (try dsimp only at hSw); go_simp; try with_reducible rfl)
        try simp only [Act.put, List.setIfInBounds_toArray, List.set_cons_zero, List.set_cons_succ]
        refine wpAnyH_take (i := 7) (v := undef) rfl (by kernel_rfl) (by kernel_rfl) (by kernel_rfl) CalmP.onlyN_panic (Or.inr ⟨by kernel_rfl, rfl⟩) (by assumption) ?_
        try simp only [Act.put, List.setIfInBounds_toArray, List.set_cons_zero, List.set_cons_succ]
        refine wpAnyH_take (i := 8) (v := undef) rfl (by kernel_rfl) (by kernel_rfl) (by kernel_rfl) CalmP.onlyN_panic (Or.inr ⟨by kernel_rfl, rfl⟩) (by assumption) ?_
        try simp only [Act.put, List.setIfInBounds_toArray, List.set_cons_zero, List.set_cons_succ]
        refine wpAnyH_take (i := 9) (v := undef) rfl (by kernel_rfl) (by kernel_rfl) (by kernel_rfl) CalmP.onlyN_panic (Or.inr ⟨by kernel_rfl, rfl⟩) (by assumption) ?_
        try simp only [Act.put, List.setIfInBounds_toArray, List.set_cons_zero, List.set_cons_succ]
        refine wpAnyH_take (i := 10) (v := undef) rfl (by kernel_rfl) (by kernel_rfl) (by kernel_rfl) CalmP.onlyN_panic (Or.inr ⟨by kernel_rfl, rfl⟩) (by assumption) ?_
        try simp only [Act.put, List.setIfInBounds_toArray, List.set_cons_zero, List.set_cons_succ]
        refine wpAnyH_take (i := 11) (v := undef) rfl (by kernel_rfl) (by kernel_rfl) (by kernel_rfl) CalmP.onlyN_panic (Or.inr ⟨by kernel_rfl, rfl⟩) (by assumption) ?_
        try simp only [Act.put, List.setIfInBounds_toArray, List.set_cons_zero, List.set_cons_succ]
        refine wpAnyH_take (i := 12) (v := undef) rfl (by kernel_rfl) (by kernel_rfl) (by kernel_rfl) CalmP.onlyN_panic (Or.inr ⟨by kernel_rfl, rfl⟩) (by assumption) ?_
        try simp only [Act.put, List.setIfInBounds_toArray, List.set_cons_zero, List.set_cons_succ]
        refine wpAnyH_take (i := 13) (v := undef) rfl (by kernel_rfl) (by kernel_rfl) (by kernel_rfl) CalmP.onlyN_panic (Or.inr ⟨by kernel_rfl, rfl⟩) (by assumption) ?_
        try simp only [Act.put, List.setIfInBounds_toArray, List.set_cons_zero, List.set_cons_succ]
        refine wpAnyH_take (i := 14) (v := undef) rfl (by kernel_rfl) (by kernel_rfl) (by kernel_rfl) CalmP.onlyN_panic (Or.inr ⟨by kernel_rfl, rfl⟩) (by assumption) ?_
        try simp only [Act.put, List.setIfInBounds_toArray, List.set_cons_zero, List.set_cons_succ]
        refine wpAnyH_take (i := 15) (v := undef) rfl (by kernel_rfl) (by kernel_rfl) (by kernel_rfl) CalmP.onlyN_panic (Or.inr ⟨by kernel_rfl, rfl⟩) (by assumption) ?_
        try simp only [Act.put, List.setIfInBounds_toArray, List.set_cons_zero, List.set_cons_succ]
        refine wpAnyH_take (i := 16) (v := undef) rfl (by kernel_rfl) (by kernel_rfl) (by kernel_rfl) CalmP.onlyN_panic (Or.inr ⟨by kernel_rfl, rfl⟩) (by assumption) ?_
        try simp only [Act.put, List.setIfInBounds_toArray, List.set_cons_zero, List.set_cons_succ]
        refine wpAnyH_take (i := 17) (v := undef) rfl (by kernel_rfl) (by kernel_rfl) (by kernel_rfl) CalmP.onlyN_panic (Or.inr ⟨by kernel_rfl, rfl⟩) (by assumption) ?_
        try simp only [Act.put, List.setIfInBounds_toArray, List.set_cons_zero, List.set_cons_succ]
        refine wpAnyH_take (i := 18) (v := undef) rfl (by kernel_rfl) (by kernel_rfl) (by kernel_rfl) CalmP.onlyN_panic (Or.inr ⟨by kernel_rfl, rfl⟩) (by assumption) ?_
        try simp only [Act.put, List.setIfInBounds_toArray, List.set_cons_zero, List.set_cons_succ]
        refine wpAnyH_take (i := 19) (v := undef) rfl (by kernel_rfl) (by kernel_rfl) (by kernel_rfl) CalmP.onlyN_panic (Or.inr ⟨by kernel_rfl, rfl⟩) (by assumption) ?_
        try simp only [Act.put, List.setIfInBounds_toArray, List.set_cons_zero, List.set_cons_succ]
        refine wpAnyH_take (i := 20) (v := undef) rfl (by kernel_rfl) (by kernel_rfl) (by kernel_rfl) CalmP.onlyN_panic (Or.inr ⟨by kernel_rfl, rfl⟩) (by assumption) ?_
        try simp only [Act.put, List.setIfInBounds_toArray, List.set_cons_zero, List.set_cons_succ]
        refine wpAnyH_take (i := 21) (v := undef) rfl (by kernel_rfl) (by kernel_rfl) (by kernel_rfl) CalmP.onlyN_panic (Or.inr ⟨by kernel_rfl, rfl⟩) (by assumption) ?_
        try simp only [Act.put, List.setIfInBounds_toArray, List.set_cons_zero, List.set_cons_succ]
        refine wpAnyH_take (i := 22) (v := undef) rfl (by kernel_rfl) (by kernel_rfl) (by kernel_rfl) CalmP.onlyN_panic (Or.inr ⟨by kernel_rfl, rfl⟩) (by assumption) ?_
        try simp only [Act.put, List.setIfInBounds_toArray, List.set_cons_zero, List.set_cons_succ]
        refine wpAnyH_take (i := 23) (v := undef) rfl (by kernel_rfl) (by kernel_rfl) (by kernel_rfl) CalmP.onlyN_panic (Or.inr ⟨by kernel_rfl, rfl⟩) (by assumption) ?_
        try simp only [Act.put, List.setIfInBounds_toArray, List.set_cons_zero, List.set_cons_succ]
        refine wpAnyH_take (i := 24) (v := undef) rfl (by kernel_rfl) (by kernel_rfl) (by kernel_rfl) CalmP.onlyN_panic (Or.inr ⟨by kernel_rfl, rfl⟩) (by assumption) ?_
        try simp only [Act.put, List.setIfInBounds_toArray, List.set_cons_zero, List.set_cons_succ]
        refine wpAnyH_take (i := 25) (v := undef) rfl (by kernel_rfl) (by kernel_rfl) (by kernel_rfl) CalmP.onlyN_panic (Or.inr ⟨by kernel_rfl, rfl⟩) (by assumption) ?_
        try simp only [Act.put, List.setIfInBounds_toArray, List.set_cons_zero, List.set_cons_succ]
        refine wpAnyH_take (i := 26) (v := ?_) rfl (by kernel_rfl) (by kernel_rfl) (by kernel_rfl) CalmP.onlyN_panic (Or.inl ⟨by kernel_rfl, ?_⟩) (by assumption) ?_
        rotate_left
        · (intro w_ hSw; (try dsimp only at hSw); go_simp; try with_reducible rfl)
        try simp only [Act.put, List.setIfInBounds_toArray, List.set_cons_zero, List.set_cons_succ]
        refine wpAnyH_take (i := 27) (v := ?_) rfl (by kernel_rfl) (by kernel_rfl) (by kernel_rfl) CalmP.onlyN_panic (Or.inl ⟨by kernel_rfl, ?_⟩) (by assumption) ?_
        rotate_left
        · (intro w_ hSw; (try dsimp only at hSw); go_simp; try with_reducible rfl)
        try simp only [Act.put, List.setIfInBounds_toArray, List.set_cons_zero, List.set_cons_succ]
        refine wpAnyH_take (i := 28) (v := undef) rfl (by kernel_rfl) (by kernel_rfl) (by kernel_rfl) CalmP.onlyN_panic (Or.inr ⟨by kernel_rfl, rfl⟩) (by assumption) ?_
        try simp only [Act.put, List.setIfInBounds_toArray, List.set_cons_zero, List.set_cons_succ]
        refine wpAnyH_take (i := 29) (v := undef) rfl (by kernel_rfl) (by kernel_rfl) (by kernel_rfl) CalmP.onlyN_panic (Or.inr ⟨by kernel_rfl, rfl⟩) (by assumption) ?_
        try simp only [Act.put, List.setIfInBounds_toArray, List.set_cons_zero, List.set_cons_succ]
        refine wpAnyH_take (i := 30) (v := undef) rfl (by kernel_rfl) (by kernel_rfl) (by kernel_rfl) CalmP.onlyN_panic (Or.inr ⟨by kernel_rfl, rfl⟩) (by assumption) ?_
        try simp only [Act.put, List.setIfInBounds_toArray, List.set_cons_zero, List.set_cons_succ]
        refine wpAnyH_take (i := 31) (v := ?_) rfl (by kernel_rfl) (by kernel_rfl) (by kernel_rfl) CalmP.onlyN_panic (Or.inl ⟨by kernel_rfl, ?_⟩) (by assumption) ?_
        rotate_left
        · (intro w_ hSw; (try dsimp only at hSw); go_simp; try with_reducible rfl)
        try simp only [Act.put, List.setIfInBounds_toArray, List.set_cons_zero, List.set_cons_succ]
        refine wpAnyH_take (i := 32) (v := ?_) rfl (by kernel_rfl) (by kernel_rfl) (by kernel_rfl) CalmP.onlyN_panic (Or.inl ⟨by kernel_rfl, ?_⟩) (by assumption) ?_
        rotate_left
        · (intro w_ hSw; (try dsimp only at hSw); go_simp; try with_reducible rfl)
        try simp only [Act.put, List.setIfInBounds_toArray, List.set_cons_zero, List.set_cons_succ]
        refine wpAnyH_take (i := 33) (v := undef) rfl (by kernel_rfl) (by kernel_rfl) (by kernel_rfl) CalmP.onlyN_panic (Or.inr ⟨by kernel_rfl, rfl⟩) (by assumption) ?_
        try simp only [Act.put, List.setIfInBounds_toArray, List.set_cons_zero, List.set_cons_succ]
        refine wpAnyH_take (i := 34) (v := undef) rfl (by kernel_rfl) (by kernel_rfl) (by kernel_rfl) CalmP.onlyN_panic (Or.inr ⟨by kernel_rfl, rfl⟩) (by assumption) ?_
        try simp only [Act.put, List.setIfInBounds_toArray, List.set_cons_zero, List.set_cons_succ]
        refine wpAnyH_take (i := 35) (v := undef) rfl (by kernel_rfl) (by kernel_rfl) (by kernel_rfl) CalmP.onlyN_panic (Or.inr ⟨by kernel_rfl, rfl⟩) (by assumption) ?_
        try simp only [Act.put, List.setIfInBounds_toArray, List.set_cons_zero, List.set_cons_succ]
        refine wpAnyH_take (i := 36) (v := undef) rfl (by kernel_rfl) (by kernel_rfl) (by kernel_rfl) CalmP.onlyN_panic (Or.inr ⟨by kernel_rfl, rfl⟩) (by assumption) ?_
        try simp only [Act.put, List.setIfInBounds_toArray, List.set_cons_zero, List.set_cons_succ]
        refine wpAnyH_take (i := 37) (v := undef) rfl (by kernel_rfl) (by kernel_rfl) (by kernel_rfl) CalmP.onlyN_panic (Or.inr ⟨by kernel_rfl, rfl⟩) (by assumption) ?_
        try simp only [Act.put, List.setIfInBounds_toArray, List.set_cons_zero, List.set_cons_succ]
        refine wpAnyH_take (i := 38) (v := undef) rfl (by kernel_rfl) (by kernel_rfl) (by kernel_rfl) CalmP.onlyN_panic (Or.inr ⟨by kernel_rfl, rfl⟩) (by assumption) ?_
        try simp only [Act.put, List.setIfInBounds_toArray, List.set_cons_zero, List.set_cons_succ]
        refine wpAnyH_take (i := 39) (v := ?_) rfl (by kernel_rfl) (by kernel_rfl) (by kernel_rfl) CalmP.onlyN_panic (Or.inl ⟨by kernel_rfl, ?_⟩) (by assumption) ?_
        rotate_left
        · (intro w_ hSw; (try dsimp only at hSw); go_simp; try with_reducible rfl)
        try simp only [Act.put, List.setIfInBounds_toArray, List.set_cons_zero, List.set_cons_succ]
        refine wpAnyH_done (by kernel_rfl) ?_ _
        refine CalmP.onlyN_here (hQ.out _ _ ?_)
        clear hQ K0
        go_wp2_with fail
        go_meet
        exact ⟨by rw [HD.out]; simp, y1⟩
    · refine CalmP.hideN (fun K0 hQ => ?_)
      refine wp_region_held_drew (S := (fun W : World => W.cell? ⟨gc, 0, none⟩ = some (.slice A0 n0 c0) ∧ W.cell? ⟨gc, 1, none⟩ = some (.slice A1 n1 c1) ∧ W.cell? ⟨gc, 2, none⟩ = some (.int .i64 lv) ∧ W.cell? ⟨gc, 3, none⟩ = some (.int .i64 least) ∧ W.cell? ⟨gc, 4, none⟩ = some (.int .i64 cp) ∧ W.cell? ⟨gc, 5, none⟩ = some (.int .i64 bf) ∧ W.cell? ⟨gc, 6, none⟩ = some (.int .i64 tm) ∧ W.cell? ⟨gr, 0, none⟩ = some (.int .i64 minor) ∧ W.cell? ⟨gr, 1, none⟩ = some (.int .i64 status) ∧ W.cell? ⟨gr, 2, none⟩ = some (.string s_) ∧ W.cell? ⟨gr, 3, none⟩ = some (.slice A n c))) (by kernel_rfl) (mk _ z1) (fun hHeld => ?_)
      refine wpAnyH_take (i := 0) (v := ?_) rfl (by kernel_rfl) (by kernel_rfl) (by kernel_rfl) CalmP.onlyN_panic (Or.inl ⟨by kernel_rfl, ?_⟩) (by assumption) ?_
      rotate_left
      · (intro w_ hSw; (try dsimp only at hSw); go_simp; try with_reducible rfl)
      try simp only [Act.put, List.setIfInBounds_toArray, List.set_cons_zero, List.set_cons_succ]
      refine wpAnyH_ready (rs := [1]) (by kernel_rfl) (by simp) ?_
      refine AllReadyH.cons rfl (fun K_ hK => ?_) AllReadyH.nil
      go_simp
      refine (qK _ z1).mono ?_
      rintro e_ V1 ⟨rfl, k_⟩
      have y1 := z1.trans (k_.mono z1.size)
      clear k_
      refine hK.out _ _ (mk _ y1) (fun hHeld => ?_)
      clear hK K_
      try simp only [Act.put, List.setIfInBounds_toArray, List.set_cons_zero, List.set_cons_succ]
      refine wpAnyH_take (i := 2) (v := ?_) rfl (by kernel_rfl) (by kernel_rfl) (by kernel_rfl) CalmP.onlyN_panic (Or.inl ⟨by kernel_rfl, ?_⟩) (by assumption) ?_
      rotate_left
      · (intro w_ hSw; (try dsimp only at hSw); go_simp; try with_reducible rfl)
      try simp only [Act.put, List.setIfInBounds_toArray, List.set_cons_zero, List.set_cons_succ]
      refine wpAnyH_take (i := 3) (v := undef) rfl (by kernel_rfl) (by kernel_rfl) (by kernel_rfl) CalmP.onlyN_panic (Or.inr ⟨by kernel_rfl, rfl⟩) (by assumption) ?_
      try simp only [Act.put, List.setIfInBounds_toArray, List.set_cons_zero, List.set_cons_succ]
      refine wpAnyH_take (i := 4) (v := undef) rfl (by kernel_rfl) (by kernel_rfl) (by kernel_rfl) CalmP.onlyN_panic (Or.inr ⟨by kernel_rfl, rfl⟩) (by assumption) ?_
      try simp only [Act.put, List.setIfInBounds_toArray, List.set_cons_zero, List.set_cons_succ]
      refine wpAnyH_take (i := 5) (v := ?_) rfl (by kernel_rfl) (by kernel_rfl) (by kernel_rfl) CalmP.onlyN_panic (Or.inl ⟨by kernel_rfl, ?_⟩) (by assumption) ?_
      rotate_left
      · (intro w_ hSw; (try dsimp only at hSw); go_simp; try with_reducible rfl)
      try simp only [Act.put, List.setIfInBounds_toArray, List.set_cons_zero, List.set_cons_succ]
      refine wpAnyH_take (i := 6) (v := ?_) rfl (by kernel_rfl) (by kernel_rfl) (by kernel_rfl) CalmP.onlyN_panic (Or.inl ⟨by kernel_rfl, ?_⟩) (by assumption) ?_
      rotate_left
      · (intro w_ hSw; (try dsimp only at hSw); go_simp; try with_reducible rfl)
      try simp only [Act.put, List.setIfInBounds_toArray, List.set_cons_zero, List.set_cons_succ]
      refine wpAnyH_take (i := 7) (v := undef) rfl (by kernel_rfl) (by kernel_rfl) (by kernel_rfl) CalmP.onlyN_panic (Or.inr ⟨by kernel_rfl, rfl⟩) (by assumption) ?_
      try simp only [Act.put, List.setIfInBounds_toArray, List.set_cons_zero, List.set_cons_succ]
      refine wpAnyH_take (i := 8) (v := undef) rfl (by kernel_rfl) (by kernel_rfl) (by kernel_rfl) CalmP.onlyN_panic (Or.inr ⟨by kernel_rfl, rfl⟩) (by assumption) ?_
      try simp only [Act.put, List.setIfInBounds_toArray, List.set_cons_zero, List.set_cons_succ]
      refine wpAnyH_take (i := 9) (v := undef) rfl (by kernel_rfl) (by kernel_rfl) (by kernel_rfl) CalmP.onlyN_panic (Or.inr ⟨by kernel_rfl, rfl⟩) (by assumption) ?_
      try simp only [Act.put, List.setIfInBounds_toArray, List.set_cons_zero, List.set_cons_succ]
      refine wpAnyH_take (i := 10) (v := undef) rfl (by kernel_rfl) (by kernel_rfl) (by kernel_rfl) CalmP.onlyN_panic (Or.inr ⟨by kernel_rfl, rfl⟩) (by assumption) ?_
      try simp only [Act.put, List.setIfInBounds_toArray, List.set_cons_zero, List.set_cons_succ]
      refine wpAnyH_take (i := 11) (v := undef) rfl (by kernel_rfl) (by kernel_rfl) (by kernel_rfl) CalmP.onlyN_panic (Or.inr ⟨by kernel_rfl, rfl⟩) (by assumption) ?_
      try simp only [Act.put, List.setIfInBounds_toArray, List.set_cons_zero, List.set_cons_succ]
      refine wpAnyH_take (i := 12) (v := undef) rfl (by kernel_rfl) (by kernel_rfl) (by kernel_rfl) CalmP.onlyN_panic (Or.inr ⟨by kernel_rfl, rfl⟩) (by assumption) ?_
      try simp only [Act.put, List.setIfInBounds_toArray, List.set_cons_zero, List.set_cons_succ]
      refine wpAnyH_take (i := 13) (v := undef) rfl (by kernel_rfl) (by kernel_rfl) (by kernel_rfl) CalmP.onlyN_panic (Or.inr ⟨by kernel_rfl, rfl⟩) (by assumption) ?_
      try simp only [Act.put, List.setIfInBounds_toArray, List.set_cons_zero, List.set_cons_succ]
      refine wpAnyH_take (i := 14) (v := undef) rfl (by kernel_rfl) (by kernel_rfl) (by kernel_rfl) CalmP.onlyN_panic (Or.inr ⟨by kernel_rfl, rfl⟩) (by assumption) ?_
      try simp only [Act.put, List.setIfInBounds_toArray, List.set_cons_zero, List.set_cons_succ]
      refine wpAnyH_take (i := 15) (v := undef) rfl (by kernel_rfl) (by kernel_rfl) (by kernel_rfl) CalmP.onlyN_panic (Or.inr ⟨by kernel_rfl, rfl⟩) (by assumption) ?_
      try simp only [Act.put, List.setIfInBounds_toArray, List.set_cons_zero, List.set_cons_succ]
      refine wpAnyH_take (i := 16) (v := undef) rfl (by kernel_rfl) (by kernel_rfl) (by kernel_rfl) CalmP.onlyN_panic (Or.inr ⟨by kernel_rfl, rfl⟩) (by assumption) ?_
      try simp only [Act.put, List.setIfInBounds_toArray, List.set_cons_zero, List.set_cons_succ]
      refine wpAnyH_take (i := 17) (v := undef) rfl (by kernel_rfl) (by kernel_rfl) (by kernel_rfl) CalmP.onlyN_panic (Or.inr ⟨by kernel_rfl, rfl⟩) (by assumption) ?_
      try simp only [Act.put, List.setIfInBounds_toArray, List.set_cons_zero, List.set_cons_succ]
      refine wpAnyH_take (i := 18) (v := undef) rfl (by kernel_rfl) (by kernel_rfl) (by kernel_rfl) CalmP.onlyN_panic (Or.inr ⟨by kernel_rfl, rfl⟩) (by assumption) ?_
      try simp only [Act.put, List.setIfInBounds_toArray, List.set_cons_zero, List.set_cons_succ]
      refine wpAnyH_take (i := 19) (v := undef) rfl (by kernel_rfl) (by kernel_rfl) (by kernel_rfl) CalmP.onlyN_panic (Or.inr ⟨by kernel_rfl, rfl⟩) (by assumption) ?_
      try simp only [Act.put, List.setIfInBounds_toArray, List.set_cons_zero, List.set_cons_succ]
      refine wpAnyH_take (i := 20) (v := undef) rfl (by kernel_rfl) (by kernel_rfl) (by kernel_rfl) CalmP.onlyN_panic (Or.inr ⟨by kernel_rfl, rfl⟩) (by assumption) ?_
      try simp only [Act.put, List.setIfInBounds_toArray, List.set_cons_zero, List.set_cons_succ]
      refine wpAnyH_take (i := 21) (v := undef) rfl (by kernel_rfl) (by kernel_rfl) (by kernel_rfl) CalmP.onlyN_panic (Or.inr ⟨by kernel_rfl, rfl⟩) (by assumption) ?_
      try simp only [Act.put, List.setIfInBounds_toArray, List.set_cons_zero, List.set_cons_succ]
      refine wpAnyH_take (i := 22) (v := undef) rfl (by kernel_rfl) (by kernel_rfl) (by kernel_rfl) CalmP.onlyN_panic (Or.inr ⟨by kernel_rfl, rfl⟩) (by assumption) ?_
      try simp only [Act.put, List.setIfInBounds_toArray, List.set_cons_zero, List.set_cons_succ]
      refine wpAnyH_take (i := 23) (v := undef) rfl (by kernel_rfl) (by kernel_rfl) (by kernel_rfl) CalmP.onlyN_panic (Or.inr ⟨by kernel_rfl, rfl⟩) (by assumption) ?_
      try simp only [Act.put, List.setIfInBounds_toArray, List.set_cons_zero, List.set_cons_succ]
      refine wpAnyH_take (i := 24) (v := undef) rfl (by kernel_rfl) (by kernel_rfl) (by kernel_rfl) CalmP.onlyN_panic (Or.inr ⟨by kernel_rfl, rfl⟩) (by assumption) ?_
      try simp only [Act.put, List.setIfInBounds_toArray, List.set_cons_zero, List.set_cons_succ]
      refine wpAnyH_take (i := 25) (v := undef) rfl (by kernel_rfl) (by kernel_rfl) (by kernel_rfl) CalmP.onlyN_panic (Or.inr ⟨by kernel_rfl, rfl⟩) (by assumption) ?_
      try simp only [Act.put, List.setIfInBounds_toArray, List.set_cons_zero, List.set_cons_succ]
      refine wpAnyH_take (i := 26) (v := ?_) rfl (by kernel_rfl) (by kernel_rfl) (by kernel_rfl) CalmP.onlyN_panic (Or.inl ⟨by kernel_rfl, ?_⟩) (by assumption) ?_
      rotate_left
      · (intro w_ hSw; (try dsimp only at hSw); go_simp; try with_reducible rfl)
      try simp only [Act.put, List.setIfInBounds_toArray, List.set_cons_zero, List.set_cons_succ]
      refine wpAnyH_take (i := 27) (v := ?_) rfl (by kernel_rfl) (by kernel_rfl) (by kernel_rfl) CalmP.onlyN_panic (Or.inl ⟨by kernel_rfl, ?_⟩) (by assumption) ?_
      rotate_left
      · (intro w_ hSw; (try dsimp only at hSw); go_simp; try with_reducible rfl)
      try simp only [Act.put, List.setIfInBounds_toArray, List.set_cons_zero, List.set_cons_succ]
      refine wpAnyH_take (i := 28) (v := undef) rfl (by kernel_rfl) (by kernel_rfl) (by kernel_rfl) CalmP.onlyN_panic (Or.inr ⟨by kernel_rfl, rfl⟩) (by assumption) ?_
      try simp only [Act.put, List.setIfInBounds_toArray, List.set_cons_zero, List.set_cons_succ]
      refine wpAnyH_take (i := 29) (v := undef) rfl (by kernel_rfl) (by kernel_rfl) (by kernel_rfl) CalmP.onlyN_panic (Or.inr ⟨by kernel_rfl, rfl⟩) (by assumption) ?_
      try simp only [Act.put, List.setIfInBounds_toArray, List.set_cons_zero, List.set_cons_succ]
      refine wpAnyH_take (i := 30) (v := undef) rfl (by kernel_rfl) (by kernel_rfl) (by kernel_rfl) CalmP.onlyN_panic (Or.inr ⟨by kernel_rfl, rfl⟩) (by assumption) ?_
      try simp only [Act.put, List.setIfInBounds_toArray, List.set_cons_zero, List.set_cons_succ]
      refine wpAnyH_take (i := 31) (v := ?_) rfl (by kernel_rfl) (by kernel_rfl) (by kernel_rfl) CalmP.onlyN_panic (Or.inl ⟨by kernel_rfl, ?_⟩) (by assumption) ?_
      rotate_left
      · (intro w_ hSw; (try dsimp only at hSw); go_simp; try with_reducible rfl)
      try simp only [Act.put, List.setIfInBounds_toArray, List.set_cons_zero, List.set_cons_succ]
      refine wpAnyH_take (i := 32) (v := ?_) rfl (by kernel_rfl) (by kernel_rfl) (by kernel_rfl) CalmP.onlyN_panic (Or.inl ⟨by kernel_rfl, ?_⟩) (by assumption) ?_
      rotate_left
      · (intro w_ hSw; (try dsimp only at hSw); go_simp; try with_reducible rfl)
      try simp only [Act.put, List.setIfInBounds_toArray, List.set_cons_zero, List.set_cons_succ]
      refine wpAnyH_take (i := 33) (v := undef) rfl (by kernel_rfl) (by kernel_rfl) (by kernel_rfl) CalmP.onlyN_panic (Or.inr ⟨by kernel_rfl, rfl⟩) (by assumption) ?_
      try simp only [Act.put, List.setIfInBounds_toArray, List.set_cons_zero, List.set_cons_succ]
      refine wpAnyH_take (i := 34) (v := undef) rfl (by kernel_rfl) (by kernel_rfl) (by kernel_rfl) CalmP.onlyN_panic (Or.inr ⟨by kernel_rfl, rfl⟩) (by assumption) ?_
      try simp only [Act.put, List.setIfInBounds_toArray, List.set_cons_zero, List.set_cons_succ]
      refine wpAnyH_take (i := 35) (v := undef) rfl (by kernel_rfl) (by kernel_rfl) (by kernel_rfl) CalmP.onlyN_panic (Or.inr ⟨by kernel_rfl, rfl⟩) (by assumption) ?_
      try simp only [Act.put, List.setIfInBounds_toArray, List.set_cons_zero, List.set_cons_succ]
      refine wpAnyH_take (i := 36) (v := undef) rfl (by kernel_rfl) (by kernel_rfl) (by kernel_rfl) CalmP.onlyN_panic (Or.inr ⟨by kernel_rfl, rfl⟩) (by assumption) ?_
      try simp only [Act.put, List.setIfInBounds_toArray, List.set_cons_zero, List.set_cons_succ]
      refine wpAnyH_take (i := 37) (v := undef) rfl (by kernel_rfl) (by kernel_rfl) (by kernel_rfl) CalmP.onlyN_panic (Or.inr ⟨by kernel_rfl, rfl⟩) (by assumption) ?_
      try simp only [Act.put, List.setIfInBounds_toArray, List.set_cons_zero, List.set_cons_succ]
      refine wpAnyH_take (i := 38) (v := undef) rfl (by kernel_rfl) (by kernel_rfl) (by kernel_rfl) CalmP.onlyN_panic (Or.inr ⟨by kernel_rfl, rfl⟩) (by assumption) ?_
      try simp only [Act.put, List.setIfInBounds_toArray, List.set_cons_zero, List.set_cons_succ]
      refine wpAnyH_take (i := 39) (v := ?_) rfl (by kernel_rfl) (by kernel_rfl) (by kernel_rfl) CalmP.onlyN_panic (Or.inl ⟨by kernel_rfl, ?_⟩) (by assumption) ?_
      rotate_left
      · (intro w_ hSw; (try dsimp only at hSw); go_simp; try with_reducible rfl)
      try simp only [Act.put, List.setIfInBounds_toArray, List.set_cons_zero, List.set_cons_succ]
      refine wpAnyH_done (by kernel_rfl) ?_ _
      refine CalmP.onlyN_here (hQ.out _ _ ?_)
      clear hQ K0
      go_wp2_with fail
      go_meet
      exact ⟨by rw [HD.out]; simp, y1⟩
  case rest =>
    obtain ⟨rfl, k1⟩ := hcut
    clear qK qC qM qW hM HD z1 x1
    rcases D with _ | _
    · rw [show ((!false && longL least fs) = longL least fs) from Bool.true_and _] at HR
      have y3 := (mk _ k1).2.2.2.2.2.2.2.2.2.2
      rcases hG : getL fs nameCL with _ | ⟨v, l⟩
      · rw [longL_nil hG] at HR
        simp only [hG, List.length_nil] at q1
        have hT : r = true := HR.out
        subst hT
        clear hG hmem hgl hfl
        go_wp2_with fail
        refine (q1 wc k1).mono ?_
        rintro e w2 ⟨A2, c2, rfl, -, -, k⟩
        go_wp2
        go_ret
        exact ⟨rfl, tW.trans ((k1.trans (k.mono k1.size)).mono tW.size)⟩
      · rw [longL_cons hG] at HR
        rw [hG] at hmem hgl
        have hv := hmem v (by simp)
        obtain ⟨p, hp⟩ : ∃ m, m = l.length := ⟨_, rfl⟩
        simp only [hG, List.length_cons, ← hp] at q1
        rw [List.length_cons, ← hp] at hgl
        have hpl : p + 1 ≤ 1000 := by omega
        have hcv : ∀ (W : World) (A1 : Option Addr), Rd W W.heap.size 1 A1 (p + 1) (scells (v :: l)) → ∃ a, A1 = some a ∧ W.cell? a = some (.string ⟨v.toArray⟩) := fun W A1 r => by
          obtain ⟨a, rfl, -, hcell⟩ := r.text (k := 0) (by omega) (by simp)
          rw [Addr.add_zero'] at hcell
          exact ⟨a, rfl, hcell⟩
        obtain ⟨bv, hbv⟩ : ∃ b : ByteArray, b = ⟨v.toArray⟩ := ⟨_, rfl⟩
        simp only [← hbv] at hcv
        have hvz : v.length = bv.size := by rw [hbv, mk_size]
        have hgk : ∀ k (hk : k < v.length) (hk' : k < bv.size), v[k] = bv[k] := fun k hk hk' => get_mk hbv hk hk'
        have HC := hide hcv
        have HG := hide hgk
        have HVZ := hide hvz
        have e0 : ((p : Int) + 1 == 0) = false := by simp; omega
        clear hcv hgk hG hmem hgl hfl hbv hp
        by_cases h1 : 1 ≤ v.length
        · by_cases h15 : v.length ≤ 15
          · have s1 : ¬ bv.size < 1 := by omega
            have s2 : ¬ 15 < bv.size := by omega
            go_wp2_with fail
            refine (q1 wc k1).mono ?_
            rintro e w2 ⟨A2, c2, rfl, o2, -, k⟩
            obtain ⟨a, rfl, hcell⟩ := HC.out w2 A2 (Rd.of_own o2)
            have k2 := k1.trans (k.mono k1.size)
            have y4 := (mk _ k2).2.2.2.1
            clear o2 k
            have H1 := hide h1
            have H15 := hide h15
            have s3 : bv.size ≤ 15 := by omega
            clear h1 h15 hv hvz
            go_wp2_with fail
            go_loopw [9, 10] (fun x i wr => ∃ k : Nat, k ≤ bv.size ∧ i = .int .i64 k ∧ x = .int .i64 (decV (v.take k)) ∧ (v.take k).all digB = true ∧ wr = w2) (fun _ i _ => bv.size - (intOf i).toNat)
            case atStart => exact ⟨0, Nat.zero_le _, rfl, rfl, rfl, rfl⟩
            case round =>
              obtain ⟨k, hk, rfl, rfl, hall, hwr⟩ := hrel
              obtain rfl : w2 = wr := hwr.symm
              clear hwr
              have hq15 : decV (v.take k) < 1000000000000000 := by
                have h2 := decV_lt (v.take k) hall k (by have := HVZ.out; rw [List.length_take]; omega)
                rw [List.take_take, Nat.min_self] at h2
                have h3 : 10 ^ k ≤ 10 ^ 15 := Nat.pow_le_pow_right (by decide) (by omega)
                omega
              by_cases hlt : k < bv.size
              · have hkl : k < v.length := by have := HVZ.out; omega
                have hdv := decV_take v k hkl
                have hal : (v.take (k + 1)).all digB = (digB v[k]) := by rw [list_take_snoc _ _ hkl, List.all_append, hall]; simp
                have hno : digB v[k] = false → longV least v = true := fun hh => by
                  unfold longV
                  rw [if_neg]
                  rintro ⟨_, _, h3⟩
                  have := List.all_eq_true.1 h3 _ (List.getElem_mem hkl); rw [hh] at this; cases this
                rw [HG.out k hkl hlt] at hdv hal hno
                obtain ⟨b, hbb⟩ : ∃ b, bv[k] = b := ⟨_, rfl⟩
                rw [hbb] at hdv hal hno
                obtain ⟨q, hq⟩ : ∃ q, q = decV (v.take k) := ⟨_, rfl⟩
                rw [← hq] at hdv hq15 ⊢
                have HV := hide hdv
                have HA := hide hal
                have HN := hide hno
                clear hdv hal hno hq hall
                have hb256 := b.toNat_lt
                by_cases h1 : b.toNat < 48
                · have hT : r = true := by rw [HR.out]; exact HN.out (by rcases hd : digB b with _ | _; rfl; rw [digB_iff] at hd; omega)
                  subst hT
                  go_wp2
                  go_ret
                  exact ⟨rfl, tW.trans (k2.mono tW.size)⟩
                · by_cases h2 : 57 < b.toNat
                  · have hT : r = true := by rw [HR.out]; exact HN.out (by rcases hd : digB b with _ | _; rfl; rw [digB_iff] at hd; omega)
                    subst hT
                    go_wp2
                    go_ret
                    exact ⟨rfl, tW.trans (k2.mono tW.size)⟩
                  · have hd : digB b = true := (digB_iff b).2 ⟨by omega, by omega⟩
                    go_wp2
                    go_roundw
                    case rel => exact ⟨k + 1, by omega, by go_num, by rw [HV.out]; exact congrArg (Value.int .i64) (by omega), by rw [HA.out]; exact hd, trivial⟩
                    case measure => simp [intOf]; omega
              · have hkz : k = bv.size := by omega
                have hfin : v.take k = v := List.take_of_length_le (by have := HVZ.out; omega)
                rw [hfin] at hall hq15 ⊢
                have hlv : longV least v = decide (least ≤ (decV v : Int)) := by unfold longV; rw [if_pos ⟨H1.out, H15.out, hall⟩]
                rw [hlv] at HR
                obtain ⟨q, hq⟩ : ∃ q, q = decV v := ⟨_, rfl⟩
                rw [← hq] at HR hq15 ⊢
                clear hlv hfin hall hq
                go_wp2
                go_ret
                exact ⟨ret_bool (by rw [HR.out]), tW.trans (k2.mono tW.size)⟩
          · have hT : r = true := by rw [HR.out]; unfold longV; rw [if_neg (fun h => h15 h.2.1)]
            subst hT
            have s1 : ¬ bv.size < 1 := by omega
            have s2 : 15 < bv.size := by omega
            go_wp2_with fail
            refine (q1 wc k1).mono ?_
            rintro e w2 ⟨A2, c2, rfl, o2, -, k⟩
            obtain ⟨a, rfl, hcell⟩ := HC.out w2 A2 (Rd.of_own o2)
            have k2 := k1.trans (k.mono k1.size)
            clear o2 k h1 h15 hv hvz
            go_wp2
            go_ret
            exact ⟨rfl, tW.trans (k2.mono tW.size)⟩
        · have hT : r = true := by rw [HR.out]; unfold longV; rw [if_neg (fun h => h1 h.1)]
          subst hT
          have s1 : bv.size < 1 := by omega
          go_wp2_with fail
          refine (q1 wc k1).mono ?_
          rintro e w2 ⟨A2, c2, rfl, o2, -, k⟩
          obtain ⟨a, rfl, hcell⟩ := HC.out w2 A2 (Rd.of_own o2)
          have k2 := k1.trans (k.mono k1.size)
          clear o2 k h1 hv hvz
          go_wp2
          go_ret
          exact ⟨rfl, tW.trans (k2.mono tW.size)⟩
    · have hF : r = false := HR.out
      subst hF
      clear hmem hgl hfl q1
      go_wp2
      go_ret
      exact ⟨rfl, tW.trans (k1.mono tW.size)⟩
end Go.Proofs.YtgdjlmpfjmakkaaGreatDoor
