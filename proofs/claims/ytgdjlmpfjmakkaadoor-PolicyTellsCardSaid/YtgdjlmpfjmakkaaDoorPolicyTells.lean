/- PolicyTells returns true, whatever its arguments. -/
import Derived.Test.YtgdjlmpfjmakkaaDoorRefElig
import Derived.Test.YtgdjlmpfjmakkaaDoorConfig
import Derived.Test.YtgdjlmpfjmakkaaDoorFrameTells
import Derived.Test.YtgdjlmpfjmakkaaDoorLaid7
namespace Go.Proofs.YtgdjlmpfjmakkaaDoor.PolicyTellsP
open Go.RowKit
open FrameLengthsP (step_)
open FrameTellsP (of_drew)

set_option maxRecDepth 100000 in
set_option maxHeartbeats 25600000 in
set_option linter.unusedSimpArgs false in
theorem walk (A0 A1 : Option Addr) (n0 c0 n1 c1 : Nat) (lv least cp bf tm : Int) (ts : List (List UInt8)) (m : ByteArray) (minor status : Int) (s_ : ByteArray) (A : Option Addr) (n c : Nat) (fs : List (List UInt8 × List UInt8)) (w : World)
    (h1 : Rd w w.heap.size 1 A1 n1 (scells ts)) (hn1 : n1 ≤ 9223372036854775807) (hts : ∀ t ∈ ts, t.length ≤ reachBytes) (_hm : m.size ≤ maxLen) (h : Rd w w.heap.size 2 A n (fcells fs)) (hn : n ≤ 9223372036854775807) (hz : ∀ f ∈ fs, f.1.length ≤ reachBytes ∧ f.2.length ≤ reachBytes) :
    Calls Tryd.prog 11 #[.agg #[.slice A0 n0 c0, .slice A1 n1 c1, .int .i64 lv, .int .i64 least, .int .i64 cp, .int .i64 bf, .int .i64 tm], .string m, .agg #[.int .i64 minor, .int .i64 status, .string s_, .slice A n c]] w fun e w' => e = .returned (.bool true) ∧ Below w.heap.size w w' := by
  obtain ⟨w1, hw1⟩ : ∃ w1, (w.alloc (.cells #[.slice A0 n0 c0, .slice A1 n1 c1, .int .i64 lv, .int .i64 least, .int .i64 cp, .int .i64 bf, .int .i64 tm] 74)).alloc (.cells #[.int .i64 minor, .int .i64 status, .string s_, .slice A n c] 41) = w1 := ⟨_, rfl⟩
  obtain ⟨bC, bR, tW⟩ := two_boxes w #[.slice A0 n0 c0, .slice A1 n1 c1, .int .i64 lv, .int .i64 least, .int .i64 cp, .int .i64 bf, .int .i64 tm] #[.int .i64 minor, .int .i64 status, .string s_, .slice A n c] 74 41
  rw [hw1] at bC bR tW
  have b_ := fun (W : World) (b : Below w1.heap.size w1 W) => tW.trans (b.mono tW.size)
  have hfl := h.flen
  have hll : ts.length = n1 := by have := h1.1; simpa [scells] using this
  have qL := fun (W : World) (b : Below w1.heap.size w1 W) => of_drew (light21_any A n c _ fs W (h.below (b_ W b)) hn hz)
  have qF := fun (W : World) (b : Below w1.heap.size w1 W) => few21_any A1 n1 c1 _ ts W (h1.below (b_ W b)) hn1 hts
  have qA := fun (W : World) (_ : Below w1.heap.size w1 W) => ans21_any W
  obtain ⟨gc, hgc⟩ : ∃ g, w.heap.size = g := ⟨_, rfl⟩
  obtain ⟨gr, hgr⟩ : ∃ g, g = gc + 1 := ⟨_, rfl⟩
  rw [hgc] at bC bR
  rw [← hgr] at bR
  have mk : ∀ W, Below w1.heap.size w1 W → W.cell? ⟨gc, 0, none⟩ = some (.slice A0 n0 c0) ∧ W.cell? ⟨gc, 1, none⟩ = some (.slice A1 n1 c1) ∧ W.cell? ⟨gc, 2, none⟩ = some (.int .i64 lv) ∧ W.cell? ⟨gc, 3, none⟩ = some (.int .i64 least) ∧ W.cell? ⟨gc, 4, none⟩ = some (.int .i64 cp) ∧ W.cell? ⟨gc, 5, none⟩ = some (.int .i64 bf) ∧ W.cell? ⟨gc, 6, none⟩ = some (.int .i64 tm) ∧ W.cell? ⟨gr, 0, none⟩ = some (.int .i64 minor) ∧ W.cell? ⟨gr, 1, none⟩ = some (.int .i64 status) ∧ W.cell? ⟨gr, 2, none⟩ = some (.string s_) ∧ W.cell? ⟨gr, 3, none⟩ = some (.slice A n c) := fun W b => by
    have b1 := bC.below b
    have b2 := bR.below b
    exact ⟨(b1.2 0 _ rfl).1, (b1.2 1 _ rfl).1, (b1.2 2 _ rfl).1, (b1.2 3 _ rfl).1, (b1.2 4 _ rfl).1, (b1.2 5 _ rfl).1, (b1.2 6 _ rfl).1, (b2.2 0 _ rfl).1, (b2.2 1 _ rfl).1, (b2.2 2 _ rfl).1, (b2.2 3 _ rfl).1⟩
  have x3 := (bR.2 3 _ rfl).1
  rcases hL : lightS 100 30000 fs with _ | _
  · rw [hL] at qL
    clear hL hfl hll
    go_enter Tryd.func11, Tryd.ntmps11
    go_upto_region 1 with (fail)
    try rw [hw1]
    try rw [hgc]
    try rw [← hgr]
    clear hw1 hgc hgr
    go_wp2_with fail
    refine (qL w1 (Below.refl _ _)).mono ?_
    rintro e w2 ⟨rfl, k2⟩
    go_upto_region 2 with (fail)
    go_wp2_with fail
    refine (qA w2 k2).mono ?_
    rintro e w3 ⟨rfl, k3⟩
    go_wp2
    go_ret
    exact ⟨rfl, tW.trans ((k2.trans (k3.mono k2.size)).mono tW.size)⟩
  rcases hF : fewT ts with _ | _
  · rw [hL] at qL
    rw [hF] at qF
    clear hL hF hfl hll
    go_enter Tryd.func11, Tryd.ntmps11
    go_upto_region 1 with (fail)
    try rw [hw1]
    try rw [hgc]
    try rw [← hgr]
    clear hw1 hgc hgr
    go_wp2_with fail
    refine (qL w1 (Below.refl _ _)).mono ?_
    rintro e w2 ⟨rfl, k2⟩
    have x4 := (mk _ k2).2.1
    go_wp2_with fail
    refine (qF w2 k2).mono ?_
    rintro e w3 ⟨rfl, hw3⟩
    obtain rfl : w2 = w3 := hw3.symm
    clear hw3
    go_upto_region 2 with (fail)
    go_wp2_with fail
    refine (qA w2 k2).mono ?_
    rintro e w3 ⟨rfl, k3⟩
    go_wp2
    go_ret
    exact ⟨rfl, tW.trans ((k2.trans (k3.mono k2.size)).mono tW.size)⟩
  obtain ⟨hok, h100, -⟩ := lightS_ok hL (by omega)
  rw [hfl] at h100
  obtain ⟨hts2, ht100⟩ := fewT_ok hF
  rw [hll] at ht100
  have hts3 : ∀ t ∈ ts, t.length ≤ 1000000 := fun t ht => by have := hts2 t ht; omega
  rw [hL] at qL
  rw [hF] at qF
  clear hL hF hfl hll hts2
  have qK := fun (W : World) (b : Below w1.heap.size w1 W) => pkept_any minor status s_ A n c _ fs W (h.below (b_ W b)) (b_ W b).size (by omega) hok
  have qK2 := fun (W : World) (b : Below w1.heap.size w1 W) => refpkept_any minor status s_ A n c _ fs W (h.below (b_ W b)) (b_ W b).size (by omega) hok
  have qM := fun (W : World) (b : Below w1.heap.size w1 W) => media_any minor status s_ A n c _ fs W (h.below (b_ W b)) (b_ W b).size (by omega) hok
  have qM2 := fun (W : World) (b : Below w1.heap.size w1 W) => refmedia_any minor status s_ A n c _ fs W (h.below (b_ W b)) (b_ W b).size (by omega) hok
  have qC := fun (W : World) (b : Below w1.heap.size w1 W) => pocoding_any minor status s_ A n c _ fs W (h.below (b_ W b)) (b_ W b).size (by omega) hok
  have qC2 := fun (W : World) (b : Below w1.heap.size w1 W) => coding_any minor status s_ A n c _ fs W (h.below (b_ W b)) (b_ W b).size (by omega) hok
  have qB := fun (W : World) (b : Below w1.heap.size w1 W) => members_any minor status s_ A n c _ fs W (h.below (b_ W b)) (b_ W b).size (by omega) hok
  have qB2 := fun (W : World) (b : Below w1.heap.size w1 W) => all_any A n c _ fs ⟨#[67, 111, 110, 116, 101, 110, 116, 45, 69, 110, 99, 111, 100, 105, 110, 103]⟩ W (h.below (b_ W b)) (b_ W b).size (by omega) hok (by decide)
  have hall : allL fs (⟨#[67, 111, 110, 116, 101, 110, 116, 45, 69, 110, 99, 111, 100, 105, 110, 103]⟩ : ByteArray).data.toList = allL fs codeL := by unfold allL; rw [getL_congr (show lowL [67, 111, 110, 116, 101, 110, 116, 45, 69, 110, 99, 111, 100, 105, 110, 103] = lowL codeL by decide)]
  simp only [hall] at qB2
  have qE := fun (W : World) (b : Below w1.heap.size w1 W) => elig_any A0 A1 n0 c0 n1 c1 lv least cp bf tm minor status s_ m A n c _ fs ts W (h.below (b_ W b)) (h1.below (b_ W b)) (b_ W b).size (by omega) (by omega) hok hts3
  have qE2 := fun (W : World) (b : Below w1.heap.size w1 W) => refelig_any A0 A1 n0 c0 n1 c1 lv least cp bf tm minor status s_ m A n c _ fs ts W (h.below (b_ W b)) (h1.below (b_ W b)) (b_ W b).size (by omega) (by omega) hok hts3
  have hTl : (allL fs codeL).length ≤ 140737488355328 := by
    have h2 := allV_len (getL fs codeL) (getL_mem hok codeL)
    have h3 := getL_len fs codeL
    have h4 := h.flen
    have h5 : (getL fs codeL).length * 1000001 ≤ 100 * 1000001 := Nat.mul_le_mul_right _ (by omega)
    unfold allL
    omega
  obtain ⟨T, hT⟩ : ∃ T, T = allL fs codeL := ⟨_, rfl⟩
  rw [← hT] at hTl
  simp only [← hT] at qB qB2
  obtain ⟨L, hLl⟩ : ∃ L, L = T.length := ⟨_, rfl⟩
  rw [← hLl] at hTl
  simp only [← hLl] at qB qB2
  have qT : ∀ (A5 A6 : Option Addr) (c5 c6 : Nat) (W : World), Rd W W.heap.size 1 A5 L (scells T) → Rd W W.heap.size 1 A6 L (scells T) → Calls Tryd.prog 48 #[.slice A5 L c5, .slice A6 L c6] W fun e w' => e = .returned (.bool true) ∧ Below W.heap.size W w' := fun A5 A6 c5 c6 W r r' => by
    have := of_drew (texts_any A5 A6 L c5 L c6 _ _ T T W r r' hTl hTl)
    rwa [beq_self_eq_true] at this
  obtain ⟨Kp, hKp⟩ : ∃ K, K = keptL status fs := ⟨_, rfl⟩
  obtain ⟨Cd, hCd⟩ : ∃ K, K = codingL (allL fs codeL) := ⟨_, rfl⟩
  obtain ⟨El, hEl⟩ : ∃ K, K = eligL least ts m.data.toList status fs := ⟨_, rfl⟩
  obtain ⟨bm, hbm⟩ : ∃ b : ByteArray, b = ⟨(mediaL fs).toArray⟩ := ⟨_, rfl⟩
  simp only [← hKp] at qK qK2
  simp only [← hCd] at qC qC2
  simp only [← hEl] at qE qE2
  simp only [← hbm] at qM qM2
  have eK : (Kp == Kp) = true := beq_self_eq_true _
  have eM : (bm.toList == bm.toList) = true := beq_self_eq_true _
  have eC : ((Cd : Int) == (Cd : Int)) = true := beq_self_eq_true _
  have eE : (El == El) = true := beq_self_eq_true _
  clear hKp hCd hEl hbm hT hLl h h1 hok hts hts3 hz hall hTl b_
  go_enter Tryd.func11, Tryd.ntmps11
  go_upto_region 1 with (fail)
  try rw [hw1]
  try rw [hgc]
  try rw [← hgr]
  clear hw1 hgc hgr
  go_wp2_with fail
  refine (qL w1 (Below.refl _ _)).mono ?_
  rintro e w2 ⟨rfl, k2⟩
  have x4 := (mk _ k2).2.1
  go_wp2_with fail
  refine (qF w2 k2).mono ?_
  rintro e w3 ⟨rfl, hw3⟩
  obtain rfl : w2 = w3 := hw3.symm
  clear hw3
  have z1 : Below w1.heap.size w1 w2.drew := k2.drew
  go_upto_region 3 with (fail)
  clear qL qF
  refine CalmP.hideN (fun K0 hQ => ?_)
  refine wp_region_held_drew (S := (fun W : World => W.cell? ⟨gc, 0, none⟩ = some (.slice A0 n0 c0) ∧ W.cell? ⟨gc, 1, none⟩ = some (.slice A1 n1 c1) ∧ W.cell? ⟨gc, 2, none⟩ = some (.int .i64 lv) ∧ W.cell? ⟨gc, 3, none⟩ = some (.int .i64 least) ∧ W.cell? ⟨gc, 4, none⟩ = some (.int .i64 cp) ∧ W.cell? ⟨gc, 5, none⟩ = some (.int .i64 bf) ∧ W.cell? ⟨gc, 6, none⟩ = some (.int .i64 tm) ∧ W.cell? ⟨gr, 0, none⟩ = some (.int .i64 minor) ∧ W.cell? ⟨gr, 1, none⟩ = some (.int .i64 status) ∧ W.cell? ⟨gr, 2, none⟩ = some (.string s_) ∧ W.cell? ⟨gr, 3, none⟩ = some (.slice A n c))) (by kernel_rfl) (mk _ z1) (fun hHeld => ?_)
  refine wpAnyH_ready (rs := [0]) (by kernel_rfl) (by simp) ?_
  refine AllReadyH.cons rfl (fun K_ hK => ?_) AllReadyH.nil
  go_simp
  refine (qA _ z1).mono ?_
  rintro e_ V1 ⟨rfl, k_⟩
  have y1 := z1.trans (k_.mono z1.size)
  clear k_
  refine hK.out _ _ (mk _ y1) (fun hHeld => ?_)
  clear hK K_
  try simp only [Act.put, List.setIfInBounds_toArray, List.set_cons_zero, List.set_cons_succ]
  refine wpAnyH_take (i := 1) (v := ?_) rfl (by kernel_rfl) (by kernel_rfl) (by kernel_rfl) CalmP.onlyN_panic (Or.inl ⟨by kernel_rfl, ?_⟩) (by assumption) ?_
  rotate_left
  · (intro w_ hSw; (try dsimp only at hSw); go_simp; try with_reducible rfl)
  try simp only [Act.put, List.setIfInBounds_toArray, List.set_cons_zero, List.set_cons_succ]
  refine wpAnyH_take (i := 2) (v := ?_) rfl (by kernel_rfl) (by kernel_rfl) (by kernel_rfl) CalmP.onlyN_panic (Or.inl ⟨by kernel_rfl, ?_⟩) (by assumption) ?_
  rotate_left
  · (intro w_ hSw; (try dsimp only at hSw); go_simp; try with_reducible rfl)
  try simp only [Act.put, List.setIfInBounds_toArray, List.set_cons_zero, List.set_cons_succ]
  refine wpAnyH_take (i := 4) (v := ?_) rfl (by kernel_rfl) (by kernel_rfl) (by kernel_rfl) CalmP.onlyN_panic (Or.inl ⟨by kernel_rfl, ?_⟩) (by assumption) ?_
  rotate_left
  · (intro w_ hSw; (try dsimp only at hSw); go_simp; try with_reducible rfl)
  try simp only [Act.put, List.setIfInBounds_toArray, List.set_cons_zero, List.set_cons_succ]
  refine wpAnyH_ready (rs := [3]) (by kernel_rfl) (by simp) ?_
  refine AllReadyH.cons rfl (fun K_ hK => ?_) AllReadyH.nil
  go_simp
  refine (qK _ y1).mono ?_
  rintro e_ V2 ⟨rfl, k_⟩
  have y2 := y1.trans (k_.mono y1.size)
  clear k_
  refine hK.out _ _ (mk _ y2) (fun hHeld => ?_)
  clear hK K_
  try simp only [Act.put, List.setIfInBounds_toArray, List.set_cons_zero, List.set_cons_succ]
  refine wpAnyH_ready (rs := [5]) (by kernel_rfl) (by simp) ?_
  refine AllReadyH.cons rfl (fun K_ hK => ?_) AllReadyH.nil
  go_simp
  refine (qK2 _ y2).mono ?_
  rintro e_ V3 ⟨rfl, k_⟩
  have y3 := y2.trans (k_.mono y2.size)
  clear k_
  refine hK.out _ _ (mk _ y3) (fun hHeld => ?_)
  clear hK K_
  try simp only [Act.put, List.setIfInBounds_toArray, List.set_cons_zero, List.set_cons_succ]
  refine wpAnyH_take (i := 6) (v := ?_) rfl (by kernel_rfl) (by kernel_rfl) (by kernel_rfl) CalmP.onlyN_panic (Or.inl ⟨by kernel_rfl, ?_⟩) (by assumption) ?_
  rotate_left
  · (intro w_ hSw; (try dsimp only at hSw); go_simp; try with_reducible rfl)
  try simp only [Act.put, List.setIfInBounds_toArray, List.set_cons_zero, List.set_cons_succ]
  refine wpAnyH_take (i := 7) (v := ?_) rfl (by kernel_rfl) (by kernel_rfl) (by kernel_rfl) CalmP.onlyN_panic (Or.inl ⟨by kernel_rfl, ?_⟩) (by assumption) ?_
  rotate_left
  · (intro w_ hSw; (try dsimp only at hSw); go_simp; try with_reducible rfl)
  try simp only [Act.put, List.setIfInBounds_toArray, List.set_cons_zero, List.set_cons_succ]
  refine wpAnyH_take (i := 8) (v := ?_) rfl (by kernel_rfl) (by kernel_rfl) (by kernel_rfl) CalmP.onlyN_panic (Or.inl ⟨by kernel_rfl, ?_⟩) (by assumption) ?_
  rotate_left
  · (intro w_ hSw; (try dsimp only at hSw); go_simp; try with_reducible rfl)
  try simp only [Act.put, List.setIfInBounds_toArray, List.set_cons_zero, List.set_cons_succ]
  refine wpAnyH_take (i := 9) (v := ?_) rfl (by kernel_rfl) (by kernel_rfl) (by kernel_rfl) CalmP.onlyN_panic (Or.inl ⟨by kernel_rfl, ?_⟩) (by assumption) ?_
  rotate_left
  · (intro w_ hSw; (try dsimp only at hSw); go_simp; try with_reducible rfl)
  try simp only [Act.put, List.setIfInBounds_toArray, List.set_cons_zero, List.set_cons_succ]
  refine wpAnyH_take (i := 11) (v := ?_) rfl (by kernel_rfl) (by kernel_rfl) (by kernel_rfl) CalmP.onlyN_panic (Or.inl ⟨by kernel_rfl, ?_⟩) (by assumption) ?_
  rotate_left
  · (intro w_ hSw; (try dsimp only at hSw); go_simp; try with_reducible rfl)
  try simp only [Act.put, List.setIfInBounds_toArray, List.set_cons_zero, List.set_cons_succ]
  refine wpAnyH_ready (rs := [10]) (by kernel_rfl) (by simp) ?_
  refine AllReadyH.cons rfl (fun K_ hK => ?_) AllReadyH.nil
  go_simp
  refine (qM _ y3).mono ?_
  rintro e_ V4 ⟨rfl, k_⟩
  have y4 := y3.trans (k_.mono y3.size)
  clear k_
  refine hK.out _ _ (mk _ y4) (fun hHeld => ?_)
  clear hK K_
  try simp only [Act.put, List.setIfInBounds_toArray, List.set_cons_zero, List.set_cons_succ]
  refine wpAnyH_ready (rs := [12]) (by kernel_rfl) (by simp) ?_
  refine AllReadyH.cons rfl (fun K_ hK => ?_) AllReadyH.nil
  go_simp
  refine (qM2 _ y4).mono ?_
  rintro e_ V5 ⟨rfl, k_⟩
  have y5 := y4.trans (k_.mono y4.size)
  clear k_
  refine hK.out _ _ (mk _ y5) (fun hHeld => ?_)
  clear hK K_
  try simp only [Act.put, List.setIfInBounds_toArray, List.set_cons_zero, List.set_cons_succ]
  refine wpAnyH_take (i := 13) (v := ?_) rfl (by kernel_rfl) (by kernel_rfl) (by kernel_rfl) CalmP.onlyN_panic (Or.inl ⟨by kernel_rfl, ?_⟩) (by assumption) ?_
  rotate_left
  · (intro w_ hSw; (try dsimp only at hSw); go_simp; try with_reducible rfl)
  try simp only [Act.put, List.setIfInBounds_toArray, List.set_cons_zero, List.set_cons_succ]
  refine wpAnyH_take (i := 14) (v := ?_) rfl (by kernel_rfl) (by kernel_rfl) (by kernel_rfl) CalmP.onlyN_panic (Or.inl ⟨by kernel_rfl, ?_⟩) (by assumption) ?_
  rotate_left
  · (intro w_ hSw; (try dsimp only at hSw); go_simp; try with_reducible rfl)
  try simp only [Act.put, List.setIfInBounds_toArray, List.set_cons_zero, List.set_cons_succ]
  refine wpAnyH_take (i := 15) (v := ?_) rfl (by kernel_rfl) (by kernel_rfl) (by kernel_rfl) CalmP.onlyN_panic (Or.inl ⟨by kernel_rfl, ?_⟩) (by assumption) ?_
  rotate_left
  · (intro w_ hSw; (try dsimp only at hSw); go_simp; try with_reducible rfl)
  try simp only [Act.put, List.setIfInBounds_toArray, List.set_cons_zero, List.set_cons_succ]
  refine wpAnyH_take (i := 16) (v := ?_) rfl (by kernel_rfl) (by kernel_rfl) (by kernel_rfl) CalmP.onlyN_panic (Or.inl ⟨by kernel_rfl, ?_⟩) (by assumption) ?_
  rotate_left
  · (intro w_ hSw; (try dsimp only at hSw); go_simp; try with_reducible rfl)
  try simp only [Act.put, List.setIfInBounds_toArray, List.set_cons_zero, List.set_cons_succ]
  refine wpAnyH_take (i := 18) (v := ?_) rfl (by kernel_rfl) (by kernel_rfl) (by kernel_rfl) CalmP.onlyN_panic (Or.inl ⟨by kernel_rfl, ?_⟩) (by assumption) ?_
  rotate_left
  · (intro w_ hSw; (try dsimp only at hSw); go_simp; try with_reducible rfl)
  try simp only [Act.put, List.setIfInBounds_toArray, List.set_cons_zero, List.set_cons_succ]
  refine wpAnyH_ready (rs := [17]) (by kernel_rfl) (by simp) ?_
  refine AllReadyH.cons rfl (fun K_ hK => ?_) AllReadyH.nil
  go_simp
  refine (qC _ y5).mono ?_
  rintro e_ V6 ⟨rfl, k_⟩
  have y6 := y5.trans (k_.mono y5.size)
  clear k_
  refine hK.out _ _ (mk _ y6) (fun hHeld => ?_)
  clear hK K_
  try simp only [Act.put, List.setIfInBounds_toArray, List.set_cons_zero, List.set_cons_succ]
  refine wpAnyH_ready (rs := [19]) (by kernel_rfl) (by simp) ?_
  refine AllReadyH.cons rfl (fun K_ hK => ?_) AllReadyH.nil
  go_simp
  refine (qC2 _ y6).mono ?_
  rintro e_ V7 ⟨rfl, k_⟩
  have y7 := y6.trans (k_.mono y6.size)
  clear k_
  refine hK.out _ _ (mk _ y7) (fun hHeld => ?_)
  clear hK K_
  try simp only [Act.put, List.setIfInBounds_toArray, List.set_cons_zero, List.set_cons_succ]
  refine wpAnyH_take (i := 20) (v := ?_) rfl (by kernel_rfl) (by kernel_rfl) (by kernel_rfl) CalmP.onlyN_panic (Or.inl ⟨by kernel_rfl, ?_⟩) (by assumption) ?_
  rotate_left
  · (intro w_ hSw; (try dsimp only at hSw); go_simp; try with_reducible rfl)
  try simp only [Act.put, List.setIfInBounds_toArray, List.set_cons_zero, List.set_cons_succ]
  refine wpAnyH_take (i := 21) (v := ?_) rfl (by kernel_rfl) (by kernel_rfl) (by kernel_rfl) CalmP.onlyN_panic (Or.inl ⟨by kernel_rfl, ?_⟩) (by assumption) ?_
  rotate_left
  · (intro w_ hSw; (try dsimp only at hSw); go_simp; try with_reducible rfl)
  try simp only [Act.put, List.setIfInBounds_toArray, List.set_cons_zero, List.set_cons_succ]
  refine wpAnyH_take (i := 22) (v := ?_) rfl (by kernel_rfl) (by kernel_rfl) (by kernel_rfl) CalmP.onlyN_panic (Or.inl ⟨by kernel_rfl, ?_⟩) (by assumption) ?_
  rotate_left
  · (intro w_ hSw; (try dsimp only at hSw); go_simp; try with_reducible rfl)
  try simp only [Act.put, List.setIfInBounds_toArray, List.set_cons_zero, List.set_cons_succ]
  refine wpAnyH_take (i := 23) (v := ?_) rfl (by kernel_rfl) (by kernel_rfl) (by kernel_rfl) CalmP.onlyN_panic (Or.inl ⟨by kernel_rfl, ?_⟩) (by assumption) ?_
  rotate_left
  · (intro w_ hSw; (try dsimp only at hSw); go_simp; try with_reducible rfl)
  try simp only [Act.put, List.setIfInBounds_toArray, List.set_cons_zero, List.set_cons_succ]
  refine wpAnyH_take (i := 25) (v := ?_) rfl (by kernel_rfl) (by kernel_rfl) (by kernel_rfl) CalmP.onlyN_panic (Or.inl ⟨by kernel_rfl, ?_⟩) (by assumption) ?_
  rotate_left
  · (intro w_ hSw; (try dsimp only at hSw); go_simp; try with_reducible rfl)
  try simp only [Act.put, List.setIfInBounds_toArray, List.set_cons_zero, List.set_cons_succ]
  refine wpAnyH_take (i := 26) (v := ?_) rfl (by kernel_rfl) (by kernel_rfl) (by kernel_rfl) CalmP.onlyN_panic (Or.inl ⟨by kernel_rfl, ?_⟩) (by assumption) ?_
  rotate_left
  · (intro w_ hSw; (try dsimp only at hSw); go_simp; try with_reducible rfl)
  try simp only [Act.put, List.setIfInBounds_toArray, List.set_cons_zero, List.set_cons_succ]
  refine wpAnyH_ready (rs := [24]) (by kernel_rfl) (by simp) ?_
  refine AllReadyH.cons rfl (fun K_ hK => ?_) AllReadyH.nil
  go_simp
  refine (qB _ y7).mono ?_
  rintro e_ V8 ⟨A5, c5, rfl, o5, hc5, k_⟩
  have y8 := y7.trans (k_.mono y7.size)
  have r5 := Rd.of_own o5
  clear o5 hc5
  clear k_
  refine hK.out _ _ (mk _ y8) (fun hHeld => ?_)
  clear hK K_
  try simp only [Act.put, List.setIfInBounds_toArray, List.set_cons_zero, List.set_cons_succ]
  refine wpAnyH_ready (rs := [27]) (by kernel_rfl) (by simp) ?_
  refine AllReadyH.cons rfl (fun K_ hK => ?_) AllReadyH.nil
  go_simp
  refine (qB2 _ y8).mono ?_
  rintro e_ V9 ⟨A6, c6, rfl, o6, hc6, k_⟩
  have y9 := y8.trans (k_.mono y8.size)
  have r6 := Rd.of_own o6
  replace r5 := step_ r5 k_
  clear o6 hc6
  clear k_
  refine hK.out _ _ (mk _ y9) (fun hHeld => ?_)
  clear hK K_
  try simp only [Act.put, List.setIfInBounds_toArray, List.set_cons_zero, List.set_cons_succ]
  refine wpAnyH_ready (rs := [28]) (by kernel_rfl) (by simp) ?_
  refine AllReadyH.cons rfl (fun K_ hK => ?_) AllReadyH.nil
  go_simp
  refine (qT A5 A6 c5 c6 V9 r5 r6).mono ?_
  rintro e_ V10 ⟨rfl, k_⟩
  have y10 := y9.trans (k_.mono y9.size)
  clear r5 r6
  clear k_
  refine hK.out _ _ (mk _ y10) (fun hHeld => ?_)
  clear hK K_
  try simp only [Act.put, List.setIfInBounds_toArray, List.set_cons_zero, List.set_cons_succ]
  refine wpAnyH_take (i := 29) (v := ?_) rfl (by kernel_rfl) (by kernel_rfl) (by kernel_rfl) CalmP.onlyN_panic (Or.inl ⟨by kernel_rfl, ?_⟩) (by assumption) ?_
  rotate_left
  · (intro w_ hSw; (try dsimp only at hSw); go_simp; try with_reducible rfl)
  try simp only [Act.put, List.setIfInBounds_toArray, List.set_cons_zero, List.set_cons_succ]
  refine wpAnyH_take (i := 30) (v := ?_) rfl (by kernel_rfl) (by kernel_rfl) (by kernel_rfl) CalmP.onlyN_panic (Or.inl ⟨by kernel_rfl, ?_⟩) (by assumption) ?_
  rotate_left
  · (intro w_ hSw; (try dsimp only at hSw); go_simp; try with_reducible rfl)
  try simp only [Act.put, List.setIfInBounds_toArray, List.set_cons_zero, List.set_cons_succ]
  refine wpAnyH_take (i := 31) (v := ?_) rfl (by kernel_rfl) (by kernel_rfl) (by kernel_rfl) CalmP.onlyN_panic (Or.inl ⟨by kernel_rfl, ?_⟩) (by assumption) ?_
  rotate_left
  · (intro w_ hSw; (try dsimp only at hSw); go_simp; try with_reducible rfl)
  try simp only [Act.put, List.setIfInBounds_toArray, List.set_cons_zero, List.set_cons_succ]
  refine wpAnyH_take (i := 32) (v := ?_) rfl (by kernel_rfl) (by kernel_rfl) (by kernel_rfl) CalmP.onlyN_panic (Or.inl ⟨by kernel_rfl, ?_⟩) (by assumption) ?_
  rotate_left
  · (intro w_ hSw; (try dsimp only at hSw); go_simp; try with_reducible rfl)
  try simp only [Act.put, List.setIfInBounds_toArray, List.set_cons_zero, List.set_cons_succ]
  refine wpAnyH_take (i := 33) (v := ?_) rfl (by kernel_rfl) (by kernel_rfl) (by kernel_rfl) CalmP.onlyN_panic (Or.inl ⟨by kernel_rfl, ?_⟩) (by assumption) ?_
  rotate_left
  · (intro w_ hSw; (try dsimp only at hSw); go_simp; try with_reducible rfl)
  try simp only [Act.put, List.setIfInBounds_toArray, List.set_cons_zero, List.set_cons_succ]
  refine wpAnyH_take (i := 35) (v := ?_) rfl (by kernel_rfl) (by kernel_rfl) (by kernel_rfl) CalmP.onlyN_panic (Or.inl ⟨by kernel_rfl, ?_⟩) (by assumption) ?_
  rotate_left
  · (intro w_ hSw; (try dsimp only at hSw); go_simp; try with_reducible rfl)
  try simp only [Act.put, List.setIfInBounds_toArray, List.set_cons_zero, List.set_cons_succ]
  refine wpAnyH_take (i := 36) (v := ?_) rfl (by kernel_rfl) (by kernel_rfl) (by kernel_rfl) CalmP.onlyN_panic (Or.inl ⟨by kernel_rfl, ?_⟩) (by assumption) ?_
  rotate_left
  · (intro w_ hSw; (try dsimp only at hSw); go_simp; try with_reducible rfl)
  try simp only [Act.put, List.setIfInBounds_toArray, List.set_cons_zero, List.set_cons_succ]
  refine wpAnyH_take (i := 37) (v := ?_) rfl (by kernel_rfl) (by kernel_rfl) (by kernel_rfl) CalmP.onlyN_panic (Or.inl ⟨by kernel_rfl, ?_⟩) (by assumption) ?_
  rotate_left
  · (intro w_ hSw; (try dsimp only at hSw); go_simp; try with_reducible rfl)
  try simp only [Act.put, List.setIfInBounds_toArray, List.set_cons_zero, List.set_cons_succ]
  refine wpAnyH_ready (rs := [34]) (by kernel_rfl) (by simp) ?_
  refine AllReadyH.cons rfl (fun K_ hK => ?_) AllReadyH.nil
  go_simp
  refine (qE _ y10).mono ?_
  rintro e_ V11 ⟨rfl, k_⟩
  have y11 := y10.trans (k_.mono y10.size)
  clear k_
  refine hK.out _ _ (mk _ y11) (fun hHeld => ?_)
  clear hK K_
  try simp only [Act.put, List.setIfInBounds_toArray, List.set_cons_zero, List.set_cons_succ]
  refine wpAnyH_ready (rs := [38]) (by kernel_rfl) (by simp) ?_
  refine AllReadyH.cons rfl (fun K_ hK => ?_) AllReadyH.nil
  go_simp
  refine (qE2 _ y11).mono ?_
  rintro e_ V12 ⟨rfl, k_⟩
  have y12 := y11.trans (k_.mono y11.size)
  clear k_
  refine hK.out _ _ (mk _ y12) (fun hHeld => ?_)
  clear hK K_
  try simp only [Act.put, List.setIfInBounds_toArray, List.set_cons_zero, List.set_cons_succ]
  refine wpAnyH_take (i := 39) (v := ?_) rfl (by kernel_rfl) (by kernel_rfl) (by kernel_rfl) CalmP.onlyN_panic (Or.inl ⟨by kernel_rfl, ?_⟩) (by assumption) ?_
  rotate_left
  · (intro w_ hSw; (try dsimp only at hSw); go_simp; try with_reducible rfl)
  try simp only [Act.put, List.setIfInBounds_toArray, List.set_cons_zero, List.set_cons_succ]
  refine wpAnyH_take (i := 40) (v := ?_) rfl (by kernel_rfl) (by kernel_rfl) (by kernel_rfl) CalmP.onlyN_panic (Or.inl ⟨by kernel_rfl, ?_⟩) (by assumption) ?_
  rotate_left
  · (intro w_ hSw; (try dsimp only at hSw); go_simp; try with_reducible rfl)
  try simp only [List.getElem_toArray, List.getElem_cons_succ, List.getElem_cons_zero, Act.put, List.setIfInBounds_toArray, List.set_cons_zero, List.set_cons_succ]
  refine wpAnyH_take (i := 41) (v := ?_) rfl (by kernel_rfl) (by kernel_rfl) (by kernel_rfl) CalmP.onlyN_panic (Or.inl ⟨by kernel_rfl, ?_⟩) (by assumption) ?_
  rotate_left
  · (intro w_ hSw; (try dsimp only at hSw); go_simp; try with_reducible rfl)
  try simp only [List.getElem_toArray, List.getElem_cons_succ, List.getElem_cons_zero, Act.put, List.setIfInBounds_toArray, List.set_cons_zero, List.set_cons_succ]
  refine wpAnyH_done (by kernel_rfl) ?_ _
  refine CalmP.onlyN_here (hQ.out _ _ ?_)
  clear hQ K0
  go_wp2
  go_ret
  exact ⟨rfl, tW.trans (y12.mono tW.size)⟩
/-- The settled world that the card begins from. -/
noncomputable def laidWorld (os : Os) : World := laidWorld7 os
end Go.Proofs.YtgdjlmpfjmakkaaDoor.PolicyTellsP
