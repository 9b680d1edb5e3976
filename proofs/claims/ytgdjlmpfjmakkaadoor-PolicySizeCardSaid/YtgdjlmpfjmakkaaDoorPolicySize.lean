/- PolicySize returns true, whatever its arguments. -/
import Derived.Test.YtgdjlmpfjmakkaaDoorElig
import Derived.Test.YtgdjlmpfjmakkaaDoorFrameTells
import Derived.Test.YtgdjlmpfjmakkaaDoorLaid7
namespace Go.Proofs.YtgdjlmpfjmakkaaDoor.PolicySizeP
open Go.RowKit
open FrameLengthsP (step_ udig_ok udig_small)

def abF : List UInt8 × List UInt8 := ([67, 111, 110, 116, 101, 110, 116, 45, 84, 121, 112, 101], [65, 47, 66, 32, 59, 32, 99])
theorem get_ab (v m : List UInt8) : getL [abF, (nameCL, v)] m = (if sameL abF.1 m then [abF.2] else []) ++ (if sameL nameCL m then [v] else []) := by
  rw [getL_cons, getL_cons]
  have e : getL [] m = [] := rfl
  rw [e]
  split <;> split <;> rfl
theorem get_a (m : List UInt8) : getL [abF] m = if sameL abF.1 m then [abF.2] else [] := by
  rw [getL_cons]; split <;> rfl
theorem elig_told (least size : Nat) (h : size < 4294967296) : eligL (least : Int) [[97, 47, 98]] [71, 69, 84] 200 [abF, (nameCL, udig size)] = decide (least ≤ size) := by
  obtain ⟨h1, h2, h3⟩ := udig_ok size
  have h4 := udig_small size (by omega)
  have g1 : getL [abF, (nameCL, udig size)] crL = [] := by rw [get_ab, if_neg (by decide), if_neg (by decide)]; rfl
  have g2 : getL [abF, (nameCL, udig size)] ccL = [] := by rw [get_ab, if_neg (by decide), if_neg (by decide)]; rfl
  have g3 : getL [abF, (nameCL, udig size)] codeL = [] := by rw [get_ab, if_neg (by decide), if_neg (by decide)]; rfl
  have g4 : getL [abF, (nameCL, udig size)] ctL = [abF.2] := by rw [get_ab, if_pos (by decide), if_neg (by decide)]; rfl
  have g5 : getL [abF, (nameCL, udig size)] nameCL = [udig size] := by rw [get_ab, if_neg (by decide), if_pos (by decide)]; rfl
  have k1 : keptL 200 [abF, (nameCL, udig size)] = false := by unfold keptL hasL; rw [g1, g2]; rfl
  have k2 : codingL (allL [abF, (nameCL, udig size)] codeL) = 0 := by unfold allL; rw [g3]; rfl
  have k3 : mediaL [abF, (nameCL, udig size)] = [97, 47, 98] := by unfold mediaL; rw [g4]; decide
  have k4 : longL (least : Int) [abF, (nameCL, udig size)] = decide (least ≤ size) := by
    unfold longL; rw [g5]
    show longV _ _ = _
    unfold longV
    rw [if_pos ⟨h3, by omega, h2⟩, h1]
    exact decide_eq_decide.2 (by omega)
  have k5 : worthL [[97, 47, 98]] [97, 47, 98] = true := by decide
  have k6 : statB 200 = true := by decide
  unfold eligL
  rw [k1, k2, k3, k4, k5, k6]
  simp
theorem elig_none (least : Int) : eligL least [[97, 47, 98]] [71, 69, 84] 200 [abF] = true := by
  have g1 : getL [abF] crL = [] := by rw [get_a, if_neg (by decide)]
  have g2 : getL [abF] ccL = [] := by rw [get_a, if_neg (by decide)]
  have g3 : getL [abF] codeL = [] := by rw [get_a, if_neg (by decide)]
  have g4 : getL [abF] ctL = [abF.2] := by rw [get_a, if_pos (by decide)]
  have g5 : getL [abF] nameCL = [] := by rw [get_a, if_neg (by decide)]
  have k1 : keptL 200 [abF] = false := by unfold keptL hasL; rw [g1, g2]; rfl
  have k2 : codingL (allL [abF] codeL) = 0 := by unfold allL; rw [g3]; rfl
  have k3 : mediaL [abF] = [97, 47, 98] := by unfold mediaL; rw [g4]; decide
  have k4 : longL least [abF] = true := by unfold longL; rw [g5]
  have k5 : worthL [[97, 47, 98]] [97, 47, 98] = true := by decide
  have k6 : statB 200 = true := by decide
  unfold eligL
  rw [k1, k2, k3, k4, k5, k6]
  simp
theorem ok_told (v : List UInt8) (h : v.length ≤ 1000000) : fsOk [abF, (nameCL, v)] := by
  intro f hf
  rcases List.mem_cons.1 hf with rfl | hf
  · decide
  · rw [List.mem_singleton.1 hf]; exact ⟨(by decide : nameCL.length ≤ 1000000), h⟩

set_option maxRecDepth 100000 in
set_option maxHeartbeats 12800000 in
set_option linter.unusedSimpArgs false in
theorem walk (size_ least_ : Int) (w : World) (hw1 : (Lit.int .u32 size_).wf = true) (hw2 : (Lit.int .u32 least_).wf = true) :
    Calls Tryd.prog 13 #[.int .u32 size_, .int .u32 least_] w fun e w' => e = .returned (.bool true) ∧ Below w.heap.size w w' := by
  have hu : ∀ x : Int, (Lit.int .u32 x).wf = true → ∃ z : Nat, x = z ∧ z < 4294967296 := fun x hx => by
    simp [Lit.wf, IntKind.min, IntKind.max, IntKind.signed, IntKind.bits] at hx
    exact ⟨x.toNat, by omega, by omega⟩
  obtain ⟨sz, rfl, hsz⟩ := hu _ hw1
  obtain ⟨le, rfl, hle⟩ := hu _ hw2
  clear hu hw1 hw2
  obtain ⟨i0, hi0, hz0, hz1, hz2⟩ := info_parts infoFld
  have hd0 := fun W => dec_any sz (by omega) W
  have hd1 := fun W => dec_any le (by omega) W
  obtain ⟨s0, hs0⟩ : ∃ b : ByteArray, b = ⟨(udig sz).toArray⟩ := ⟨_, rfl⟩
  obtain ⟨s1, hs1⟩ : ∃ b : ByteArray, b = ⟨(udig le).toArray⟩ := ⟨_, rfl⟩
  simp only [← hs0] at hd0
  simp only [← hs1] at hd1
  have HS0 := hide hs0
  have HS1 := hide hs1
  clear hs0 hs1
  obtain ⟨gt, hgt⟩ : ∃ g, w.heap.size = g := ⟨_, rfl⟩
  obtain ⟨gc, hgc⟩ : ∃ g, gt + 1 = g := ⟨_, rfl⟩
  obtain ⟨gf, hgf⟩ : ∃ g, gc + 1 = g := ⟨_, rfl⟩
  have ra := rd_txt w ⟨#[97, 47, 98]⟩
  obtain ⟨wa, hwa⟩ : ∃ x, ((w.alloc (.cells #[.string ⟨#[97, 47, 98]⟩] 9)).alloc (.cells #[.slice none 0 0, .slice (some ⟨gt, 0, none⟩) 1 1, .int .i64 0, .int .i64 (le : Nat), .int .i64 0, .int .i64 0, .int .i64 0] 74)).alloc (.cells #[.string ⟨#[67, 111, 110, 116, 101, 110, 116, 45, 84, 121, 112, 101]⟩, .string ⟨#[65, 47, 66, 32, 59, 32, 99]⟩] 38) = x := ⟨_, rfl⟩
  have bC : Box wa gc [.slice none 0 0, .slice (some ⟨gt, 0, none⟩) 1 1, .int .i64 0, .int .i64 (le : Nat), .int .i64 0, .int .i64 0, .int .i64 0] := by
    have h1 := Box.new (w.alloc (.cells #[.string ⟨#[97, 47, 98]⟩] 9)) #[.slice none 0 0, .slice (some ⟨gt, 0, none⟩) 1 1, .int .i64 0, .int .i64 (le : Nat), .int .i64 0, .int .i64 0, .int .i64 0] 74
    have h2 := h1.below ((Below.refl _ _).alloc (Nat.le_refl _) (.cells #[.string ⟨#[67, 111, 110, 116, 101, 110, 116, 45, 84, 121, 112, 101]⟩, .string ⟨#[65, 47, 66, 32, 59, 32, 99]⟩] 38))
    rw [hwa] at h2
    simpa [hgt, hgc] using h2
  have rF : Rd wa wa.heap.size 2 (some ⟨gf, 0, none⟩) 1 (fcells [abF]) := by
    have h1 := rd_new ((w.alloc (.cells #[.string ⟨#[97, 47, 98]⟩] 9)).alloc (.cells #[.slice none 0 0, .slice (some ⟨gt, 0, none⟩) 1 1, .int .i64 0, .int .i64 (le : Nat), .int .i64 0, .int .i64 0, .int .i64 0] 74)) #[.string ⟨#[67, 111, 110, 116, 101, 110, 116, 45, 84, 121, 112, 101]⟩, .string ⟨#[65, 47, 66, 32, 59, 32, 99]⟩] 38 2 1 rfl
    rw [hwa] at h1
    have h2 : ((w.alloc (.cells #[.string ⟨#[97, 47, 98]⟩] 9)).alloc (.cells #[.slice none 0 0, .slice (some ⟨gt, 0, none⟩) 1 1, .int .i64 0, .int .i64 (le : Nat), .int .i64 0, .int .i64 0, .int .i64 0] 74)).heap.size = gf := by simp [hgt, hgc, hgf]
    rw [h2] at h1
    exact h1.mono (by rw [← hwa]; simp [hgt]; omega)
  have tA : Below w.heap.size w wa := by rw [← hwa]; exact (((Below.refl _ _).alloc (Nat.le_refl _) _).alloc (by simp) _).alloc (by simp; omega) _
  have rT : Rd wa wa.heap.size 1 (some ⟨gt, 0, none⟩) 1 (scells [[97, 47, 98]]) := by
    have h1 : Rd wa (w.heap.size + 1) 1 (some ⟨w.heap.size, 0, none⟩) 1 (scells [[97, 47, 98]]) := by rw [← hwa]; exact (ra.alloc (by simp) _).alloc (by simp) _
    rw [hgt] at h1
    exact h1.mono (by rw [← hwa]; simp [hgt])
  clear ra
  go_enter Tryd.func13, Tryd.ntmps13
  go_upto_region 3 with (fail)
  try rw [hwa]
  clear hwa
  have ho := own_new wa #[] 38 2 0 rfl (by unfold maxLen; omega) wa.heap.size (Nat.le_refl _)
  have hr := rF.alloc (Nat.le_refl _) (.cells #[] 38)
  have ta : Below wa.heap.size wa (wa.alloc (.cells #[] 38)) := (Below.refl _ _).alloc (Nat.le_refl _) _
  go_wp2_with (at_builtin; refine wpl_append _ rfl _ _ _ rfl wa.heap.size _ i0 _ 2 32 Tryd.underlying22 hi0 hz0 hz1 hz2 rfl (by omega) _ _ _ rfl _ _ _ _ _ rfl ho hr (fcells_one [abF]) (by unfold maxLen; omega) (by omega) ta.size ?_; intro v1 w4 hown1 hbel1 _; have hown2 : w4.ownsRow wa.heap.size 38 2 v1 1 (fcells [abF]) := hown1)
  refine (hd0 w4).mono ?_
  rintro e w5 ⟨rfl, k5⟩
  have t4 := (ta.trans hbel1)
  have t5 := t4.trans (k5.mono t4.size)
  have hown5 := own_below hown2 (k5.mono (Nat.le_refl _))
  clear ho hr hown1 hown2 hbel1 ta k5
  have rn := rd_new w5 #[.string ⟨#[99, 111, 110, 116, 101, 110, 116, 45, 108, 101, 110, 103, 116, 104]⟩, .string s0] 38 2 1 rfl
  have hown6 := own_below hown5 ((Below.refl _ _).alloc (Nat.le_refl _) (.cells #[.string ⟨#[99, 111, 110, 116, 101, 110, 116, 45, 108, 101, 110, 103, 116, 104]⟩, .string s0] 38))
  have t6 := t5.alloc t5.size (.cells #[.string ⟨#[99, 111, 110, 116, 101, 110, 116, 45, 108, 101, 110, 103, 116, 104]⟩, .string s0] 38)
  have hone : ∀ u ∈ (#[.string ⟨#[99, 111, 110, 116, 101, 110, 116, 45, 108, 101, 110, 103, 116, 104]⟩, .string s0] : Array Value).toList, u.oneCell' = true := by simp [Value.oneCell']
  go_upto_region 4 with (at_builtin; refine wpl_append _ rfl _ _ _ rfl wa.heap.size _ i0 _ 2 32 Tryd.underlying22 hi0 hz0 hz1 hz2 rfl (by omega) _ _ _ rfl _ _ _ _ _ rfl hown6 rn hone (by unfold maxLen; omega) (by omega) (by have := t5.size; simp; omega) ?_; intro v2 w70 hown7 hbel7 _)
  have hcat : fcells [abF] ++ [.string ⟨#[99, 111, 110, 116, 101, 110, 116, 45, 108, 101, 110, 103, 116, 104]⟩, .string s0] = fcells [abF, (nameCL, udig sz)] := by rw [HS0.out]; rfl
  rw [hcat] at hown7
  obtain ⟨A70, c70, rfl, -, -⟩ := own_shape hown7
  have r70 := Rd.of_own hown7
  have t7 := t6.trans hbel7
  replace rT := step_ rT t7
  replace rF := step_ rF t7
  replace bC := bC.below t7
  replace tA := tA.trans (t7.mono tA.size)
  clear hown7 hown6 hown5 rn hone hcat hbel7 t4 t5 t6 t7
  have ho := own_new w70 #[] 38 2 0 rfl (by unfold maxLen; omega) w70.heap.size (Nat.le_refl _)
  have hr := rF.alloc (Nat.le_refl _) (.cells #[] 38)
  have ta : Below w70.heap.size w70 (w70.alloc (.cells #[] 38)) := (Below.refl _ _).alloc (Nat.le_refl _) _
  go_wp2_with (at_builtin; refine wpl_append _ rfl _ _ _ rfl w70.heap.size _ i0 _ 2 32 Tryd.underlying22 hi0 hz0 hz1 hz2 rfl (by omega) _ _ _ rfl _ _ _ _ _ rfl ho hr (fcells_one [abF]) (by unfold maxLen; omega) (by omega) ta.size ?_; intro v1 w4 hown1 hbel1 _; have hown2 : w4.ownsRow w70.heap.size 38 2 v1 1 (fcells [abF]) := hown1)
  refine (hd1 w4).mono ?_
  rintro e w5 ⟨rfl, k5⟩
  have t4 := (ta.trans hbel1)
  have t5 := t4.trans (k5.mono t4.size)
  have hown5 := own_below hown2 (k5.mono (Nat.le_refl _))
  clear ho hr hown1 hown2 hbel1 ta k5
  have rn := rd_new w5 #[.string ⟨#[99, 111, 110, 116, 101, 110, 116, 45, 108, 101, 110, 103, 116, 104]⟩, .string s1] 38 2 1 rfl
  have hown6 := own_below hown5 ((Below.refl _ _).alloc (Nat.le_refl _) (.cells #[.string ⟨#[99, 111, 110, 116, 101, 110, 116, 45, 108, 101, 110, 103, 116, 104]⟩, .string s1] 38))
  have t6 := t5.alloc t5.size (.cells #[.string ⟨#[99, 111, 110, 116, 101, 110, 116, 45, 108, 101, 110, 103, 116, 104]⟩, .string s1] 38)
  have hone : ∀ u ∈ (#[.string ⟨#[99, 111, 110, 116, 101, 110, 116, 45, 108, 101, 110, 103, 116, 104]⟩, .string s1] : Array Value).toList, u.oneCell' = true := by simp [Value.oneCell']
  go_upto_region 5 with (at_builtin; refine wpl_append _ rfl _ _ _ rfl w70.heap.size _ i0 _ 2 32 Tryd.underlying22 hi0 hz0 hz1 hz2 rfl (by omega) _ _ _ rfl _ _ _ _ _ rfl hown6 rn hone (by unfold maxLen; omega) (by omega) (by have := t5.size; simp; omega) ?_; intro v2 w71 hown7 hbel7 _)
  have hcat : fcells [abF] ++ [.string ⟨#[99, 111, 110, 116, 101, 110, 116, 45, 108, 101, 110, 103, 116, 104]⟩, .string s1] = fcells [abF, (nameCL, udig le)] := by rw [HS1.out]; rfl
  rw [hcat] at hown7
  obtain ⟨A71, c71, rfl, -, -⟩ := own_shape hown7
  have r71 := Rd.of_own hown7
  have t7 := t6.trans hbel7
  replace rT := step_ rT t7
  replace rF := step_ rF t7
  replace bC := bC.below t7
  replace tA := tA.trans (t7.mono tA.size)
  replace r70 := step_ r70 t7
  clear hown7 hown6 hown5 rn hone hcat hbel7 t4 t5 t6 t7 hd0 hd1 hi0 hz0 hz1 hz2
  have hts : ∀ t ∈ ([[97, 47, 98]] : List (List UInt8)), t.length ≤ 1000000 := by intro t ht; rw [List.mem_singleton.1 ht]; decide
  have u0 := udig_small sz (by omega)
  have u1 := udig_small le (by omega)
  obtain ⟨gx, hgx⟩ : ∃ g, w71.heap.size = g := ⟨_, rfl⟩
  rw [hgx] at r70 r71 rF rT
  have q0 := fun (W : World) (hg : gx ≤ W.heap.size) (r : Rd W gx 2 A70 2 (fcells [abF, (nameCL, udig sz)])) (rt : Rd W gx 1 (some ⟨gt, 0, none⟩) 1 (scells [[97, 47, 98]])) => elig_any none (some ⟨gt, 0, none⟩) 0 0 1 1 0 (le : Nat) 0 0 0 0 200 ⟨#[]⟩ ⟨#[71, 69, 84]⟩ A70 2 c70 _ _ _ W r rt hg (by omega) (by omega) (ok_told _ (by omega)) hts
  have q1 := fun (W : World) (hg : gx ≤ W.heap.size) (r : Rd W gx 2 A71 2 (fcells [abF, (nameCL, udig le)])) (rt : Rd W gx 1 (some ⟨gt, 0, none⟩) 1 (scells [[97, 47, 98]])) => elig_any none (some ⟨gt, 0, none⟩) 0 0 1 1 0 (le : Nat) 0 0 0 0 200 ⟨#[]⟩ ⟨#[71, 69, 84]⟩ A71 2 c71 _ _ _ W r rt hg (by omega) (by omega) (ok_told _ (by omega)) hts
  have q2 := fun (W : World) (hg : gx ≤ W.heap.size) (r : Rd W gx 2 (some ⟨gf, 0, none⟩) 1 (fcells [abF])) (rt : Rd W gx 1 (some ⟨gt, 0, none⟩) 1 (scells [[97, 47, 98]])) => elig_any none (some ⟨gt, 0, none⟩) 0 0 1 1 0 (le : Nat) 0 0 0 0 200 ⟨#[]⟩ ⟨#[71, 69, 84]⟩ (some ⟨gf, 0, none⟩) 1 1 _ _ _ W r rt hg (by omega) (by omega) (by intro f hf; rw [List.mem_singleton.1 hf]; decide) hts
  have em : (⟨#[71, 69, 84]⟩ : ByteArray).data.toList = [71, 69, 84] := rfl
  simp only [em, elig_told le sz hsz] at q0
  simp only [em, elig_told le le hle, Nat.le_refl, decide_true] at q1
  simp only [em, elig_none] at q2
  obtain ⟨d, hd⟩ : ∃ d, decide (le ≤ sz) = d := ⟨_, rfl⟩
  simp only [hd] at q0
  have hd2 : decide ((le : Int) ≤ (sz : Int)) = d := by rw [← hd]; exact decide_eq_decide.2 (by omega)
  have hdd : (d == d) = true := beq_self_eq_true _
  clear em hts u0 u1 HS0 HS1
  go_upto_region 6 with (fail)
  have bx := Box.new w71 #[.int .i64 0, .int .i64 200, .string ⟨#[]⟩, .slice A70 2 c70] 41
  have ka := (Below.refl w71.heap.size w71).alloc (Nat.le_refl _) (.cells #[.int .i64 0, .int .i64 200, .string ⟨#[]⟩, .slice A70 2 c70] 41)
  have hgcl := bC.1
  replace bC := bC.below ka
  replace tA := tA.trans (ka.mono tA.size)
  rw [hgx] at ka bx hgcl
  have hgw : w.heap.size ≤ gx := by omega
  have kx := ka.size
  replace r70 := r70.below ka
  replace r71 := r71.below ka
  replace rF := rF.below ka
  replace rT := rT.below ka
  have hgcx : gc ≠ gx := by omega
  try rw [hgx]
  generalize w71.alloc _ = wb at bx r70 r71 rF rT bC tA ka kx ⊢
  rw [hgx] at kx
  clear hgx ka hgcl
  have d0 := (bC.2 0 _ rfl).1
  have d1 := (bC.2 1 _ rfl).1
  have d2 := (bC.2 2 _ rfl).1
  have d3 := (bC.2 3 _ rfl).1
  have d4 := (bC.2 4 _ rfl).1
  have d5 := (bC.2 5 _ rfl).1
  have d6 := (bC.2 6 _ rfl).1
  obtain ⟨e0, e1, e2, e3⟩ := bx.four
  go_wp2_with fail
  refine (q0 wb kx r70 rT).mono ?_
  rintro e w8 ⟨rfl, k8⟩
  clear d0 d1 d2 d3 d4 d5 d6 e0 e1 e2 e3
  replace bC := bC.below k8
  replace bx := bx.below k8
  replace k8 := k8
  replace r71 := r71.below (k8.mono kx)
  replace rF := rF.below (k8.mono kx)
  replace rT := rT.below (k8.mono kx)
  replace tA := tA.trans (k8.mono tA.size)
  replace kx := Nat.le_trans kx k8.size
  clear k8
  obtain ⟨e0, e1, e2, e3⟩ := bx.four
  obtain ⟨f0, f1, f2, f3⟩ := bx.free4
  go_upto_region 8 with (fail)
  clear e0 e1 e2 e3 f0 f1 f2 f3
  replace bx := bx.set (k := 3) (x := (.slice A71 2 c71)) (by simp)
  replace bC := bC.far (k := 3) (x := (.slice A71 2 c71)) hgcx
  replace r71 := r71.far (k := 3) (x := (.slice A71 2 c71)) (Nat.le_refl gx)
  replace rF := rF.far (k := 3) (x := (.slice A71 2 c71)) (Nat.le_refl gx)
  replace rT := rT.far (k := 3) (x := (.slice A71 2 c71)) (Nat.le_refl gx)
  replace tA := tA.setCell (show w.heap.size ≤ (⟨gx, 3, none⟩ : Addr).block from hgw) (.slice A71 2 c71)
  have kz : gx ≤ (w8.setCell ⟨gx, 3, none⟩ (.slice A71 2 c71)).heap.size := by simpa [World.setCell] using kx
  replace kx := kz
  clear kz
  generalize w8.setCell ⟨gx, 3, none⟩ (.slice A71 2 c71) = w9 at bx bC r71 rF rT tA kx ⊢
  replace bx : Box w9 gx [.int .i64 0, .int .i64 200, .string ⟨#[]⟩, (.slice A71 2 c71)] := bx
  have d0 := (bC.2 0 _ rfl).1
  have d1 := (bC.2 1 _ rfl).1
  have d2 := (bC.2 2 _ rfl).1
  have d3 := (bC.2 3 _ rfl).1
  have d4 := (bC.2 4 _ rfl).1
  have d5 := (bC.2 5 _ rfl).1
  have d6 := (bC.2 6 _ rfl).1
  obtain ⟨e0, e1, e2, e3⟩ := bx.four
  go_wp2_with fail
  refine (q1 w9 kx r71 rT).mono ?_
  rintro e w10 ⟨rfl, k8⟩
  clear d0 d1 d2 d3 d4 d5 d6 e0 e1 e2 e3
  replace bC := bC.below k8
  replace bx := bx.below k8
  replace k8 := k8
  replace r71 := r71.below (k8.mono kx)
  replace rF := rF.below (k8.mono kx)
  replace rT := rT.below (k8.mono kx)
  replace tA := tA.trans (k8.mono tA.size)
  replace kx := Nat.le_trans kx k8.size
  clear k8
  obtain ⟨e0, e1, e2, e3⟩ := bx.four
  obtain ⟨f0, f1, f2, f3⟩ := bx.free4
  go_upto_region 10 with (fail)
  clear e0 e1 e2 e3 f0 f1 f2 f3
  replace bx := bx.set (k := 3) (x := (.slice (some ⟨gf, 0, none⟩) 1 1)) (by simp)
  replace bC := bC.far (k := 3) (x := (.slice (some ⟨gf, 0, none⟩) 1 1)) hgcx
  replace r71 := r71.far (k := 3) (x := (.slice (some ⟨gf, 0, none⟩) 1 1)) (Nat.le_refl gx)
  replace rF := rF.far (k := 3) (x := (.slice (some ⟨gf, 0, none⟩) 1 1)) (Nat.le_refl gx)
  replace rT := rT.far (k := 3) (x := (.slice (some ⟨gf, 0, none⟩) 1 1)) (Nat.le_refl gx)
  replace tA := tA.setCell (show w.heap.size ≤ (⟨gx, 3, none⟩ : Addr).block from hgw) (.slice (some ⟨gf, 0, none⟩) 1 1)
  have kz : gx ≤ (w10.setCell ⟨gx, 3, none⟩ (.slice (some ⟨gf, 0, none⟩) 1 1)).heap.size := by simpa [World.setCell] using kx
  replace kx := kz
  clear kz
  generalize w10.setCell ⟨gx, 3, none⟩ (.slice (some ⟨gf, 0, none⟩) 1 1) = w11 at bx bC r71 rF rT tA kx ⊢
  replace bx : Box w11 gx [.int .i64 0, .int .i64 200, .string ⟨#[]⟩, (.slice (some ⟨gf, 0, none⟩) 1 1)] := bx
  have qA := fun (W : World) => ans21_any W
  go_wp2_with fail
  refine (qA w11).mono ?_
  rintro e w12 ⟨rfl, k8⟩
  replace bC := bC.below k8
  replace bx := bx.below k8
  replace rF := rF.below (k8.mono kx)
  replace rT := rT.below (k8.mono kx)
  replace tA := tA.trans (k8.mono tA.size)
  replace kx := Nat.le_trans kx k8.size
  clear k8
  have d0 := (bC.2 0 _ rfl).1
  have d1 := (bC.2 1 _ rfl).1
  have d2 := (bC.2 2 _ rfl).1
  have d3 := (bC.2 3 _ rfl).1
  have d4 := (bC.2 4 _ rfl).1
  have d5 := (bC.2 5 _ rfl).1
  have d6 := (bC.2 6 _ rfl).1
  obtain ⟨e0, e1, e2, e3⟩ := bx.four
  go_wp2_with fail
  refine (q2 w12 kx rF rT).mono ?_
  rintro e w13 ⟨rfl, k8⟩
  go_wp2
  go_ret
  exact ⟨rfl, tA.trans (k8.mono tA.size)⟩
/-- The settled world that the card begins from. -/
noncomputable def laidWorld (os : Os) : World := laidWorld7 os
end Go.Proofs.YtgdjlmpfjmakkaaDoor.PolicySizeP
