/- The reference's Body of a length, Decode of no coding. -/
import Derived.Test.YtijlaclngibekaaGreatDoorKRefG
import Derived.Test.YtijlaclngibekaaGreatDoorKJoinG
import Derived.Test.YtijlaclngibekaaGreatDoorKRingG
import Derived.Test.YtijlaclngibekaaGreatDoorKBoxG
namespace Go.Proofs.YtijlaclngibekaaGreatDoor
open Go.RowKit
set_option linter.unusedVariables false
set_option linter.unusedSimpArgs false

set_option maxRecDepth 100000 in
set_option maxHeartbeats 800000 in
theorem refbody_len (b o n c B : Nat) (bs : List UInt8) (w : World) (h : Rd w B 1 (some ⟨b, o, none⟩) n (bcells bs)) (hB : B ≤ w.heap.size) (hn1 : 1 ≤ n) (hn : n ≤ 1000000) (hnc : n ≤ c) :
    Calls Tryz.prog 21 #[.agg #[.int .i64 1, .int .i64 n], .slice (some ⟨b, o, none⟩) n c, .bool true] w fun e w' => ∃ v, e = .returned (.tuple #[v, .int .i64 n, .int .i64 0]) ∧ w'.ownsRow w.heap.size 5 1 v n (bcells bs) ∧ Below w.heap.size w w' := by
  obtain ⟨i0, hi0, hz0, hz1, hz2⟩ := info_parts infoRB
  have i1 : ¬ ((n : Int) < 0) := by omega
  have i2 : (n : Int) ≤ (c : Int) := by omega
  have bx := Box.new w #[.int .i64 1, .int .i64 n] 67
  have ta : Below w.heap.size w (w.alloc (.cells #[.int .i64 1, .int .i64 n] 67)) := (Below.refl _ _).alloc (Nat.le_refl _) _
  obtain ⟨g, hg⟩ : ∃ g, w.heap.size = g := ⟨_, rfl⟩
  rw [hg] at bx ta hB ⊢
  have hr1 := h.below (ta.mono (hB))
  have hgw : g ≤ (w.alloc (.cells #[.int .i64 1, .int .i64 n] 67)).heap.size := by rw [← hg]; exact hg ▸ ta.size
  clear h
  go_enter Tryz.func21, Tryz.ntmps21
  go_upto_region 1 with (fail)
  generalize w.alloc _ = w1 at bx ta hr1 hgw ⊢
  obtain ⟨k0, k1⟩ := bx.two
  have hb0 := own_new w1 #[] 5 1 0 rfl (by simp [maxLen]) g hgw
  have hr' : Rd (w1.alloc (.cells #[] 5)) B 1 (some ⟨b, o, none⟩) n (bcells bs) := hr1.alloc (Nat.le_trans hB hgw) _
  have hone' : ∀ u ∈ bcells bs, u.oneCell' = true := bcells_one bs
  have hs1 : B ≤ (w1.alloc (.cells #[] 5)).heap.size := by simp; omega
  have hs2 : g ≤ (w1.alloc (.cells #[] 5)).heap.size := by simp; omega
  go_wp2_with (at_builtin; refine wpl_append _ rfl _ _ _ rfl g 5 i0 _ 1 1 Tryz.underlying35 hi0 hz0 hz1 hz2 rfl (by omega) _ _ _ rfl _ _ _ _ _ rfl hb0 hr' hone' (by simp [maxLen]; omega) (by first | exact hs1 | omega) (by first | exact hs2 | (simp; omega)) ?_; intro v1 w2 hown1 hbel1 _)
  go_ret3
  exact ⟨_, rfl, by simpa using hown1, (ta.alloc hgw _).trans hbel1⟩
set_option maxRecDepth 100000 in
set_option maxHeartbeats 800000 in
theorem refdecode0 (b o n c B : Nat) (bs : List UInt8) (w : World) (h : Rd w B 1 (some ⟨b, o, none⟩) n (bcells bs)) (hB : B ≤ w.heap.size) (hn1 : 1 ≤ n) (hn : n ≤ 1000000) (hnc : n ≤ c) :
    Calls Tryz.prog 23 #[.int .i64 0, .slice (some ⟨b, o, none⟩) n c, .int .i64 16777216] w fun e w' => ∃ v, e = .returned (.tuple #[v, .int .i64 8]) ∧ w'.ownsRow w.heap.size 5 1 v n (bcells bs) ∧ Below w.heap.size w w' := by
  obtain ⟨i0, hi0, hz0, hz1, hz2⟩ := info_parts infoRB
  have i1 : ¬ (16777216 < (n : Int)) := by omega
  have ta : Below w.heap.size w (w.alloc (.cells #[] 5)) := (Below.refl _ _).alloc (Nat.le_refl _) _
  have hb0 := own_new w #[] 5 1 0 rfl (by simp [maxLen]) w.heap.size (Nat.le_refl _)
  have hr' : Rd (w.alloc (.cells #[] 5)) B 1 (some ⟨b, o, none⟩) n (bcells bs) := h.alloc hB _
  have hone' : ∀ u ∈ bcells bs, u.oneCell' = true := bcells_one bs
  go_enter Tryz.func23, Tryz.ntmps23
  go_wp2_with (at_builtin; refine wpl_append _ rfl _ _ _ rfl w.heap.size 5 i0 _ 1 1 Tryz.underlying35 hi0 hz0 hz1 hz2 rfl (by omega) _ _ _ rfl _ _ _ _ _ rfl hb0 hr' hone' (by simp [maxLen]; omega) (by omega) (by simp) ?_; intro v1 w1 hown1 hbel1 _)
  go_ret2
  exact ⟨_, rfl, by simpa using hown1, ta.trans hbel1⟩
theorem Box.low' {w w' : World} {g B : Nat} {cs : List Value} (h : Box w g cs) (hb : Below B w w') (hg : g < B) : Box w' g cs :=
  ⟨Nat.lt_of_lt_of_le h.1 hb.size, fun j u hj => ⟨(hb.cell (p := ⟨g, j, none⟩) hg).trans (h.2 j u hj).1, (World.frozen?_of_block (a := ⟨g, j, none⟩) (hb.block g hg)).trans (h.2 j u hj).2⟩⟩
theorem infoTd : (Tryz.prog.info? 48).map (fun i => (i.zero, i.size, i.bytes)) = some (some (.agg #[.int .i64 0, .int .i64 0, .string ⟨#[]⟩, .slice none 0 0, .slice none 0 0, .slice none 0 0, .bool false, .bool false, .bool false, .bool false]), 10, 112) := by kernel_rfl
theorem fs504_ok : fsOk fs504 := by unfold fsOk; decide +kernel
theorem frV16 : frV (1, 16, 0) = .tuple #[.agg #[.int .i64 1, .int .i64 16], .int .i64 0] := rfl
theorem fr504 : frResp ⟨#[71, 69, 84]⟩ fs504 1 504 = (1, 16, 0) := by decide +kernel
theorem cod504 : codingL (allL fs504 codeL) = 0 := by decide +kernel
theorem end504 : endN (h504 ++ b504) = 97 ∧ endE (h504 ++ b504) = 0 := by constructor <;> decide +kernel
theorem bcells_app (a b : List UInt8) : bcells (a ++ b) = bcells a ++ bcells b := by simp [bcells]
set_option maxRecDepth 100000 in
set_option maxHeartbeats 3200000 in
/-- What was read of the gateway's own answer 504. -/
theorem refread504 (m b c cm : Nat) (w : World) (h : Rd w w.heap.size 1 (some ⟨b, 0, none⟩) 113 (bcells (h504 ++ b504))) (hm : w.cell? ⟨m, 0, none⟩ = some (.string ⟨#[71, 69, 84]⟩)) (hml : m < w.heap.size) (hc : 113 ≤ c) :
    Calls Tryz.prog 10 #[.slice (some ⟨m, 0, none⟩) 1 cm, .slice (some ⟨b, 0, none⟩) 113 c, .bool true] w fun e w' => ∃ o co R cr, e = .returned (.tuple #[.slice (some ⟨o, 0, none⟩) 1 co, .slice R 0 cr]) ∧ w'.cell? ⟨o, 1, none⟩ = some (.int .i64 504) ∧ w'.cell? ⟨o, 6, none⟩ = some (.bool true) ∧ Below w.heap.size w w' := by
  obtain ⟨g, hg⟩ : ∃ g, w.heap.size = g := ⟨_, rfl⟩
  have q1 := refend_any (some ⟨b, 0, none⟩) 113 c _ _ w h (by omega)
  rw [end504.1, end504.2] at q1
  have hc1 : ¬ c = 97 := by omega
  have hc2 : (97 : Int) ≤ (c : Int) := by omega
  have hh : Rd w w.heap.size 1 (some ⟨b, 0, none⟩) 97 (bcells h504) := by
    have := h.front (m := 97) (by omega)
    have e : (bcells (h504 ++ b504)).take (97 * 1) = bcells h504 := by rw [bcells_app]; exact List.take_left' (by rw [bcells_length]; exact h504_len)
    rwa [e] at this
  have hb : Rd w w.heap.size 1 (some ⟨b, 97, none⟩) 16 (bcells b504) := by
    have := h.cut (k := 97) (m := 113) (cap := c) (by omega) (by omega) hc
    rw [if_neg hc1] at this
    have e : ((bcells (h504 ++ b504)).drop (97 * 1)).take ((113 - 97) * 1) = bcells b504 := by rw [bcells_app]; rw [List.drop_left' (by rw [bcells_length]; exact h504_len)]; rfl
    rw [e] at this
    exact this
  have q2 := refresp504 (some ⟨b, 0, none⟩) 97 c w hh
  go_enter Tryz.func10, Tryz.ntmps10
  go_wp2_with fail
  go_loopw [1, 8, 9] (fun x o i W => i = .int .i64 0 ∧ o = .slice none 0 0 ∧ x = .slice (some ⟨b, 0, none⟩) 113 c ∧ w = W ∨ i = .int .i64 1 ∧ ∃ o' co R cr, o = .slice (some ⟨o', 0, none⟩) 1 co ∧ x = .slice R 0 cr ∧ W.cell? ⟨o', 1, none⟩ = some (.int .i64 504) ∧ W.cell? ⟨o', 6, none⟩ = some (.bool true) ∧ Below g w W) (fun _ _ i _ => 1 - (intOf i).toNat)
  case atStart => exact .inl ⟨rfl, rfl, rfl, rfl⟩
  case round =>
    rcases hrel with ⟨rfl, rfl, rfl, rfl⟩ | ⟨rfl, o', co, R, cr, rfl, rfl, e1, e2, bb⟩
    · go_wp2_with fail
      refine q1.mono ?_
      rintro e w1 ⟨rfl, hw1⟩
      obtain rfl := hw1.symm
      go_wp2_with fail
      refine q2.mono ?_
      rintro e w2 ⟨A2, c2, rfl, r2, b2⟩
      go_upto_region 12 with (fail)
      have bx3 := Box.new w2 #[.int .i64 1, .int .i64 504, .string ⟨#[71, 97, 116, 101, 119, 97, 121, 32, 84, 105, 109, 101, 111, 117, 116]⟩, .slice A2 3 c2] 46
      have t3 : Below w2.heap.size w2 (w2.alloc (.cells #[.int .i64 1, .int .i64 504, .string ⟨#[71, 97, 116, 101, 119, 97, 121, 32, 84, 105, 109, 101, 111, 117, 116]⟩, .slice A2 3 c2] 46)) := (Below.refl _ _).alloc (Nat.le_refl _) _
      have r3 := r2.below t3
      have t13 : Below g w _ := hg ▸ b2.trans (t3.mono b2.size)
      have hz2 := b2.size
      have hz3 := t3.size
      have hs3 := bx3.1
      obtain ⟨g3, hg3⟩ : ∃ g3, w2.heap.size = g3 := ⟨_, rfl⟩
      rw [hg3] at bx3 r3 hs3 hz2
      generalize w2.alloc _ = w3 at bx3 t3 r3 t13 hz3 hs3 ⊢
      rw [hg3] at hz3 ⊢
      have hm3 : w3.cell? ⟨m, 0, none⟩ = some (.string ⟨#[71, 69, 84]⟩) := (t13.cell (p := ⟨m, 0, none⟩) (hg ▸ hml)).trans hm
      have hb3 : Rd w3 g 1 (some ⟨b, 97, none⟩) 16 (bcells b504) := (hg ▸ hb).below t13
      have hgw3 : g ≤ w3.heap.size := by omega
      clear q1 q2 t3 hg3 b2 r2
      go_cut [11, 13] from 48 to 56 (fun v p wx => v = .int .i64 0 ∧ ∃ f, p = .pointer (some ⟨f, 0, none⟩) ∧ Box wx f [.int .i64 1, .int .i64 16] ∧ w3.heap.size ≤ f ∧ Below w3.heap.size w3 wx)
      case first =>
        have Q := fun (W : World) (b : Below w3.heap.size w3 W) => refresp_any ⟨#[71, 69, 84]⟩ ⟨#[71, 97, 116, 101, 119, 97, 121, 32, 84, 105, 109, 101, 111, 117, 116]⟩ 1 504 A2 3 c2 g3 fs504 W (r3.below (b.mono (Nat.le_of_lt hs3))) (Nat.le_trans (Nat.le_of_lt hs3) b.size) (by omega) fs504_ok
        simp only [fr504, frV16] at Q
        have MK : ∀ W, Below w3.heap.size w3 W → W.cell? ⟨m, 0, none⟩ = some (.string ⟨#[71, 69, 84]⟩) ∧ W.cell? ⟨g3, 0, none⟩ = some (.int .i64 1) ∧ W.cell? ⟨g3, 1, none⟩ = some (.int .i64 504) ∧ W.cell? ⟨g3, 2, none⟩ = some (.string ⟨#[71, 97, 116, 101, 119, 97, 121, 32, 84, 105, 109, 101, 111, 117, 116]⟩) ∧ W.cell? ⟨g3, 3, none⟩ = some (.slice A2 3 c2) := fun W bW => by
          have bxW := bx3.below bW
          exact ⟨(bW.cell (p := ⟨m, 0, none⟩) (show m < w3.heap.size by omega)).trans hm3, (Box.four bxW).1, (Box.four bxW).2.1, (Box.four bxW).2.2.1, (Box.four bxW).2.2.2⟩
        obtain ⟨k0, k1, k2, k3⟩ := Box.four bx3
        refine CalmP.hideN (fun K0 hQ => ?_)
        refine wp_region_held_drew (S := (fun W : World => (W.cell? ⟨m, 0, none⟩ = some (.string ⟨#[71, 69, 84]⟩) ∧ W.cell? ⟨g3, 0, none⟩ = some (.int .i64 1) ∧ W.cell? ⟨g3, 1, none⟩ = some (.int .i64 504) ∧ W.cell? ⟨g3, 2, none⟩ = some (.string ⟨#[71, 97, 116, 101, 119, 97, 121, 32, 84, 105, 109, 101, 111, 117, 116]⟩) ∧ W.cell? ⟨g3, 3, none⟩ = some (.slice A2 3 c2)))) (by kernel_rfl) ⟨hm3, k0, k1, k2, k3⟩ (fun hHeld => ?_)
        refine wpAnyH_take (i := 0) (v := ?_) rfl (by kernel_rfl) (by kernel_rfl) (by kernel_rfl) CalmP.onlyN_panic (Or.inl ⟨by kernel_rfl, ?_⟩) (by assumption) ?_
        rotate_left
        · (intro w_ hSw; go_simp; try with_reducible rfl)
        try simp only [List.getElem_toArray, List.getElem_cons_succ, List.getElem_cons_zero, Act.put, List.setIfInBounds_toArray, List.set_cons_zero, List.set_cons_succ]
        refine wpAnyH_take (i := 1) (v := ?_) rfl (by kernel_rfl) (by kernel_rfl) (by kernel_rfl) CalmP.onlyN_panic (Or.inl ⟨by kernel_rfl, ?_⟩) (by assumption) ?_
        rotate_left
        · (intro w_ hSw; go_simp; try with_reducible rfl)
        try simp only [List.getElem_toArray, List.getElem_cons_succ, List.getElem_cons_zero, Act.put, List.setIfInBounds_toArray, List.set_cons_zero, List.set_cons_succ]
        refine wpAnyH_take (i := 2) (v := ?_) rfl (by kernel_rfl) (by kernel_rfl) (by kernel_rfl) CalmP.onlyN_panic (Or.inl ⟨by kernel_rfl, ?_⟩) (by assumption) ?_
        rotate_left
        · (intro w_ hSw; go_simp; try with_reducible rfl)
        try simp only [List.getElem_toArray, List.getElem_cons_succ, List.getElem_cons_zero, Act.put, List.setIfInBounds_toArray, List.set_cons_zero, List.set_cons_succ]
        refine wpAnyH_take (i := 3) (v := ?_) rfl (by kernel_rfl) (by kernel_rfl) (by kernel_rfl) CalmP.onlyN_panic (Or.inl ⟨by kernel_rfl, ?_⟩) (by assumption) ?_
        rotate_left
        · (intro w_ hSw; go_simp; try with_reducible rfl)
        try simp only [List.getElem_toArray, List.getElem_cons_succ, List.getElem_cons_zero, Act.put, List.setIfInBounds_toArray, List.set_cons_zero, List.set_cons_succ]
        refine wpAnyH_take (i := 4) (v := ?_) rfl (by kernel_rfl) (by kernel_rfl) (by kernel_rfl) CalmP.onlyN_panic (Or.inl ⟨by kernel_rfl, ?_⟩) (by assumption) ?_
        rotate_left
        · (intro w_ hSw; go_simp; try with_reducible rfl)
        try simp only [List.getElem_toArray, List.getElem_cons_succ, List.getElem_cons_zero, Act.put, List.setIfInBounds_toArray, List.set_cons_zero, List.set_cons_succ]
        refine wpAnyH_ready (rs := [5, 9]) (by kernel_rfl) (by simp) ?_
        refine AllReadyH.cons rfl (fun K_ hK => ?_) (AllReadyH.cons rfl (fun K_ hK => ?_) (AllReadyH.nil))
        · go_simp
          refine (Q _ (below_drewN (k := 1) (Below.refl _ _))).mono ?_
          rintro e w4 ⟨rfl, b4⟩
          have b4' : Below w3.heap.size w3 w4 := (below_drewN (k := 1) (Below.refl _ _)).trans b4
          refine hK.out _ _ (MK w4 b4') (fun hHeld => ?_)
          clear hK K_
          try simp only [List.getElem_toArray, List.getElem_cons_succ, List.getElem_cons_zero, Act.put, List.setIfInBounds_toArray, List.set_cons_zero, List.set_cons_succ]
          refine wpAnyH_take (i := 6) (v := ?_) rfl (by kernel_rfl) (by kernel_rfl) (by kernel_rfl) CalmP.onlyN_panic (Or.inl ⟨by kernel_rfl, ?_⟩) (by assumption) ?_
          rotate_left
          · (intro w_ hSw; go_simp; try with_reducible rfl)
          try simp only [List.getElem_toArray, List.getElem_cons_succ, List.getElem_cons_zero, Act.put, List.setIfInBounds_toArray, List.set_cons_zero, List.set_cons_succ]
          refine wpAnyH_take (i := 7) (v := ?_) rfl (by kernel_rfl) (by kernel_rfl) (by kernel_rfl) CalmP.onlyN_panic (Or.inl ⟨by kernel_rfl, ?_⟩) (by assumption) ?_
          rotate_left
          · (intro w_ hSw; go_simp; try with_reducible rfl)
          try simp only [List.getElem_toArray, List.getElem_cons_succ, List.getElem_cons_zero, Act.put, List.setIfInBounds_toArray, List.set_cons_zero, List.set_cons_succ]
          refine wpAnyH_take (i := 8) (v := ?_) rfl (by kernel_rfl) (by kernel_rfl) (by kernel_rfl) CalmP.onlyN_panic (Or.inl ⟨by kernel_rfl, ?_⟩) (by assumption) ?_
          rotate_left
          · (intro w_ hSw; go_simp; try with_reducible rfl)
          try simp only [List.getElem_toArray, List.getElem_cons_succ, List.getElem_cons_zero, Act.put, List.setIfInBounds_toArray, List.set_cons_zero, List.set_cons_succ]
          have bn := Box.new w4 #[.int .i64 0, .int .i64 0] 67
          have b5 : Below w4.heap.size w4 (w4.alloc (.cells #[.int .i64 0, .int .i64 0] 67)) := (Below.refl _ _).alloc (Nat.le_refl _) _
          have b45 := b4'.trans (b5.mono b4'.size)
          obtain ⟨f, hf⟩ : ∃ f, w4.heap.size = f := ⟨_, rfl⟩
          have hlf : w3.heap.size ≤ f := hf ▸ b4'.size
          rw [hf] at bn
          refine wpAnyH_ready (rs := [9]) (by kernel_rfl) (by simp) ?_
          refine AllReadyH.cons rfl (fun K_ hK => ?_) (AllReadyH.nil)
          go_simp
          refine hK.out _ _ (MK _ b45) (fun hHeld => ?_)
          clear hK K_
          try simp only [List.getElem_toArray, List.getElem_cons_succ, List.getElem_cons_zero, Act.put, List.setIfInBounds_toArray, List.set_cons_zero, List.set_cons_succ]
          generalize w4.alloc (.cells #[.int .i64 0, .int .i64 0] 67) = w5 at bn b45 ⊢
          have bn2 := bn.fill2 (.int .i64 1) (.int .i64 16)
          have b6 := below_fill2 b45 hlf (.int .i64 1) (.int .i64 16)
          obtain ⟨f0, f1⟩ := bn.two
          obtain ⟨ff0, ff1⟩ := bn.free2
          have hfl := bn.1
          clear hf
          refine wpAnyH_ready (rs := [10]) (by kernel_rfl) (by simp) ?_
          refine AllReadyH.cons rfl (fun K_ hK => ?_) (AllReadyH.nil)
          go_simp
          refine hK.out _ _ (MK _ b6) (fun hHeld => ?_)
          clear hK K_
          try simp only [List.getElem_toArray, List.getElem_cons_succ, List.getElem_cons_zero, Act.put, List.setIfInBounds_toArray, List.set_cons_zero, List.set_cons_succ]
          refine wpAnyH_take (i := 11) (v := ?_) rfl (by kernel_rfl) (by kernel_rfl) (by kernel_rfl) CalmP.onlyN_panic (Or.inl ⟨by kernel_rfl, ?_⟩) (by assumption) ?_
          rotate_left
          · (intro w_ hSw; go_simp; try with_reducible rfl)
          try simp only [List.getElem_toArray, List.getElem_cons_succ, List.getElem_cons_zero, Act.put, List.setIfInBounds_toArray, List.set_cons_zero, List.set_cons_succ]
          refine wpAnyH_done (by kernel_rfl) ?_ _
          refine CalmP.onlyN_here (hQ.out _ _ ?_)
          clear hQ K0
          go_wp2_with fail
          go_meet
          exact ⟨rfl, f, rfl, bn2, hlf, b6⟩
        · go_simp
          obtain ⟨f, hf⟩ : ∃ f, w3.heap.size = f := ⟨_, rfl⟩
          have bn : Box (w3.alloc (.cells #[.int .i64 0, .int .i64 0] 67)).drew f [.int .i64 0, .int .i64 0] := by
            have := (Box.new w3 #[.int .i64 0, .int .i64 0] 67).below (below_drewN (k := 1) (Below.refl _ _))
            rw [hf] at this
            exact this
          have b4 : Below w3.heap.size w3 (w3.alloc (.cells #[.int .i64 0, .int .i64 0] 67)).drew := below_drewN (k := 1) ((Below.refl _ _).alloc (Nat.le_refl _) _)
          refine hK.out _ _ (MK _ b4) (fun hHeld => ?_)
          clear hK K_
          try simp only [List.getElem_toArray, List.getElem_cons_succ, List.getElem_cons_zero, Act.put, List.setIfInBounds_toArray, List.set_cons_zero, List.set_cons_succ]
          have hlf : w3.heap.size ≤ f := Nat.le_of_eq hf
          generalize (w3.alloc (.cells #[.int .i64 0, .int .i64 0] 67)).drew = w4 at bn b4 ⊢
          try rw [hf]
          clear hf
          refine wpAnyH_ready (rs := [5]) (by kernel_rfl) (by simp) ?_
          refine AllReadyH.cons rfl (fun K_ hK => ?_) (AllReadyH.nil)
          go_simp
          refine (Q w4 b4).mono ?_
          rintro e w5 ⟨rfl, b5⟩
          have bn5 := bn.below b5
          have b45 := b4.trans (b5.mono b4.size)
          refine hK.out _ _ (MK w5 b45) (fun hHeld => ?_)
          clear hK K_
          try simp only [List.getElem_toArray, List.getElem_cons_succ, List.getElem_cons_zero, Act.put, List.setIfInBounds_toArray, List.set_cons_zero, List.set_cons_succ]
          refine wpAnyH_take (i := 6) (v := ?_) rfl (by kernel_rfl) (by kernel_rfl) (by kernel_rfl) CalmP.onlyN_panic (Or.inl ⟨by kernel_rfl, ?_⟩) (by assumption) ?_
          rotate_left
          · (intro w_ hSw; go_simp; try with_reducible rfl)
          try simp only [List.getElem_toArray, List.getElem_cons_succ, List.getElem_cons_zero, Act.put, List.setIfInBounds_toArray, List.set_cons_zero, List.set_cons_succ]
          refine wpAnyH_take (i := 7) (v := ?_) rfl (by kernel_rfl) (by kernel_rfl) (by kernel_rfl) CalmP.onlyN_panic (Or.inl ⟨by kernel_rfl, ?_⟩) (by assumption) ?_
          rotate_left
          · (intro w_ hSw; go_simp; try with_reducible rfl)
          try simp only [List.getElem_toArray, List.getElem_cons_succ, List.getElem_cons_zero, Act.put, List.setIfInBounds_toArray, List.set_cons_zero, List.set_cons_succ]
          refine wpAnyH_take (i := 8) (v := ?_) rfl (by kernel_rfl) (by kernel_rfl) (by kernel_rfl) CalmP.onlyN_panic (Or.inl ⟨by kernel_rfl, ?_⟩) (by assumption) ?_
          rotate_left
          · (intro w_ hSw; go_simp; try with_reducible rfl)
          try simp only [List.getElem_toArray, List.getElem_cons_succ, List.getElem_cons_zero, Act.put, List.setIfInBounds_toArray, List.set_cons_zero, List.set_cons_succ]
          have bn2 := bn5.fill2 (.int .i64 1) (.int .i64 16)
          have b6 := below_fill2 b45 hlf (.int .i64 1) (.int .i64 16)
          obtain ⟨f0, f1⟩ := bn5.two
          obtain ⟨ff0, ff1⟩ := bn5.free2
          have hfl := bn5.1
          refine wpAnyH_ready (rs := [10]) (by kernel_rfl) (by simp) ?_
          refine AllReadyH.cons rfl (fun K_ hK => ?_) (AllReadyH.nil)
          go_simp
          refine hK.out _ _ (MK _ b6) (fun hHeld => ?_)
          clear hK K_
          try simp only [List.getElem_toArray, List.getElem_cons_succ, List.getElem_cons_zero, Act.put, List.setIfInBounds_toArray, List.set_cons_zero, List.set_cons_succ]
          refine wpAnyH_take (i := 11) (v := ?_) rfl (by kernel_rfl) (by kernel_rfl) (by kernel_rfl) CalmP.onlyN_panic (Or.inl ⟨by kernel_rfl, ?_⟩) (by assumption) ?_
          rotate_left
          · (intro w_ hSw; go_simp; try with_reducible rfl)
          try simp only [List.getElem_toArray, List.getElem_cons_succ, List.getElem_cons_zero, Act.put, List.setIfInBounds_toArray, List.set_cons_zero, List.set_cons_succ]
          refine wpAnyH_done (by kernel_rfl) ?_ _
          refine CalmP.onlyN_here (hQ.out _ _ ?_)
          clear hQ K0
          go_wp2_with fail
          go_meet
          exact ⟨rfl, f, rfl, bn2, hlf, b6⟩
      case rest =>
        obtain ⟨rfl, f, rfl, bn, hlf, bc⟩ := hcut
        have bx4 := bx3.below bc
        have t4 : Below g w wc := t13.trans (bc.mono (by omega))
        have hm4 : wc.cell? ⟨m, 0, none⟩ = some (.string ⟨#[71, 69, 84]⟩) := (bc.cell (p := ⟨m, 0, none⟩) (show m < w3.heap.size by omega)).trans hm3
        have hb4 : Rd wc g 1 (some ⟨b, 97, none⟩) 16 (bcells b504) := hb3.below (bc.mono (by omega))
        have r4 : Rd wc g3 2 A2 3 (fcells fs504) := r3.below (bc.mono (by omega))
        have z4 : g ≤ wc.heap.size := by have := t4.size; omega
        obtain ⟨f0, f1⟩ := bn.two
        have q5 := refbody_len b 97 16 (c - 97) g b504 wc hb4 z4 (by omega) (by omega) (by omega)
        go_wp2_with fail
        refine q5.mono ?_
        rintro e w5 ⟨v5, rfl, o5, b5⟩
        obtain ⟨av, cv, rfl, hcv⟩ : ∃ av cv, v5 = .slice (some ⟨av, 0, none⟩) 16 cv ∧ 16 ≤ cv := by
          rcases o5.2 with ⟨_, hh⟩ | ⟨x, y, _, hh, _, _, hy, _⟩
          · simp at hh
          · exact ⟨x, y, hh, hy⟩
        have bx5 := bx4.below b5
        have t5 : Below g w w5 := t4.trans (b5.mono z4)
        have z5 : g ≤ w5.heap.size := Nat.le_trans z4 b5.size
        have hm5 : w5.cell? ⟨m, 0, none⟩ = some (.string ⟨#[71, 69, 84]⟩) := (b5.cell (p := ⟨m, 0, none⟩) (show m < wc.heap.size by omega)).trans hm4
        have hg3 : g3 ≤ wc.heap.size := Nat.le_of_lt bx4.1
        have r5 : Rd w5 g3 2 A2 3 (fcells fs504) := r4.below (b5.mono hg3)
        have rv5 := Rd.of_own o5
        have bn5 := bn.below b5
        clear f0 f1 q5
        obtain ⟨f0, f1⟩ := bn5.two
        obtain ⟨k0, k1, k2, k3⟩ := Box.four bx5
        have bt := Box.new w5 #[.int .i64 1, .int .i64 504, .string ⟨#[71, 97, 116, 101, 119, 97, 121, 32, 84, 105, 109, 101, 111, 117, 116]⟩, .slice A2 3 c2, .slice (some ⟨av, 0, none⟩) 16 cv, .slice none 0 0, .bool true, .bool false, .bool false, .bool false] 48
        have b6 : Below w5.heap.size w5 (w5.alloc (.cells #[.int .i64 1, .int .i64 504, .string ⟨#[71, 97, 116, 101, 119, 97, 121, 32, 84, 105, 109, 101, 111, 117, 116]⟩, .slice A2 3 c2, .slice (some ⟨av, 0, none⟩) 16 cv, .slice none 0 0, .bool true, .bool false, .bool false, .bool false] 48)) := (Below.refl _ _).alloc (Nat.le_refl _) _
        obtain ⟨tp, htp⟩ : ∃ f, w5.heap.size = f := ⟨_, rfl⟩
        rw [htp] at bt
        have htg : g ≤ tp := htp ▸ z5
        go_upto_region 17 with (fail)
        have hm6 : (w5.alloc (.cells #[.int .i64 1, .int .i64 504, .string ⟨#[71, 97, 116, 101, 119, 97, 121, 32, 84, 105, 109, 101, 111, 117, 116]⟩, .slice A2 3 c2, .slice (some ⟨av, 0, none⟩) 16 cv, .slice none 0 0, .bool true, .bool false, .bool false, .bool false] 48)).cell? ⟨m, 0, none⟩ = some (.string ⟨#[71, 69, 84]⟩) := (b6.cell (p := ⟨m, 0, none⟩) (show m < w5.heap.size by omega)).trans hm5
        have t6 := t5.trans (b6.mono z5)
        have z6 : g ≤ (w5.alloc (.cells #[.int .i64 1, .int .i64 504, .string ⟨#[71, 97, 116, 101, 119, 97, 121, 32, 84, 105, 109, 101, 111, 117, 116]⟩, .slice A2 3 c2, .slice (some ⟨av, 0, none⟩) 16 cv, .slice none 0 0, .bool true, .bool false, .bool false, .bool false] 48)).heap.size := Nat.le_trans z5 b6.size
        have bx6 := bx5.below b6
        have r6 := r5.below (b6.mono (Nat.le_trans hg3 b5.size))
        have rv6 := (rv5.below b6).mono b6.size
        have hg36 : g3 ≤ (w5.alloc (.cells #[.int .i64 1, .int .i64 504, .string ⟨#[71, 97, 116, 101, 119, 97, 121, 32, 84, 105, 109, 101, 111, 117, 116]⟩, .slice A2 3 c2, .slice (some ⟨av, 0, none⟩) 16 cv, .slice none 0 0, .bool true, .bool false, .bool false, .bool false] 48)).heap.size := Nat.le_of_lt bx6.1
        generalize w5.alloc (.cells #[.int .i64 1, .int .i64 504, .string ⟨#[71, 97, 116, 101, 119, 97, 121, 32, 84, 105, 109, 101, 111, 117, 116]⟩, .slice A2 3 c2, .slice (some ⟨av, 0, none⟩) 16 cv, .slice none 0 0, .bool true, .bool false, .bool false, .bool false] 48) = w6 at bt hm6 t6 z6 bx6 r6 rv6 hg36 ⊢
        clear htp f0 f1 k0 k1 k2 k3 b6 bx5 bn5 rv5 o5 r5 hm5 t5 z5 b5 hb4 hm4 t4 z4 bx4 r4 bn bc
        obtain ⟨k0, k1, k2, k3⟩ := Box.four bx6
        obtain ⟨d6, -⟩ := bt.2 6 _ rfl
        go_upto_region 18 with (fail)
        have qe := fun k => refempty_any ⟨#[71, 69, 84]⟩ 504 (w6.drewN k)
        simp only [show emptyB ⟨#[71, 69, 84]⟩ 504 = false by decide +kernel] at qe
        go_quiet ((go_at_call 22; exact Calls.quiet_of_same ((qe _).mono fun _ _ h => ⟨h.1, h.2.symm⟩)))
        obtain ⟨RR, hRR⟩ : ∃ R : Option Addr, R = (if c - 97 = 16 then some ⟨b, 97, none⟩ else some ⟨b, 113, none⟩) := ⟨_, rfl⟩
        rw [← hRR]
        clear hRR
        have bq : Below w6.heap.size w6 (w6.drewN nq) := below_drewN (Below.refl _ _)
        have bt7 := bt.below bq
        have bx7 := bx6.below bq
        have r7 := r6.below (bq.mono hg36)
        have rv7 := (rv6.below bq).mono bq.size
        have t7 := t6.trans (bq.mono z6)
        have z7 := Nat.le_trans z6 bq.size
        have hg37 := Nat.le_trans hg36 bq.size
        clear k0 k1 k2 k3 d6 qe hm6 bt bx6 r6 rv6 t6 z6
        generalize w6.drewN nq = w7 at bt7 bx7 r7 rv7 t7 z7 hg37 ⊢
        obtain ⟨k0, k1, k2, k3⟩ := Box.four bx7
        have q7 := coding_any 1 504 ⟨#[71, 97, 116, 101, 119, 97, 121, 32, 84, 105, 109, 101, 111, 117, 116]⟩ A2 3 c2 g3 fs504 w7 r7 hg37 (by omega) fs504_ok
        rw [cod504] at q7
        go_wp2_with fail
        refine q7.mono ?_
        rintro e w8 ⟨rfl, b8⟩
        have bt8 := bt7.below b8
        have rv8 := (rv7.below b8).mono b8.size
        have t8 := t7.trans (b8.mono z7)
        have z8 := Nat.le_trans z7 b8.size
        clear k0 k1 k2 k3 q7 bt7 bx7 r7 rv7 t7 b8
        have q8 := refdecode0 av 0 16 cv w8.heap.size b504 w8 rv8 (Nat.le_refl _) (by omega) (by omega) hcv
        go_wp2_with fail
        refine q8.mono ?_
        rintro e w9 ⟨v9, rfl, o9, b9⟩
        have bt9 := bt8.below b9
        have t9 := t8.trans (b9.mono z8)
        have z9 := Nat.le_trans z8 b9.size
        obtain ⟨A9, c9, rfl, -, -⟩ := own_shape0 o9
        clear q8 bt8 rv8 t8 b9 o9
        obtain ⟨d4, f4⟩ := bt9.2 5 _ rfl
        obtain ⟨d7, f7⟩ := bt9.2 7 _ rfl
        have hltp := bt9.1
        have bt10 := (bt9.set (k := 7) (x := .bool false) (by simp)).set (k := 5) (x := .slice A9 16 c9) (by simp)
        simp only [List.set_cons_succ, List.set_cons_zero] at bt10
        go_upto_region 22 with (fail)
        have t10 : Below g w ((w9.setCell ⟨tp, 7, none⟩ (.bool false)).setCell ⟨tp, 5, none⟩ (.slice A9 16 c9)) := (t9.setCell htg _).setCell htg _
        have z10 : g ≤ ((w9.setCell ⟨tp, 7, none⟩ (.bool false)).setCell ⟨tp, 5, none⟩ (.slice A9 16 c9)).heap.size := by have := t10.size; omega
        clear d4 f4 d7 f7 hltp bt9 t9 z9
        generalize (w9.setCell ⟨tp, 7, none⟩ (.bool false)).setCell ⟨tp, 5, none⟩ (.slice A9 16 c9) = w10 at bt10 t10 z10 ⊢
        obtain ⟨i0, hi0, hz0, hz1, hz2⟩ := info_parts infoTd
        have h0 := (bt10.2 0 _ rfl).1
        have h1 := (bt10.2 1 _ rfl).1
        have h2 := (bt10.2 2 _ rfl).1
        have h3 := (bt10.2 3 _ rfl).1
        have h4 := (bt10.2 4 _ rfl).1
        have h5 := (bt10.2 5 _ rfl).1
        have h6 := (bt10.2 6 _ rfl).1
        have h7 := (bt10.2 7 _ rfl).1
        have h8 := (bt10.2 8 _ rfl).1
        have h9 := (bt10.2 9 _ rfl).1
        have hsr := rd_new w10 #[.int .i64 1, .int .i64 504, .string ⟨#[71, 97, 116, 101, 119, 97, 121, 32, 84, 105, 109, 101, 111, 117, 116]⟩, .slice A2 3 c2, .slice (some ⟨av, 0, none⟩) 16 cv, .slice A9 16 c9, .bool true, .bool false, .bool false, .bool false] 48 10 1 rfl
        have hon : (w10.alloc (.cells #[.int .i64 1, .int .i64 504, .string ⟨#[71, 97, 116, 101, 119, 97, 121, 32, 84, 105, 109, 101, 111, 117, 116]⟩, .slice A2 3 c2, .slice (some ⟨av, 0, none⟩) 16 cv, .slice A9 16 c9, .bool true, .bool false, .bool false, .bool false] 48)).ownsRow w10.heap.size 48 10 (.slice none 0 0) 0 [] := World.ownsRow_nil _ _ _ _
        have hone : ∀ u ∈ (#[.int .i64 1, .int .i64 504, .string ⟨#[71, 97, 116, 101, 119, 97, 121, 32, 84, 105, 109, 101, 111, 117, 116]⟩, .slice A2 3 c2, .slice (some ⟨av, 0, none⟩) 16 cv, .slice A9 16 c9, .bool true, .bool false, .bool false, .bool false] : Array Value).toList, u.oneCell' = true := by simp [Value.oneCell']
        have b11 : Below g w (w10.alloc (.cells #[.int .i64 1, .int .i64 504, .string ⟨#[71, 97, 116, 101, 119, 97, 121, 32, 84, 105, 109, 101, 111, 117, 116]⟩, .slice A2 3 c2, .slice (some ⟨av, 0, none⟩) 16 cv, .slice A9 16 c9, .bool true, .bool false, .bool false, .bool false] 48)) := t10.alloc z10 _
        have z11 : w10.heap.size ≤ (w10.alloc (.cells #[.int .i64 1, .int .i64 504, .string ⟨#[71, 97, 116, 101, 119, 97, 121, 32, 84, 105, 109, 101, 111, 117, 116]⟩, .slice A2 3 c2, .slice (some ⟨av, 0, none⟩) 16 cv, .slice A9 16 c9, .bool true, .bool false, .bool false, .bool false] 48)).heap.size := by simp
        have ba11 : Below w10.heap.size w10 (w10.alloc (.cells #[.int .i64 1, .int .i64 504, .string ⟨#[71, 97, 116, 101, 119, 97, 121, 32, 84, 105, 109, 101, 111, 117, 116]⟩, .slice A2 3 c2, .slice (some ⟨av, 0, none⟩) 16 cv, .slice A9 16 c9, .bool true, .bool false, .bool false, .bool false] 48)) := (Below.refl _ _).alloc (Nat.le_refl _) _
        go_upto_region 23 with (at_builtin; refine wpl_append _ rfl _ _ _ rfl w10.heap.size 48 i0 _ 10 112 Tryz.underlying41 hi0 hz0 hz1 hz2 rfl (by omega) _ _ _ rfl _ _ _ _ _ rfl hon hsr hone (by simp [maxLen]) (by omega) z11 ?_; intro v11 w11 o11 b12 _)
        have t11 := b11.trans (b12.mono z10)
        have bt11 := (bt10.below ba11).low' b12 bt10.1
        obtain ⟨d6, -⟩ := bt11.2 6 _ rfl
        obtain ⟨o', co, rfl, e1, e6⟩ : ∃ o' co, v11 = .slice (some ⟨o', 0, none⟩) 1 co ∧ w11.cell? ⟨o', 1, none⟩ = some (.int .i64 504) ∧ w11.cell? ⟨o', 6, none⟩ = some (.bool true) := by
          rw [Nat.zero_add, List.nil_append] at o11
          rcases o11.2 with ⟨hh, hn⟩ | ⟨x, y, _, hh, -⟩
          · omega
          · subst hh
            have hrd := Rd.of_own o11
            obtain ⟨a, ha, -, hc⟩ := hrd.at_ (k := 0) (by omega)
            cases ha
            exact ⟨x, _, rfl, by simpa [Addr.add] using hc 1 _ rfl, by simpa [Addr.add] using hc 6 _ rfl⟩
        clear h0 h1 h2 h3 h4 h5 h6 h7 h8 h9 hsr hon hone b11 ba11 z11 o11 b12 bt11 bt10
        go_wp2_with fail
        go_roundw
        case rel => exact .inr ⟨rfl, o', co, RR, _, rfl, rfl, e1, e6, t11⟩
        case measure => simp [intOf]
    · go_wp2_with fail
      go_ret2
      exact ⟨o', co, R, cr, rfl, e1, e2, hg ▸ bb⟩
end Go.Proofs.YtijlaclngibekaaGreatDoor
