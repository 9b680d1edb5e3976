/- link.Side's Begin and Take with a body of no bytes. -/
import Derived.Test.YtijlaclngibekaaGreatDoorKLinkE
namespace Go.Proofs.YtijlaclngibekaaGreatDoor
open Go.RowKit
set_option linter.unusedVariables false
set_option linter.unusedSimpArgs false

/-- An empty side in block s, its ring in block r, a body of no bytes in block b. -/
def IsSide0 (w : World) (s r mo : Nat) (d : Option Nat) (b : Nat) (own : Option Nat) : Prop :=
  ∃ left p, Box w s [.pointer (some ⟨r, 0, none⟩), .bool false, .pointer (some ⟨b, 0, none⟩)] ∧ IsRing w 103 1 r 0 mo d [] ∧ IsBodyW w b own 0 left p 0 [] false ∧ 0 ≤ left ∧ left ≤ 9223372036854775807 ∧ s ≠ r ∧ d ≠ some s ∧ mo ≤ 65536 ∧ b ≠ s ∧ b ≠ r ∧ own ≠ some s ∧ own ≠ some r
theorem IsSide0.drewN {w : World} {s r mo b : Nat} {d own : Option Nat} (h : IsSide0 w s r mo d b own) (k : Nat) : IsSide0 (w.drewN k) s r mo d b own := by
  obtain ⟨left, p, hx, hr, hb, n0⟩ := h
  exact ⟨left, p, hx.below (below_drewN (Below.refl _ _)), hr.drewN k, hb.below (below_drewN (Below.refl _ _)), n0⟩
set_option maxRecDepth 100000 in
set_option maxHeartbeats 3200000 in
theorem linkpour0_any (s r mo : Nat) (d : Option Nat) (b : Nat) (own : Option Nat) (w : World) (h : IsSide0 w s r mo d b own) :
    Calls Tryz.prog 112 #[.pointer (some ⟨s, 0, none⟩)] w fun e w' => e = .returned (.tuple #[]) ∧ ∃ own', IsSide0 w' s r mo d b own' ∧ (own' = own ∨ ∀ g, own' = some g → w.heap.size ≤ g) ∧ Stay w w' [some r, own, some b] := by
  obtain ⟨left, p, hx, hr, hb, hl0, hl1, nsr, nds, hm2, n1, n2, n6, n7⟩ := h
  obtain ⟨k0, k1, k2⟩ := hx.three_
  have q1 := popB r 0 mo d (0 : Nat) [] w.drew (hr.drewN 1) (by omega) (by simp) 0 (by simp)
  go_enter Tryz.func112, Tryz.ntmps112
  go_upto_region 0 with (fail)
  refine CalmP.hideN (fun K0 hQ => ?_)
  refine wp_region_held_drew (S := (fun W : World => (W.cell? ⟨s, 0, none⟩ = some (.pointer (some ⟨r, 0, none⟩)) ∧ W.cell? ⟨s, 2, none⟩ = some (.pointer (some ⟨b, 0, none⟩))))) (by kernel_rfl) ⟨k0, k2⟩ (fun hHeld => ?_)
  refine wpAnyH_take (i := 0) (v := ?_) rfl (by kernel_rfl) (by kernel_rfl) (by kernel_rfl) CalmP.onlyN_panic (Or.inl ⟨by kernel_rfl, ?_⟩) (by assumption) ?_
  rotate_left
  · (intro w_ hSw; go_simp; try with_reducible rfl)
  try simp only [List.getElem_toArray, List.getElem_cons_succ, List.getElem_cons_zero, Act.put, List.setIfInBounds_toArray, List.set_cons_zero, List.set_cons_succ]
  refine wpAnyH_take (i := 1) (v := ?_) rfl (by kernel_rfl) (by kernel_rfl) (by kernel_rfl) CalmP.onlyN_panic (Or.inl ⟨by kernel_rfl, ?_⟩) (by assumption) ?_
  rotate_left
  · (intro w_ hSw; go_simp; try with_reducible rfl)
  try simp only [List.getElem_toArray, List.getElem_cons_succ, List.getElem_cons_zero, Act.put, List.setIfInBounds_toArray, List.set_cons_zero, List.set_cons_succ]
  refine wpAnyH_take (i := 2) (v := ?_) rfl (by kernel_rfl) (by kernel_rfl) (by kernel_rfl) CalmP.onlyN_panic (Or.inl ⟨by kernel_rfl, ?_⟩) (by assumption) ?_
  rotate_left
  · (intro w_ hSw; go_simp; try with_reducible rfl)
  try simp only [List.getElem_toArray, List.getElem_cons_succ, List.getElem_cons_zero, Act.put, List.setIfInBounds_toArray, List.set_cons_zero, List.set_cons_succ]
  refine wpAnyH_take (i := 3) (v := ?_) rfl (by kernel_rfl) (by kernel_rfl) (by kernel_rfl) CalmP.onlyN_panic (Or.inl ⟨by kernel_rfl, ?_⟩) (by assumption) ?_
  rotate_left
  · (intro w_ hSw; go_simp; try with_reducible rfl)
  try simp only [List.getElem_toArray, List.getElem_cons_succ, List.getElem_cons_zero, Act.put, List.setIfInBounds_toArray, List.set_cons_zero, List.set_cons_succ]
  refine wpAnyH_take (i := 4) (v := ?_) rfl (by kernel_rfl) (by kernel_rfl) (by kernel_rfl) CalmP.onlyN_panic (Or.inl ⟨by kernel_rfl, ?_⟩) (by assumption) ?_
  rotate_left
  · (intro w_ hSw; go_simp; try with_reducible rfl)
  try simp only [List.getElem_toArray, List.getElem_cons_succ, List.getElem_cons_zero, Act.put, List.setIfInBounds_toArray, List.set_cons_zero, List.set_cons_succ]
  refine wpAnyH_take (i := 5) (v := ?_) rfl (by kernel_rfl) (by kernel_rfl) (by kernel_rfl) CalmP.onlyN_panic (Or.inl ⟨by kernel_rfl, ?_⟩) (by assumption) ?_
  rotate_left
  · (intro w_ hSw; go_simp; try with_reducible rfl)
  try simp only [List.getElem_toArray, List.getElem_cons_succ, List.getElem_cons_zero, Act.put, List.setIfInBounds_toArray, List.set_cons_zero, List.set_cons_succ]
  refine wpAnyH_take (i := 6) (v := ?_) rfl (by kernel_rfl) (by kernel_rfl) (by kernel_rfl) CalmP.onlyN_panic (Or.inl ⟨by kernel_rfl, ?_⟩) (by assumption) ?_
  rotate_left
  · (intro w_ hSw; go_simp; try with_reducible rfl)
  try simp only [List.getElem_toArray, List.getElem_cons_succ, List.getElem_cons_zero, Act.put, List.setIfInBounds_toArray, List.set_cons_zero, List.set_cons_succ]
  refine wpAnyH_take (i := 7) (v := ?_) rfl (by kernel_rfl) (by kernel_rfl) (by kernel_rfl) CalmP.onlyN_panic (Or.inl ⟨by kernel_rfl, ?_⟩) (by assumption) ?_
  rotate_left
  · (intro w_ hSw; go_simp; try with_reducible rfl)
  try simp only [List.getElem_toArray, List.getElem_cons_succ, List.getElem_cons_zero, Act.put, List.setIfInBounds_toArray, List.set_cons_zero, List.set_cons_succ]
  refine wpAnyH_take (i := 8) (v := ?_) rfl (by kernel_rfl) (by kernel_rfl) (by kernel_rfl) CalmP.onlyN_panic (Or.inl ⟨by kernel_rfl, ?_⟩) (by assumption) ?_
  rotate_left
  · (intro w_ hSw; go_simp; try with_reducible rfl)
  try simp only [List.getElem_toArray, List.getElem_cons_succ, List.getElem_cons_zero, Act.put, List.setIfInBounds_toArray, List.set_cons_zero, List.set_cons_succ]
  refine wpAnyH_take (i := 9) (v := ?_) rfl (by kernel_rfl) (by kernel_rfl) (by kernel_rfl) CalmP.onlyN_panic (Or.inl ⟨by kernel_rfl, ?_⟩) (by assumption) ?_
  rotate_left
  · (intro w_ hSw; go_simp; try with_reducible rfl)
  try simp only [List.getElem_toArray, List.getElem_cons_succ, List.getElem_cons_zero, Act.put, List.setIfInBounds_toArray, List.set_cons_zero, List.set_cons_succ]
  refine wpAnyH_take (i := 10) (v := ?_) rfl (by kernel_rfl) (by kernel_rfl) (by kernel_rfl) CalmP.onlyN_panic (Or.inl ⟨by kernel_rfl, ?_⟩) (by assumption) ?_
  rotate_left
  · (intro w_ hSw; go_simp; try with_reducible rfl)
  try simp only [List.getElem_toArray, List.getElem_cons_succ, List.getElem_cons_zero, Act.put, List.setIfInBounds_toArray, List.set_cons_zero, List.set_cons_succ]
  refine wpAnyH_take (i := 11) (v := ?_) rfl (by kernel_rfl) (by kernel_rfl) (by kernel_rfl) CalmP.onlyN_panic (Or.inl ⟨by kernel_rfl, ?_⟩) (by assumption) ?_
  rotate_left
  · (intro w_ hSw; go_simp; try with_reducible rfl)
  try simp only [List.getElem_toArray, List.getElem_cons_succ, List.getElem_cons_zero, Act.put, List.setIfInBounds_toArray, List.set_cons_zero, List.set_cons_succ]
  refine wpAnyH_ready (rs := [12]) (by kernel_rfl) (by simp) ?_
  refine AllReadyH.cons rfl (fun K_ hK => ?_) (AllReadyH.nil)
  go_simp
  refine (lenB r _ mo d _ _ (hr.drewN 1)).mono ?_
  rintro e V1 ⟨rfl, rfl⟩
  refine hK.out _ _ ⟨k0, k2⟩ (fun hHeld => ?_)
  clear hK K_
  try simp only [List.getElem_toArray, List.getElem_cons_succ, List.getElem_cons_zero, Act.put, List.setIfInBounds_toArray, List.set_cons_zero, List.set_cons_succ]
  refine wpAnyH_ready (rs := [13]) (by kernel_rfl) (by simp) ?_
  refine AllReadyH.cons rfl (fun K_ hK => ?_) (AllReadyH.nil)
  go_simp
  refine q1.mono ?_
  rintro e V2 ⟨A2, c2, rfl, o2, r2, g2⟩
  have hx2 : Box V2 s _ := (hx.below (below_drewN (k := 1) (Below.refl _ _))).grown_ g2 (fun e => nsr (Option.some.inj e).symm)
  refine hK.out _ _ ⟨hx2.three_.1, hx2.three_.2.2⟩ (fun hHeld => ?_)
  clear hK K_
  try simp only [List.getElem_toArray, List.getElem_cons_succ, List.getElem_cons_zero, Act.put, List.setIfInBounds_toArray, List.set_cons_zero, List.set_cons_succ]
  refine wpAnyH_ready (rs := [14]) (by kernel_rfl) (by simp) ?_
  refine AllReadyH.cons rfl (fun K_ hK => ?_) (AllReadyH.nil)
  go_simp
  have hb2 := (hb.below (below_drewN (k := 1) (Below.refl _ _))).grown g2 (fun e => n2 (Option.some.inj e).symm) (.inr n7)
  have rd2 := Rd.of_own o2
  refine (bodyfeedW_any b own 0 left p 0 [] V2 hb2 (by decide) A2 0 c2 _ [] rd2 (by omega)).mono ?_
  rintro e V3 ⟨rfl, own', hb3, hown, V4, g4, g5⟩
  have st : Stay w V3 [some r, own, some b] := (Stay.of_grown (grown_trans (grown_of_below (below_drewN (k := 1) (Below.refl _ _))) g2)).trans ((Stay.of_grown g4).trans (Stay.of_grown g5))
  have hs3 := Box.stay hx st (by simp; exact ⟨fun e => nsr e, fun e => n6 e.symm, fun e => n1 e.symm⟩)
  refine hK.out _ _ ⟨hs3.three_.1, hs3.three_.2.2⟩ (fun hHeld => ?_)
  clear hK K_
  try simp only [List.getElem_toArray, List.getElem_cons_succ, List.getElem_cons_zero, Act.put, List.setIfInBounds_toArray, List.set_cons_zero, List.set_cons_succ]
  refine wpAnyH_done (by kernel_rfl) ?_ _
  refine CalmP.onlyN_here (hQ.out _ _ ?_)
  clear hQ K0
  have k1c := hs3.three_.2.1
  go_wp2_with fail
  go_end0
  have hr4 : IsRing V3 103 1 r 0 mo d [] := by
    have e1 : V4.heap[r]? = V2.heap[r]? := g4.block r r2.lt (fun e => n7 e.symm)
    have e2 : V3.heap[r]? = V4.heap[r]? := g5.block r (Nat.lt_of_lt_of_le r2.lt g4.size) (fun e => n2 (Option.some.inj e).symm)
    exact ring_empty r2 (e2.trans e1) (Nat.le_trans g4.size g5.size)
  have hsz2 : w.heap.size ≤ V2.heap.size := g2.size
  have own_ne : ∀ x, x < w.heap.size → own ≠ some x → own' ≠ some x := fun x hx hne e => by
    rcases hown with rfl | hown
    · exact hne e
    · have := hown x e; omega
  refine ⟨rfl, own', ⟨left, p, hs3, hr4, hb3, hl0, hl1, nsr, nds, hm2, n1, n2, own_ne s hx.1 n6, own_ne r hr.lt n7⟩, ?_, st⟩
  rcases hown with hown | hown
  · exact .inl hown
  · exact .inr (fun g e => Nat.le_trans hsz2 (hown g e))
set_option maxRecDepth 100000 in
set_option maxHeartbeats 3200000 in
theorem linkover0_any (s r mo : Nat) (d : Option Nat) (b : Nat) (own : Option Nat) (w : World) (h : IsSide0 w s r mo d b own) :
    Calls Tryz.prog 114 #[.pointer (some ⟨s, 0, none⟩)] w fun e w' => e = .returned (.tuple #[]) ∧ IsSide w' s r mo false d [] ∧ Stay w w' [some b, some s, some r] := by
  obtain ⟨left, p, hx, hr, hb, hl0, hl1, nsr, nds, hm2, n1, n2, n6, n7⟩ := h
  obtain ⟨k0, k1, k2⟩ := hx.three_
  have q1 := bodyrestV_any b own 0 left p 0 [] false w hb (by decide) rfl
  go_enter Tryz.func114, Tryz.ntmps114
  go_wp2_with fail
  refine q1.mono ?_
  rintro e w1 ⟨A, c, rfl, ho, hown, g1⟩
  have hx1 := hx.grown_ g1 (fun e => n1 (Option.some.inj e))
  obtain ⟨j0, j1, j2⟩ := hx1.three_
  have f2 := (hx1.2 2 _ rfl).2
  have hsl := hx1.1
  have hx2 := hx1.set (k := 2) (x := .pointer none) (by simp)
  simp only [List.set_cons_succ, List.set_cons_zero] at hx2
  have g2 := grown_set (World.grownBy.refl w1 (some s)) 2 (.pointer none)
  have hr2 : IsRing (w1.setCell ⟨s, 2, none⟩ (.pointer none)) 103 1 r 0 mo d [] := by
    have e1 : w1.heap[r]? = w.heap[r]? := g1.block r hr.lt (fun e => n2 (Option.some.inj e).symm)
    have e2 := g2.block r (Nat.lt_of_lt_of_le hr.lt g1.size) (fun e => nsr (Option.some.inj e).symm)
    exact ring_empty hr (e2.trans e1) (Nat.le_trans g1.size g2.size)
  clear k0 k1 k2 q1
  go_upto_region 2 with (fail)
  generalize w1.setCell ⟨s, 2, none⟩ (.pointer none) = w2 at hx2 g2 hr2 ⊢
  obtain ⟨i0, i1, i2⟩ := hx2.three_
  have q3 := pushB_none r 0 mo d [] A 0 c w2 hr2 (by omega) (by omega) (.inl rfl)
  clear j0 j1 j2 hx1 f2
  go_wp2_with fail
  refine q3.mono ?_
  rintro e w3 ⟨rfl, k, rfl⟩
  go_wp2_with fail
  go_end0
  exact ⟨rfl, ⟨hx2.below (below_drewN (Below.refl _ _)), hr2.drewN k, nsr, nds, hm2⟩, (Stay.of_grown g1).trans ((Stay.of_grown g2).trans (Stay.of_grown (grown_of_below (below_drewN (Below.refl _ _)))))⟩
set_option maxRecDepth 100000 in
set_option maxHeartbeats 3200000 in
theorem linktake0_any (s r mo : Nat) (d : Option Nat) (b : Nat) (own : Option Nat) (x : Int) (w : World) (h : IsSide0 w s r mo d b own) (h1 : 1 ≤ x) :
    Calls Tryz.prog 83 #[.pointer (some ⟨s, 0, none⟩), .int .i64 x] w fun e w' => ∃ A c, e = .returned (.tuple #[.slice A 0 c, .int .i64 8]) ∧ IsSide w' s r mo false d [] ∧ Stay w w' [some r, own, some b, some s] := by
  have q1 := linkpour0_any s r mo d b own w h
  have hT : ∀ left, takeN 0 left 0 x = 0 ∧ takeE 0 left 0 x false = 8 := fun left => by
    have e1 : takeN 0 left 0 x = 0 := by unfold takeN mostB; simp; omega
    refine ⟨e1, ?_⟩
    unfold takeE
    rw [e1, if_neg (by omega), if_neg (by simp [overB, mostB])]
  have q2 : ∀ left p own' W, IsBodyW W b own' 0 left p 0 [] false → 0 ≤ left → left ≤ 9223372036854775807 → _ := fun left p own' W hb hl0 hl1 => bodytakeW_any b 0 0 left p 0 [] false x W hb.plain (by decide) hl0 hl1 (by omega) (Nat.zero_le _)
  simp only [(hT _).1, (hT _).2] at q2
  obtain ⟨k0, k1, k2⟩ : w.cell? ⟨s, 0, none⟩ = some (.pointer (some ⟨r, 0, none⟩)) ∧ w.cell? ⟨s, 1, none⟩ = some (.bool false) ∧ w.cell? ⟨s, 2, none⟩ = some (.pointer (some ⟨b, 0, none⟩)) := by
    obtain ⟨_, _, hx, -⟩ := h
    exact hx.three_
  clear h hT
  go_enter Tryz.func83, Tryz.ntmps83
  go_wp2_with fail
  refine q1.mono ?_
  rintro e w1 ⟨rfl, own1, ⟨left, p, hx1, hr1, hb1, hl0, hl1, nsr, nds, hm2, n1, n2, n6, n7⟩, ho1, st1⟩
  obtain ⟨j0, j1, j2⟩ := hx1.three_
  have q3 := q2 left p own1 w1 hb1 hl0 hl1
  clear q1 q2 k0 k1 k2
  go_wp2_with fail
  refine q3.mono ?_
  rintro e w2 ⟨A, c, rfl, rd2, ⟨own2, hb2, ho2⟩, g2⟩
  have hx2 := hx1.grown_ g2 (fun e => n1 (Option.some.inj e))
  have hr2 : IsRing w2 103 1 r 0 mo d [] := ring_empty hr1 (g2.block r hr1.lt (fun e => n2 (Option.some.inj e).symm)) g2.size
  have own_ne : ∀ y, y < w1.heap.size → own2 ≠ some y := fun y hy e => by have := ho2 y e; omega
  have hlt : takeLeft 0 left 0 = left := rfl
  rw [hlt] at hb2
  have hs2 : IsSide0 w2 s r mo d b own2 := ⟨left, p, hx2, hr2, hb2, hl0, hl1, nsr, nds, hm2, n1, n2, own_ne s hx1.1, own_ne r hr1.lt⟩
  have st2 : Stay w w2 [some r, own, some b, some b] := st1.trans (Stay.of_grown g2)
  have q4 := linkover0_any s r mo d b own2 w2 hs2
  clear j0 j1 j2 q3 hb2 rd2
  go_wp2_with fail
  refine q4.mono ?_
  rintro e w3 ⟨rfl, hs3, st3⟩
  go_wp2_with fail
  go_ret2
  exact ⟨A, c, rfl, hs3, (st2.trans st3).mono (by intro k hk; simp only [List.mem_append, List.mem_cons, List.not_mem_nil, or_false] at hk ⊢; rcases hk with (h | h | h | h) | (h | h | h) <;> simp [h])⟩
set_option maxRecDepth 100000 in
set_option maxHeartbeats 3200000 in
theorem linkbegin0_any (s r mo : Nat) (d : Option Nat) (left : Int) (w : World) (h : IsSide w s r mo false d []) (hl : left ≤ 9223372036854775807) :
    Calls Tryz.prog 111 #[.pointer (some ⟨s, 0, none⟩), .agg #[.int .i64 0, .int .i64 left]] w fun e w' => e = .returned (.tuple #[]) ∧ ∃ b, IsSide0 w' s r mo d b none ∧ w.heap.size ≤ b ∧ Stay w w' [some s] := by
  have ta : Below w.heap.size w (w.alloc (.cells #[.int .i64 0, .int .i64 left] 67)) := (Below.refl _ _).alloc (Nat.le_refl _) _
  have bx := Box.new w #[.int .i64 0, .int .i64 left] 67
  obtain ⟨x0, x1⟩ := bx.two
  have hsl := h.1.1
  have hrl := h.2.1.lt
  have h0 := h.below ta
  go_enter Tryz.func111, Tryz.ntmps111
  go_upto_region 1 with (fail)
  generalize w.alloc (.cells #[.int .i64 0, .int .i64 left] 67) = w0 at ta x0 x1 h0 ⊢
  clear bx
  go_wp2_with fail
  refine (bodynewD_any 0 left w0).mono ?_
  rintro e w1 ⟨b, cb, rfl, hb, hc, hb1, hc1, hne, b1⟩
  have h1 := h0.below b1
  obtain ⟨k0, k1, k2⟩ := h1.1.three_
  have f2 := (h1.1.2 2 _ rfl).2
  have hsl1 := h1.1.1
  have hx2 := h1.1.set (k := 2) (x := .pointer (some ⟨b, 0, none⟩)) (by simp)
  simp only [List.set_cons_succ, List.set_cons_zero] at hx2
  have g2 := grown_set (World.grownBy.refl w1 (some s)) 2 (.pointer (some ⟨b, 0, none⟩))
  have hr2 := h1.2.1.grown g2 (fun e => h.2.2.1 (Option.some.inj e)) (.inr (fun e => h.2.2.2.1 e.symm))
  have z0 := ta.size
  have hbs : b ≠ s := by omega
  have hb2 := hb.grown g2 (fun e => hbs (Option.some.inj e).symm) (.inl rfl)
  have st : Stay w (w1.setCell ⟨s, 2, none⟩ (.pointer (some ⟨b, 0, none⟩))) [some s] := (Stay.of_grown (grown_trans (grown_of_below (ta.trans (b1.mono ta.size))) g2))
  go_wp2_with fail
  go_end0
  exact ⟨rfl, b, ⟨_, _, hx2, hr2, hb2, by omega, by omega, h.2.2.1, h.2.2.2.1, h.2.2.2.2, hbs, by omega, by simp, by simp⟩, by omega, st⟩
end Go.Proofs.YtijlaclngibekaaGreatDoor
