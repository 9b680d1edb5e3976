/- FrameNone returns true for any bytes and any two numbers. -/
import Derived.Test.YtdpcncpfbaigeaaDoorBody3
import Derived.Test.YtdpcncpfbaigeaaDoorTold
import Derived.Test.YtdpcncpfbaigeaaDoorSame
import Derived.Test.YtdpcncpfbaigeaaDoorLaid7
namespace Go.Proofs.YtdpcncpfbaigeaaDoor.FrameNoneP
open Go.RowKit

theorem take_none {kind left : Int} {n : Nat} {ended : Bool} (h : kind = 0 ∨ kind = 1 ∧ left = 0) : takeN kind left n 1 = 0 ∧ takeE kind left n 1 ended = 8 ∧ takeLeft kind left 0 = left ∧ overB kind left n ended = true := by
  have hm : mostB kind left n = 0 := by
    unfold mostB
    rcases h with rfl | ⟨rfl, rfl⟩
    · rw [if_neg (by decide), if_neg (by decide)]
    · rw [if_pos rfl]
  have hN : takeN kind left n 1 = 0 := by unfold takeN; rw [hm]; omega
  have hL : takeLeft kind left 0 = left := by unfold takeLeft; split <;> simp
  have h3 : kind ≠ 3 := by rcases h with rfl | ⟨rfl, _⟩ <;> decide
  have hO : overB kind left n ended = true := by unfold overB; rw [if_neg h3, hm]; rfl
  refine ⟨hN, ?_, hL, hO⟩
  unfold takeE
  rw [hN, hL, Nat.sub_zero, hO]
  rfl
set_option maxRecDepth 100000 in
set_option maxHeartbeats 3200000 in
theorem walk (A : Option Addr) (n c : Nat) (bs : List UInt8) (x len : Int) (w : World) (h : Rd w w.heap.size 1 A n (bcells bs)) (_hn : n ≤ maxLen) (_hx : (Lit.int .i64 x).wf = true) (hl : (Lit.int .i64 len).wf = true) :
    Calls Tryd.prog 8 #[.slice A n c, .int .i64 x, .int .i64 len] w fun e w' => e = .returned (.bool true) ∧ Below w.heap.size w w' := by
  have hl' : -9223372036854775808 ≤ len ∧ len ≤ 9223372036854775807 := by simp [Lit.wf, IntKind.min, IntKind.max, IntKind.signed, IntKind.bits] at hl; omega
  clear hl
  by_cases h1000 : 1000 < n
  · go_enter Tryd.func8, Tryd.ntmps8
    go_wp2_with fail
    refine (ans19_any w).mono ?_
    rintro e w1 ⟨rfl, b1⟩
    go_wp2_with fail
    go_ret
    exact ⟨rfl, b1⟩
  obtain ⟨g, hg⟩ : ∃ g, w.heap.size = g := ⟨_, rfl⟩
  have gz : ∀ W : World, Below g w W → g ≤ W.heap.size := fun W b => hg ▸ b.size
  rw [hg] at h ⊢
  obtain ⟨L, hL⟩ : ∃ L : Int, L = if 0 < len then IntKind.i64.wrap (-len) else len := ⟨_, rfl⟩
  have hL0 : max L 0 = 0 := by
    rw [hL]; split
    · rw [IntKind.wrap_i64]; omega
    · omega
  have hn1 : ¬ (1000 < (n : Int)) := by omega
  go_enter Tryd.func8, Tryd.ntmps8
  go_wp2_with fail
  refine (bfeedNil _ w).mono ?_
  rintro e w1 ⟨rfl, rfl⟩
  go_wp2_with fail
  refine (bendNil w).mono ?_
  rintro e w1 ⟨rfl, rfl⟩
  go_wp2_with fail
  refine (btakeNil _ w).mono ?_
  rintro e w1 ⟨rfl, rfl⟩
  go_wp2_with fail
  refine (bodynew_any 0 len w).mono ?_
  rintro e w1 ⟨b1, p1, rfl, hb1, t1⟩
  rw [hg] at hb1 t1
  have r1 := h.below t1
  go_wp2_with fail
  refine (bodyfeed_any b1 g 0 _ p1 0 [] w1 hb1 (by decide) A n c g bs r1 (by omega) (gz _ t1)).mono ?_
  rintro e w2 ⟨rfl, hb2, t2'⟩
  have t2 := t1.trans t2'
  have r2 := h.below t2
  rw [Nat.zero_add, List.nil_append] at hb2
  clear hb1 t2' r1 t1
  go_wp2_with fail
  refine (bodytake_any b1 g 0 _ p1 n bs false 1 w2 hb2 (by decide) (by omega) (by omega) (by omega) (gz _ t2)).mono ?_
  rintro e w3 ⟨A3, c3, rfl, r3, hb3, t3'⟩
  obtain ⟨eN, eE, eL, eO⟩ := take_none (kind := 0) (left := max len 0) (n := n) (ended := false) (.inl rfl)
  rw [eE] at r3 ⊢
  rw [eN, eL, Nat.sub_zero, List.drop_zero] at hb3
  have hb1w : b1 < w3.heap.size := by obtain ⟨_, _, hx, _⟩ := hb3; exact hx.1
  have t3 := t2.trans t3'
  clear hb2 t3' r2 t2 eN eE eL r3
  have hstep : ∀ (W : World), Calls Tryd.prog 23 #[.agg #[.int .i64 1, .int .i64 L]] W fun e w' => ∃ b p, e = .returned (.pointer (some ⟨b, 0, none⟩)) ∧ IsBody w' b W.heap.size 1 0 p 0 [] false ∧ Below W.heap.size W w' := fun W => by
    have := bodynew_any 1 L W
    rwa [hL0] at this
  have hneg : (0 < len → IntKind.i64.wrap (-len) = L) ∧ (¬ 0 < len → len = L) := ⟨fun h => by rw [hL, if_pos h], fun h => by rw [hL, if_neg h]⟩
  clear hL hL0
  by_cases hpos : 0 < len
  · have hw := hneg.1 hpos
    clear hneg
    go_wp2_with fail
    refine (hstep w3).mono ?_
    rintro e w4 ⟨b4, p4, rfl, hb4, u4⟩
    have s3 := gz _ t3
    have t4 := t3.trans (u4.mono s3)
    have r4 := h.below t4
    have s4 := u4.size
    clear hstep
    go_wp2_with fail
    refine (bodyfeed_any b4 w3.heap.size 1 0 p4 0 [] w4 hb4 (by decide) A n c g bs r4 (by omega) s4).mono ?_
    rintro e w5 ⟨rfl, hb5, u5'⟩
    rw [Nat.zero_add, List.nil_append] at hb5
    have u5 := u4.trans u5'
    have s5 := u5.size
    clear hb4 u5' r4 u4 s4
    go_wp2_with fail
    refine (bodytake_any b4 w3.heap.size 1 0 p4 n bs false 1 w5 hb5 (by decide) (by omega) (by omega) (by omega) s5).mono ?_
    rintro e w6 ⟨A6, c6, rfl, r6, hb6, u6'⟩
    obtain ⟨eN, eE, eL, eO4⟩ := take_none (kind := 1) (left := 0) (n := n) (ended := false) (.inr ⟨rfl, rfl⟩)
    rw [eE] at r6 ⊢
    rw [eN, eL, Nat.sub_zero, List.drop_zero] at hb6
    have u6 := u5.trans u6'
    have s6 := u6.size
    have t6 := t3.trans (u6.mono s3)
    clear hb5 u6' u5 s5 eN eE eL r6 t4
    have hx6 := hb3.below u6
    clear hb3
    go_wp2_with fail
    refine (ans19_any w6).mono ?_
    rintro e w7 ⟨rfl, v7⟩
    have t7 := t6.trans (v7.mono (gz _ t6))
    have hx7 := hx6.below v7
    have hy7 := hb6.below v7
    have s7 := v7.size
    clear hx6 hb6 v7
    go_wp2_with fail
    refine (brestNil w7).mono ?_
    rintro e w8 ⟨rfl, rfl⟩
    go_wp2_with fail
    refine (bodyrest_over b1 g 0 _ p1 n bs false w7 hx7 (by decide) eO).mono ?_
    rintro e w8 ⟨A8, c8, rfl, o8, -, u8, g8⟩
    have hy8 := hy7.grown g8 hb1w
    have t8 := t7.trans u8
    have r8 := h.below t8
    have s8 := u8.size
    clear hx7 hy7 u8 g8 t7
    go_wp2_with fail
    refine (same_any A8 A n c8 n c _ _ bs bs w8 o8.rd r8 (by omega) (by omega)).mono ?_
    rintro e w9 ⟨rfl, q9, rfl⟩
    rw [beq_self_eq_true]
    have hy9 := hy8.drewN q9
    clear o8 r8 hy8
    go_wp2_with fail
    refine (bodyrest_over b4 w3.heap.size 1 0 p4 n bs false (w8.drewN q9) hy9 (by decide) eO4).mono ?_
    rintro e w10 ⟨A10, c10, rfl, o10, -, u10, -⟩
    have t10 := (below_drewN (k := q9) t8).trans (u10.mono s3)
    have r10 := h.below t10
    clear hy9 u10
    go_wp2_with fail
    refine (same_any A10 A n c10 n c _ _ bs bs w10 o10.rd r10 (by omega) (by omega)).mono ?_
    rintro e w11 ⟨rfl, q11, rfl⟩
    rw [beq_self_eq_true]
    clear o10 r10
    go_wp2_with fail
    go_ret
    exact ⟨rfl, below_drewN t10⟩
  · have hw := hneg.2 hpos
    subst hw
    clear hneg
    go_wp2_with fail
    refine (hstep w3).mono ?_
    rintro e w4 ⟨b4, p4, rfl, hb4, u4⟩
    have s3 := gz _ t3
    have t4 := t3.trans (u4.mono s3)
    have r4 := h.below t4
    have s4 := u4.size
    clear hstep
    go_wp2_with fail
    refine (bodyfeed_any b4 w3.heap.size 1 0 p4 0 [] w4 hb4 (by decide) A n c g bs r4 (by omega) s4).mono ?_
    rintro e w5 ⟨rfl, hb5, u5'⟩
    rw [Nat.zero_add, List.nil_append] at hb5
    have u5 := u4.trans u5'
    have s5 := u5.size
    clear hb4 u5' r4 u4 s4
    go_wp2_with fail
    refine (bodytake_any b4 w3.heap.size 1 0 p4 n bs false 1 w5 hb5 (by decide) (by omega) (by omega) (by omega) s5).mono ?_
    rintro e w6 ⟨A6, c6, rfl, r6, hb6, u6'⟩
    obtain ⟨eN, eE, eL, eO4⟩ := take_none (kind := 1) (left := 0) (n := n) (ended := false) (.inr ⟨rfl, rfl⟩)
    rw [eE] at r6 ⊢
    rw [eN, eL, Nat.sub_zero, List.drop_zero] at hb6
    have u6 := u5.trans u6'
    have s6 := u6.size
    have t6 := t3.trans (u6.mono s3)
    clear hb5 u6' u5 s5 eN eE eL r6 t4
    have hx6 := hb3.below u6
    clear hb3
    go_wp2_with fail
    refine (ans19_any w6).mono ?_
    rintro e w7 ⟨rfl, v7⟩
    have t7 := t6.trans (v7.mono (gz _ t6))
    have hx7 := hx6.below v7
    have hy7 := hb6.below v7
    have s7 := v7.size
    clear hx6 hb6 v7
    go_wp2_with fail
    refine (brestNil w7).mono ?_
    rintro e w8 ⟨rfl, rfl⟩
    go_wp2_with fail
    refine (bodyrest_over b1 g 0 _ p1 n bs false w7 hx7 (by decide) eO).mono ?_
    rintro e w8 ⟨A8, c8, rfl, o8, -, u8, g8⟩
    have hy8 := hy7.grown g8 hb1w
    have t8 := t7.trans u8
    have r8 := h.below t8
    have s8 := u8.size
    clear hx7 hy7 u8 g8 t7
    go_wp2_with fail
    refine (same_any A8 A n c8 n c _ _ bs bs w8 o8.rd r8 (by omega) (by omega)).mono ?_
    rintro e w9 ⟨rfl, q9, rfl⟩
    rw [beq_self_eq_true]
    have hy9 := hy8.drewN q9
    clear o8 r8 hy8
    go_wp2_with fail
    refine (bodyrest_over b4 w3.heap.size 1 0 p4 n bs false (w8.drewN q9) hy9 (by decide) eO4).mono ?_
    rintro e w10 ⟨A10, c10, rfl, o10, -, u10, -⟩
    have t10 := (below_drewN (k := q9) t8).trans (u10.mono s3)
    have r10 := h.below t10
    clear hy9 u10
    go_wp2_with fail
    refine (same_any A10 A n c10 n c _ _ bs bs w10 o10.rd r10 (by omega) (by omega)).mono ?_
    rintro e w11 ⟨rfl, q11, rfl⟩
    rw [beq_self_eq_true]
    clear o10 r10
    go_wp2_with fail
    go_ret
    exact ⟨rfl, below_drewN t10⟩
noncomputable def laidWorld (os : Os) : World := laidWorld7 os
end Go.Proofs.YtdpcncpfbaigeaaDoor.FrameNoneP
