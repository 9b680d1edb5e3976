/- EditRequests returns true, whatever its arguments. -/
import Derived.Test.YtgdjlmpfjmakkaaDoorRefReq
import Derived.Test.YtgdjlmpfjmakkaaDoorEditSmall
import Derived.Test.YtgdjlmpfjmakkaaDoorStructs
import Derived.Test.YtgdjlmpfjmakkaaDoorFrameTells
namespace Go.Proofs.YtgdjlmpfjmakkaaDoor.EditRequestsP
open Go.RowKit
open FrameLengthsP (step_ rd_put rd_two)
open FrameSmugglesP (allocs allocs_size allocs_below allocs_cell allocs_rd)
open FrameTellsP (of_drew cell_keep)

set_option maxRecDepth 100000 in
set_option maxHeartbeats 6400000 in
theorem walk (m t : ByteArray) (minor : Int) (A : Option Addr) (n c : Nat) (fs : List (List UInt8 × List UInt8)) (kind len : Int) (w : World)
    (h : Rd w w.heap.size 2 A n (fcells fs)) (hn : n ≤ 9223372036854775807) (hz : ∀ f ∈ fs, f.1.length ≤ reachBytes ∧ f.2.length ≤ reachBytes) (_hk : (Lit.int .i64 kind).wf = true) (_hl : (Lit.int .i64 len).wf = true) :
    Calls Tryd.prog 3 #[.agg #[.string m, .string t, .int .i64 minor, .slice A n c], .agg #[.int .i64 kind, .int .i64 len]] w fun e w' => e = .returned (.bool true) ∧ Below w.heap.size w w' := by
  have hl := fun (W : World) (r : Rd W W.heap.size 2 A n (fcells fs)) => of_drew (light23_any A n c _ fs W r hn hz)
  have hfl := h.flen
  obtain ⟨objs, hobjs⟩ : ∃ l : List Obj, l = [.cells #[.string m, .string t, .int .i64 minor, .slice A n c] 24, .cells #[.int .i64 kind, .int .i64 len] 26] := ⟨_, rfl⟩
  have hW : (w.alloc (.cells #[.string m, .string t, .int .i64 minor, .slice A n c] 24)).alloc (.cells #[.int .i64 kind, .int .i64 len] 26) = allocs w objs := by rw [hobjs]; rfl
  have tW := allocs_below objs w
  have b1 : Box (allocs w objs) w.heap.size [.string m, .string t, .int .i64 minor, .slice A n c] := box_allocs objs w 0 _ _ (by rw [hobjs]; rfl)
  have b2 : Box (allocs w objs) (w.heap.size + 1) [.int .i64 kind, .int .i64 len] := box_allocs objs w 1 _ _ (by rw [hobjs]; rfl)
  clear hobjs
  have r1 := step_ h tW
  clear h
  rcases hL : lightS 70 5000 fs with _ | _
  · rw [hL] at hl
    go_enter Tryd.func3, Tryd.ntmps3
    go_upto_region 1 with (fail)
    generalize allocs w objs = w1 at b1 b2 r1 tW ⊢
    obtain ⟨x0, x1, x2, x3⟩ := b1.four
    go_wp2_with fail
    refine (hl _ r1).mono ?_
    rintro e w2 ⟨rfl, k2⟩
    have t2 := tW.trans (k2.mono tW.size)
    go_wp2_with (refine (ans23_any _).mono ?_; rintro e w' ⟨rfl, hB⟩)
    go_ret
    exact ⟨rfl, t2.trans (hB.mono t2.size)⟩
  · rw [hL] at hl
    obtain ⟨hok, h70, -⟩ := lightS_ok hL (by omega)
    rw [hfl] at h70
    have hrok := requestF_ok hok kind
    have hrlen := requestF_len fs kind
    rw [hfl] at hrlen
    obtain ⟨i0, hi0, hz0, hz1, hz2⟩ := info_parts infoFld
    have g1 := fun (W : World) (r : Rd W W.heap.size 2 A n (fcells fs)) => editreq_any m t minor A n c _ fs kind len W r (Nat.le_refl _) (by omega) hok
    have g2 := fun (W : World) (r : Rd W W.heap.size 2 A n (fcells fs)) => refreq23_any m t minor A n c _ fs kind len W r (Nat.le_refl _) (by omega) hok
    have htr := request_tr fs kind
    have hco := request_conn fs kind
    have hte := request_te fs kind
    obtain ⟨qs, hqs⟩ : ∃ l, l = requestF fs kind := ⟨_, rfl⟩
    rw [← hqs] at hrok hrlen htr hco hte
    simp only [← hqs] at g1 g2
    obtain ⟨L, hLL⟩ : ∃ L, qs.length = L := ⟨_, rfl⟩
    rw [hLL] at hrlen
    simp only [hLL] at g1 g2
    clear hqs hL hLL hz
    go_enter Tryd.func3, Tryd.ntmps3
    go_upto_region 1 with (fail)
    generalize allocs w objs = w1 at b1 b2 r1 tW ⊢
    clear hW
    obtain ⟨x0, x1, x2, x3⟩ := b1.four
    go_wp2_with fail
    refine (hl _ r1).mono ?_
    rintro e w2 ⟨rfl, k2⟩
    have t2 := tW.trans (k2.mono tW.size)
    replace b1 := b1.below k2
    replace b2 := b2.below k2
    replace r1 := step_ r1 k2
    clear x0 x1 x2 x3 k2 tW hl
    go_upto_region 3 with (fail)
    obtain ⟨x0, x1, x2, x3⟩ := b1.four
    have ho := own_new w2 #[] 38 2 0 rfl (by unfold maxLen; omega) w2.heap.size (Nat.le_refl _)
    have hr := r1.alloc (Nat.le_refl _) (.cells #[] 38)
    have ta : Below w2.heap.size w2 (w2.alloc (.cells #[] 38)) := (Below.refl _ _).alloc (Nat.le_refl _) _
    have x3' : (w2.alloc (.cells #[] 38)).cell? ⟨w.heap.size, 3, none⟩ = some (.slice A n c) := cell_keep x3 ta
    go_upto_region 4 with (at_builtin; refine wpl_append _ rfl _ _ _ rfl w2.heap.size _ i0 _ 2 32 Tryd.underlying22 hi0 hz0 hz1 hz2 rfl (by omega) _ _ _ rfl _ _ _ _ _ rfl ho hr (fcells_one fs) (by unfold maxLen; omega) (by omega) ta.size ?_; intro v1 w3 hown1 hbel1 _; rw [Nat.zero_add] at hown1; have hown2 : w3.ownsRow w2.heap.size 38 2 v1 n (fcells fs) := hown1)
    obtain ⟨Ai, ci, rfl, -, -⟩ := own_shape hown2
    have ri := Rd.of_own hown2
    have k := ta.trans hbel1
    replace b1 := b1.below k
    replace b2 := b2.below k
    replace r1 := step_ r1 k
    have t3 := t2.trans (k.mono t2.size)
    clear hown1 hown2 hbel1 ho hr ta x0 x1 x2 x3 x3' k t2 hi0 hz0 hz1 hz2
    obtain ⟨x0, x1, x2, x3⟩ := b1.four
    obtain ⟨y0, y1⟩ := b2.two
    go_wp2_with fail
    refine (g1 w3 r1).mono ?_
    rintro e w4 ⟨Ax, cx, rfl, ox, hcx, k4⟩
    go_upto_region 5 with (fail)
    have bx := Box.new w4 #[.string m, .string t, .int .i64 1, .slice Ax L cx] 24
    have k := k4.alloc k4.size (.cells #[.string m, .string t, .int .i64 1, .slice Ax L cx] 24)
    have rx := (ox.alloc (.cells #[.string m, .string t, .int .i64 1, .slice Ax L cx] 24)).rd
    replace b1 := b1.below k
    replace b2 := b2.below k
    replace r1 := step_ r1 k
    replace ri := step_ ri k
    have t4 := t3.trans (k.mono t3.size)
    obtain ⟨gx, hgx⟩ : ∃ g, g = w4.heap.size := ⟨_, rfl⟩
    rw [← hgx] at bx
    rw [← hgx]
    generalize w4.alloc _ = w5 at bx rx b1 b2 r1 ri t4 ⊢
    clear hgx k k4 ox g1 t3 x0 x1 x2 x3 y0 y1
    obtain ⟨x0, x1, x2, x3⟩ := b1.four
    obtain ⟨y0, y1⟩ := b2.two
    obtain ⟨z0, z1, z2, z3⟩ := bx.four
    have mk : ∀ W, Below w5.heap.size w5 W → (W.cell? ⟨w.heap.size, 0, none⟩ = some (.string m) ∧ W.cell? ⟨w.heap.size, 1, none⟩ = some (.string t) ∧ W.cell? ⟨w.heap.size, 2, none⟩ = some (.int .i64 minor) ∧ W.cell? ⟨w.heap.size, 3, none⟩ = some (.slice A n c) ∧
        W.cell? ⟨w.heap.size + 1, 0, none⟩ = some (.int .i64 kind) ∧ W.cell? ⟨w.heap.size + 1, 1, none⟩ = some (.int .i64 len) ∧ W.cell? ⟨gx, 0, none⟩ = some (.string m) ∧ W.cell? ⟨gx, 1, none⟩ = some (.string t) ∧ W.cell? ⟨gx, 2, none⟩ = some (.int .i64 1) ∧ W.cell? ⟨gx, 3, none⟩ = some (.slice Ax L cx)) :=
      fun W b => ⟨cell_keep x0 b, cell_keep x1 b, cell_keep x2 b, cell_keep x3 b, cell_keep y0 b, cell_keep y1 b, cell_keep z0 b, cell_keep z1 b, cell_keep z2 b, cell_keep z3 b⟩
    have hs := fun (W : World) (b : Below w5.heap.size w5 W) => samef_any Ai A n ci n c _ _ fs fs W (ri.below b) (r1.below b) (by omega) (by omega)
    simp only [decide_true] at hs
    go_region_held3 (fun W => W.cell? ⟨w.heap.size, 0, none⟩ = some (.string m) ∧ W.cell? ⟨w.heap.size, 1, none⟩ = some (.string t) ∧ W.cell? ⟨w.heap.size, 2, none⟩ = some (.int .i64 minor) ∧ W.cell? ⟨w.heap.size, 3, none⟩ = some (.slice A n c) ∧
        W.cell? ⟨w.heap.size + 1, 0, none⟩ = some (.int .i64 kind) ∧ W.cell? ⟨w.heap.size + 1, 1, none⟩ = some (.int .i64 len) ∧ W.cell? ⟨gx, 0, none⟩ = some (.string m) ∧ W.cell? ⟨gx, 1, none⟩ = some (.string t) ∧ W.cell? ⟨gx, 2, none⟩ = some (.int .i64 1) ∧ W.cell? ⟨gx, 3, none⟩ = some (.slice Ax L cx))
      (first | exact mk _ below_drew | exact mk _ c12 | exact mk _ c13 | exact mk _ c14 | exact mk _ c15 | assumption)
      (first
        | (go_at_call 15; refine (ans23_any _).mono ?_; rintro e w12 ⟨rfl, k12⟩; have c12 : Below w5.heap.size w5 w12 := below_drew.trans (k12.mono (Nat.le_refl _)))
        | (go_at_call 18; refine (g2 w12 (step_ r1 c12)).mono ?_; rintro e w13 ⟨Ay, cy, rfl, oy, hcy, k13⟩; have c13 : Below w5.heap.size w5 w13 := c12.trans (k13.mono c12.size))
        | (go_at_call 17; refine (samereq_any m t 1 Ax Ay L cx L cy _ _ qs w13 (rx.below c13) oy.rd c13.size (Nat.le_refl _) (by omega) (by omega)).mono ?_; rintro e w14 ⟨rfl, k14⟩; have c14 : Below w5.heap.size w5 w14 := c13.trans (k14.mono c13.size))
        | (go_at_call 19; refine (hs w14 c14).mono ?_; rintro e w15 ⟨rfl, kk, rfl⟩; have c15 : Below w5.heap.size w5 (w14.drewN kk) := below_drewN c14))
    generalize w14.drewN kk = w16 at c15 ⊢
    replace bx := bx.below c15
    replace b2 := b2.below c15
    replace rx := step_ rx c15
    have t5 := t4.trans (c15.mono t4.size)
    have q1 := fun (W : World) (r : Rd W W.heap.size 2 Ax L (fcells qs)) => refget_any Ax L cx _ qs ⟨#[84, 114, 97, 110, 115, 102, 101, 114, 45, 69, 110, 99, 111, 100, 105, 110, 103]⟩ W r (Nat.le_refl _) (by omega) hrok (by decide)
    have q2 := fun (W : World) (r : Rd W W.heap.size 2 Ax L (fcells qs)) => refget_any Ax L cx _ qs ⟨#[67, 111, 110, 110, 101, 99, 116, 105, 111, 110]⟩ W r (Nat.le_refl _) (by omega) hrok (by decide)
    have q3 := fun (W : World) (r : Rd W W.heap.size 2 Ax L (fcells qs)) => refget_any Ax L cx _ qs ⟨#[84, 69]⟩ W r (Nat.le_refl _) (by omega) hrok (by decide)
    have e1 : getL qs (⟨#[84, 114, 97, 110, 115, 102, 101, 114, 45, 69, 110, 99, 111, 100, 105, 110, 103]⟩ : ByteArray).data.toList = if kind = 2 then [chunkedL] else [] := htr
    have e2 : getL qs (⟨#[67, 111, 110, 110, 101, 99, 116, 105, 111, 110]⟩ : ByteArray).data.toList = [] := hco
    have e3 : getL qs (⟨#[84, 69]⟩ : ByteArray).data.toList = [] := hte
    rw [e2] at q2
    rw [e3] at q3
    simp only [List.length_nil] at q2 q3
    clear x0 x1 x2 x3 y0 y1 z0 z1 z2 z3 mk hs c12 c13 c14 c15 b1 r1 ri k14 k13 k12 oy g2 t4 e2 e3 htr hco hte hrok
    by_cases hk : kind = 2
    · rw [if_pos hk] at e1
      rw [e1] at q1
      simp only [List.length_singleton] at q1
      clear e1
      have hk2 : (kind == 2) = true := by simpa using hk
      clear hk
      obtain ⟨z0, z1, z2, z3⟩ := bx.four
      go_wp2_with fail
      refine (q1 w16 rx).mono ?_
      rintro e w17 ⟨A17, c17, rfl, -, -, k⟩
      replace bx := bx.below k
      replace b2 := b2.below k
      replace rx := step_ rx k
      have t6 := t5.trans (k.mono t5.size)
      clear z0 z1 z2 z3 k t5 q1
      obtain ⟨z0, z1, z2, z3⟩ := bx.four
      go_wp2_with fail
      refine (q2 w17 rx).mono ?_
      rintro e w18 ⟨A18, c18, rfl, -, -, k⟩
      replace bx := bx.below k
      replace b2 := b2.below k
      replace rx := step_ rx k
      have t7 := t6.trans (k.mono t6.size)
      clear z0 z1 z2 z3 k t6 q2
      obtain ⟨z0, z1, z2, z3⟩ := bx.four
      go_wp2_with fail
      refine (q3 w18 rx).mono ?_
      rintro e w19 ⟨A19, c19, rfl, -, -, k⟩
      replace b2 := b2.below k
      have t8 := t7.trans (k.mono t7.size)
      obtain ⟨y0, y1⟩ := b2.two
      clear z0 z1 z2 z3 k t7 q3
      go_wp2
      go_ret
      exact ⟨rfl, t8⟩
    · rw [if_neg hk] at e1
      rw [e1] at q1
      simp only [List.length_nil] at q1
      clear e1
      have hk2 : (kind == 2) = false := by simpa using hk
      clear hk
      obtain ⟨z0, z1, z2, z3⟩ := bx.four
      go_wp2_with fail
      refine (q1 w16 rx).mono ?_
      rintro e w17 ⟨A17, c17, rfl, -, -, k⟩
      replace bx := bx.below k
      replace b2 := b2.below k
      replace rx := step_ rx k
      have t6 := t5.trans (k.mono t5.size)
      clear z0 z1 z2 z3 k t5 q1
      obtain ⟨z0, z1, z2, z3⟩ := bx.four
      go_wp2_with fail
      refine (q2 w17 rx).mono ?_
      rintro e w18 ⟨A18, c18, rfl, -, -, k⟩
      replace bx := bx.below k
      replace b2 := b2.below k
      replace rx := step_ rx k
      have t7 := t6.trans (k.mono t6.size)
      clear z0 z1 z2 z3 k t6 q2
      obtain ⟨z0, z1, z2, z3⟩ := bx.four
      go_wp2_with fail
      refine (q3 w18 rx).mono ?_
      rintro e w19 ⟨A19, c19, rfl, -, -, k⟩
      replace b2 := b2.below k
      have t8 := t7.trans (k.mono t7.size)
      obtain ⟨y0, y1⟩ := b2.two
      clear z0 z1 z2 z3 k t7 q3
      go_wp2
      go_ret
      exact ⟨rfl, t8⟩
end Go.Proofs.YtgdjlmpfjmakkaaDoor.EditRequestsP
