/- EditResponses returns true, whatever its arguments. -/
import Derived.Test.YtgdjlmpfjmakkaaDoorRefResp
import Derived.Test.YtgdjlmpfjmakkaaDoorEditSmall
import Derived.Test.YtgdjlmpfjmakkaaDoorStructs
import Derived.Test.YtgdjlmpfjmakkaaDoorFrameTells
namespace Go.Proofs.YtgdjlmpfjmakkaaDoor
open Go.RowKit

set_option maxRecDepth 100000 in
set_option maxHeartbeats 3200000 in
theorem sameresp_any (minor status : Int) (s_ : ByteArray) (A A' : Option Addr) (n c n' c' B B' : Nat) (fs : List (List UInt8 × List UInt8)) (w : World) (h : Rd w B 2 A n (fcells fs)) (h' : Rd w B' 2 A' n' (fcells fs)) (hB : B ≤ w.heap.size) (hB' : B' ≤ w.heap.size) (hn : n ≤ 140737488355328) (hn' : n' ≤ 140737488355328) :
    Calls Tryd.prog 25 #[.agg #[.int .i64 minor, .int .i64 status, .string s_, .slice A n c], .agg #[.int .i64 minor, .int .i64 status, .string s_, .slice A' n' c']] w fun e w' => e = .returned (.bool true) ∧ Below w.heap.size w w' := by
  have q := fun (W : World) (b : Below w.heap.size w W) => samef_any A A' n c n' c' B B' fs fs W (h.below (b.mono hB)) (h'.below (b.mono hB')) hn hn'
  simp only [decide_true] at q
  go_enter Tryd.func25, Tryd.ntmps25
  go_wp2_with fail
  refine (q _ (below_alloc2 _ _ _)).mono ?_
  rintro e w3 ⟨rfl, k, rfl⟩
  go_wp2
  go_ret
  exact ⟨rfl, below_drewN (below_alloc2 _ _ _)⟩
end Go.Proofs.YtgdjlmpfjmakkaaDoor
namespace Go.Proofs.YtgdjlmpfjmakkaaDoor.EditResponsesP
open Go.RowKit
open FrameLengthsP (step_ rd_put rd_two)
open FrameSmugglesP (allocs allocs_size allocs_below allocs_cell allocs_rd)
open FrameTellsP (of_drew cell_keep)

theorem light_small {fs : List (List UInt8 × List UInt8)} (h : sumF fs ≤ 5000) : ∀ f ∈ fs, f.1.length ≤ 500000 ∧ f.2.length ≤ 500000 := fun f hf => by
  have := sumF_mem fs f hf
  omega

set_option maxRecDepth 100000 in
set_option maxHeartbeats 6400000 in
theorem walk (minor0 status : Int) (s_ : ByteArray) (A : Option Addr) (n c : Nat) (fs : List (List UInt8 × List UInt8)) (pass : Bool) (fr kd kind len minor : Int) (keep : Bool) (w : World)
    (h : Rd w w.heap.size 2 A n (fcells fs)) (hn : n ≤ 9223372036854775807) (hz : ∀ f ∈ fs, f.1.length ≤ reachBytes ∧ f.2.length ≤ reachBytes) (_h1 : (Lit.int .i64 fr).wf = true) (_h2 : (Lit.int .i64 kd).wf = true) (_h3 : (Lit.int .i64 kind).wf = true) (_h4 : (Lit.int .i64 len).wf = true) (_h5 : (Lit.int .i64 minor).wf = true) :
    Calls Tryd.prog 5 #[.agg #[.int .i64 minor0, .int .i64 status, .string s_, .slice A n c], .agg #[.bool pass, .int .i64 fr, .int .i64 kd], .agg #[.int .i64 kind, .int .i64 len], .int .i64 minor, .bool keep] w fun e w' => e = .returned (.bool true) ∧ Below w.heap.size w w' := by
  have hl := fun (W : World) (r : Rd W W.heap.size 2 A n (fcells fs)) => of_drew (light23_any A n c _ fs W r hn hz)
  have hfl := h.flen
  obtain ⟨objs, hobjs⟩ : ∃ l : List Obj, l = [.cells #[.int .i64 minor0, .int .i64 status, .string s_, .slice A n c] 41, .cells #[.bool pass, .int .i64 fr, .int .i64 kd] 43, .cells #[.int .i64 kind, .int .i64 len] 26] := ⟨_, rfl⟩
  have hW : ((w.alloc (.cells #[.int .i64 minor0, .int .i64 status, .string s_, .slice A n c] 41)).alloc (.cells #[.bool pass, .int .i64 fr, .int .i64 kd] 43)).alloc (.cells #[.int .i64 kind, .int .i64 len] 26) = allocs w objs := by rw [hobjs]; rfl
  have tW := allocs_below objs w
  have b1 : Box (allocs w objs) w.heap.size [.int .i64 minor0, .int .i64 status, .string s_, .slice A n c] := box_allocs objs w 0 _ _ (by rw [hobjs]; rfl)
  have b2 : Box (allocs w objs) (w.heap.size + 1) [.bool pass, .int .i64 fr, .int .i64 kd] := box_allocs objs w 1 _ _ (by rw [hobjs]; rfl)
  have b3 : Box (allocs w objs) (w.heap.size + 1 + 1) [.int .i64 kind, .int .i64 len] := box_allocs objs w 2 _ _ (by rw [hobjs]; rfl)
  clear hobjs
  have r1 := step_ h tW
  clear h
  have hcase : lightS 70 5000 fs = false ∨ (lightS 70 5000 fs = true ∧ kd < 0) ∨ (lightS 70 5000 fs = true ∧ 0 ≤ kd ∧ 2 < kd ∧ pass = false) ∨ (lightS 70 5000 fs = true ∧ 0 ≤ kd ∧ (2 < kd ∧ pass = true ∨ kd ≤ 2)) := by
    rcases lightS 70 5000 fs with _ | _
    · exact .inl rfl
    · by_cases h0 : kd < 0
      · exact .inr (.inl ⟨rfl, h0⟩)
      · by_cases h2 : 2 < kd
        · rcases pass with _ | _
          · exact .inr (.inr (.inl ⟨rfl, by omega, h2, rfl⟩))
          · exact .inr (.inr (.inr ⟨rfl, by omega, .inl ⟨h2, rfl⟩⟩))
        · exact .inr (.inr (.inr ⟨rfl, by omega, .inr (by omega)⟩))
  rcases hcase with hL | ⟨hL, hk0⟩ | ⟨hL, hk0, hk2, rfl⟩ | ⟨hL, hk0, hk2⟩
  · rw [hL] at hl
    go_enter Tryd.func5, Tryd.ntmps5
    go_upto_region 1 with (fail)
    generalize allocs w objs = w1 at b1 b2 b3 r1 tW ⊢
    obtain ⟨x0, x1, x2, x3⟩ := b1.four
    go_wp2_with fail
    refine (hl _ r1).mono ?_
    rintro e w2 ⟨rfl, k2⟩
    have t2 := tW.trans (k2.mono tW.size)
    obtain ⟨y0, y1, y2⟩ := (b2.below k2).three
    go_upto_region 2 with (fail)
    go_wp2_with fail
    refine (ans23_any w2).mono ?_
    rintro e w' ⟨rfl, hB⟩
    go_wp2
    go_ret
    exact ⟨rfl, t2.trans (hB.mono t2.size)⟩
  · rw [hL] at hl
    have hc1 : decide (kd < 0) = true := by simpa using hk0
    clear hk0
    go_enter Tryd.func5, Tryd.ntmps5
    go_upto_region 1 with (fail)
    generalize allocs w objs = w1 at b1 b2 b3 r1 tW ⊢
    obtain ⟨x0, x1, x2, x3⟩ := b1.four
    go_wp2_with fail
    refine (hl _ r1).mono ?_
    rintro e w2 ⟨rfl, k2⟩
    have t2 := tW.trans (k2.mono tW.size)
    obtain ⟨y0, y1, y2⟩ := (b2.below k2).three
    go_upto_region 2 with (fail)
    go_wp2_with fail
    refine (ans23_any w2).mono ?_
    rintro e w' ⟨rfl, hB⟩
    go_wp2
    go_ret
    exact ⟨rfl, t2.trans (hB.mono t2.size)⟩
  · rw [hL] at hl
    have hc1 : decide (kd < 0) = false := by simpa using hk0
    have hc2 : decide (2 < kd) = true := by simpa using hk2
    clear hk0 hk2
    go_enter Tryd.func5, Tryd.ntmps5
    go_upto_region 1 with (fail)
    generalize allocs w objs = w1 at b1 b2 b3 r1 tW ⊢
    obtain ⟨x0, x1, x2, x3⟩ := b1.four
    go_wp2_with fail
    refine (hl _ r1).mono ?_
    rintro e w2 ⟨rfl, k2⟩
    have t2 := tW.trans (k2.mono tW.size)
    obtain ⟨y0, y1, y2⟩ := (b2.below k2).three
    go_upto_region 2 with (fail)
    go_wp2_with fail
    refine (ans23_any w2).mono ?_
    rintro e w' ⟨rfl, hB⟩
    go_wp2
    go_ret
    exact ⟨rfl, t2.trans (hB.mono t2.size)⟩
  · rw [hL] at hl
    obtain ⟨hok, h70, hsum⟩ := lightS_ok hL (by omega)
    have hok5 := light_small hsum
    rw [hfl] at h70
    have hkd : pass = true ∨ 0 ≤ kd ∧ kd ≤ 2 := by
      rcases hk2 with ⟨_, h⟩ | h
      · exact .inl h
      · exact .inr ⟨hk0, h⟩
    obtain ⟨i0, hi0, hz0, hz1, hz2⟩ := info_parts infoFld
    have g1 := fun (W : World) (r : Rd W W.heap.size 2 A n (fcells fs)) => editresp_any minor0 status s_ A n c _ fs pass fr kd kind len minor keep W r (Nat.le_refl _) (by omega) hok5 hkd
    have g2 := fun (W : World) (r : Rd W W.heap.size 2 A n (fcells fs)) => refresp23_any minor0 status s_ A n c _ fs pass kd kind len minor keep W r (Nat.le_refl _) (by omega) hok5 hkd
    obtain ⟨qs, hqs⟩ : ∃ l, l = respF fs pass kd.toNat kind minor keep := ⟨_, rfl⟩
    obtain ⟨K', hK⟩ : ∃ l, l = respK pass kind minor := ⟨_, rfl⟩
    obtain ⟨N', hN⟩ : ∃ l, l = respN pass kind len := ⟨_, rfl⟩
    have hqlen : qs.length ≤ 1000 := by
      rw [hqs]
      have h1 : (withoutL fs).length ≤ fs.length := dropsL_len _ _
      have h2 := turn2_le (withoutL fs) kd.toNat
      unfold respF
      simp only [List.length_append]
      have h3 : (if pass = true then withoutL fs else turnedL (withoutL fs) kd.toNat).length ≤ fs.length + 3 := by split <;> omega
      have h4 : (if ¬ (kind = 0 ∨ pass = true ∧ kind = 1) ∧ minor = 1 then [chunkF] else []).length ≤ 1 := by split <;> simp
      have h5 : (if keep = false ∨ respK pass kind minor = 3 then [closeF] else []).length ≤ 1 := by split <;> simp
      omega
    simp only [← hqs, ← hK, ← hN] at g1 g2
    clear hqs hK hN hL hz hok5 hsum
    have hc1 : decide (kd < 0) = false := by simpa using hk0
    have hc2 : decide (2 < kd) = false ∨ (decide (2 < kd) = true ∧ pass = true) := by
      rcases hk2 with ⟨h, h'⟩ | h
      · exact .inr ⟨by simpa using h, h'⟩
      · exact .inl (by simpa using h)
    clear hk0 hk2 hkd
    rcases hc2 with hc2 | ⟨hc2, rfl⟩
    · go_enter Tryd.func5, Tryd.ntmps5
      go_upto_region 1 with (fail)
      generalize allocs w objs = w1 at b1 b2 b3 r1 tW ⊢
      clear hW
      obtain ⟨x0, x1, x2, x3⟩ := b1.four
      go_wp2_with fail
      refine (hl _ r1).mono ?_
      rintro e w2 ⟨rfl, k2⟩
      have t2 := tW.trans (k2.mono tW.size)
      replace b1 := b1.below k2
      replace b2 := b2.below k2
      replace b3 := b3.below k2
      replace r1 := step_ r1 k2
      clear x0 x1 x2 x3 k2 tW hl
      obtain ⟨y0, y1, y2⟩ := b2.three
      go_upto_region 3 with (fail)
      clear y0 y1 y2
      obtain ⟨x0, x1, x2, x3⟩ := b1.four
      have ho := own_new w2 #[] 38 2 0 rfl (by unfold maxLen; omega) w2.heap.size (Nat.le_refl _)
      have hr := r1.alloc (Nat.le_refl _) (.cells #[] 38)
      have ta : Below w2.heap.size w2 (w2.alloc (.cells #[] 38)) := (Below.refl _ _).alloc (Nat.le_refl _) _
      have x3' : (w2.alloc (.cells #[] 38)).cell? ⟨w.heap.size, 3, none⟩ = some (.slice A n c) := cell_keep x3 ta
      go_upto_region 4 with (at_builtin; refine wpl_append _ rfl _ _ _ rfl w2.heap.size _ i0 _ 2 32 Tryd.underlying22 hi0 hz0 hz1 hz2 rfl (by omega) _ _ _ rfl _ _ _ _ _ rfl ho hr (fcells_one fs) (by unfold maxLen; omega) (by omega) ta.size ?_; intro v1 w3 hown1 hbel1 _; rw [Nat.zero_add] at hown1; have hown2 : w3.ownsRow w2.heap.size 38 2 v1 n (fcells fs) := hown1)
      obtain ⟨Ai, ci, rfl, -, -⟩ := own_shape hown2
      have ri := Rd.of_own hown2
      have k := ta.trans hbel1
      replace b1 := b1.below k
      replace b2 := b2.below k
      replace b3 := b3.below k
      replace r1 := step_ r1 k
      have t3 := t2.trans (k.mono t2.size)
      clear hown1 hown2 hbel1 ho hr ta x0 x1 x2 x3 x3' k t2 hi0 hz0 hz1 hz2
      obtain ⟨x0, x1, x2, x3⟩ := b1.four
      obtain ⟨y0, y1, y2⟩ := b2.three
      obtain ⟨z0, z1⟩ := b3.two
      go_wp2_with fail
      refine (g1 w3 r1).mono ?_
      rintro e w4 ⟨Ax, nx, cx, rfl, ox, hcx, k4⟩
      have hnx := ow_flen ox
      go_upto_region 5 with (fail)
      obtain ⟨objs2, ho2⟩ : ∃ l : List Obj, l = [.cells #[.int .i64 1, .int .i64 status, .string s_, .slice Ax nx cx] 41, .cells #[.int .i64 K', .int .i64 N'] 26] := ⟨_, rfl⟩
      have hW2 : (w4.alloc (.cells #[.int .i64 1, .int .i64 status, .string s_, .slice Ax nx cx] 41)).alloc (.cells #[.int .i64 K', .int .i64 N'] 26) = allocs w4 objs2 := by rw [ho2]; rfl
      have bx : Box (allocs w4 objs2) w4.heap.size [.int .i64 1, .int .i64 status, .string s_, .slice Ax nx cx] := box_allocs objs2 w4 0 _ _ (by rw [ho2]; rfl)
      have bf : Box (allocs w4 objs2) (w4.heap.size + 1) [.int .i64 K', .int .i64 N'] := box_allocs objs2 w4 1 _ _ (by rw [ho2]; rfl)
      have ka := allocs_below objs2 w4
      have k := k4.trans (ka.mono k4.size)
      have rx := step_ ox.rd ka
      replace b1 := b1.below k
      replace b2 := b2.below k
      replace b3 := b3.below k
      replace r1 := step_ r1 k
      replace ri := step_ ri k
      have t4 := t3.trans (k.mono t3.size)
      obtain ⟨gx, hgx⟩ : ∃ g, g = w4.heap.size := ⟨_, rfl⟩
      rw [← hgx] at bx bf
      rw [← hgx, hW2]
      generalize allocs w4 objs2 = w5 at bx bf rx b1 b2 b3 r1 ri t4 ⊢
      clear hgx k k4 ka ox g1 t3 x0 x1 x2 x3 y0 y1 y2 z0 z1 ho2 hW2 objs2
      obtain ⟨x0, x1, x2, x3⟩ := b1.four
      obtain ⟨y0, y1, y2⟩ := b2.three
      obtain ⟨z0, z1⟩ := b3.two
      go_wp2_with fail
      refine (g2 w5 r1).mono ?_
      rintro e w6 ⟨Ay, ny, cy, rfl, oy, hcy, k6⟩
      have hny : ny = nx := (ow_flen oy).symm.trans hnx
      subst hny
      go_upto_region 6 with (fail)
      obtain ⟨objs2, ho2⟩ : ∃ l : List Obj, l = [.cells #[.int .i64 1, .int .i64 status, .string s_, .slice Ay ny cy] 41, .cells #[.int .i64 K', .int .i64 N'] 26] := ⟨_, rfl⟩
      have hW2 : (w6.alloc (.cells #[.int .i64 1, .int .i64 status, .string s_, .slice Ay ny cy] 41)).alloc (.cells #[.int .i64 K', .int .i64 N'] 26) = allocs w6 objs2 := by rw [ho2]; rfl
      have by_ : Box (allocs w6 objs2) w6.heap.size [.int .i64 1, .int .i64 status, .string s_, .slice Ay ny cy] := box_allocs objs2 w6 0 _ _ (by rw [ho2]; rfl)
      have bg : Box (allocs w6 objs2) (w6.heap.size + 1) [.int .i64 K', .int .i64 N'] := box_allocs objs2 w6 1 _ _ (by rw [ho2]; rfl)
      have ka := allocs_below objs2 w6
      have k := k6.trans (ka.mono k6.size)
      have ry := step_ oy.rd ka
      replace b1 := b1.below k
      replace bx := bx.below k
      replace bf := bf.below k
      replace r1 := step_ r1 k
      replace ri := step_ ri k
      replace rx := step_ rx k
      have t5 := t4.trans (k.mono t4.size)
      obtain ⟨gy, hgy⟩ : ∃ g, g = w6.heap.size := ⟨_, rfl⟩
      rw [← hgy] at by_ bg
      rw [← hgy, hW2]
      generalize allocs w6 objs2 = w7 at bx bf rx by_ bg ry b1 r1 ri t5 ⊢
      clear hgy k k6 ka oy g2 t4 x0 x1 x2 x3 y0 y1 y2 z0 z1 ho2 hW2 objs2 b2 b3
      go_wp2_with fail
      refine (ans23_any w7).mono ?_
      rintro e w8 ⟨rfl, k⟩
      replace b1 := b1.below k
      replace bx := bx.below k
      replace bf := bf.below k
      replace by_ := by_.below k
      replace bg := bg.below k
      replace r1 := step_ r1 k
      replace ri := step_ ri k
      replace rx := step_ rx k
      replace ry := step_ ry k
      have t6 := t5.trans (k.mono t5.size)
      clear k t5
      obtain ⟨x0, x1, x2, x3⟩ := bx.four
      obtain ⟨y0, y1, y2, y3⟩ := by_.four
      have q := sameresp_any 1 status s_ Ax Ay ny cx ny cy _ _ qs w8 rx ry (Nat.le_refl _) (Nat.le_refl _) (by omega) (by omega)
      go_wp2_with fail
      refine q.mono ?_
      rintro e w9 ⟨rfl, k⟩
      replace b1 := b1.below k
      replace bf := bf.below k
      replace bg := bg.below k
      replace r1 := step_ r1 k
      replace ri := step_ ri k
      have t7 := t6.trans (k.mono t6.size)
      clear k t6 x0 x1 x2 x3 y0 y1 y2 y3 q rx ry bx by_
      obtain ⟨x0, x1, x2, x3⟩ := b1.four
      obtain ⟨y0, y1⟩ := bf.two
      obtain ⟨z0, z1⟩ := bg.two
      have q := samef_any Ai A n ci n c _ _ fs fs w9 ri r1 (by omega) (by omega)
      simp only [decide_true] at q
      go_wp2_with fail
      refine q.mono ?_
      rintro e w10 ⟨rfl, kk, rfl⟩
      go_wp2
      go_ret
      exact ⟨rfl, below_drewN t7⟩
    · go_enter Tryd.func5, Tryd.ntmps5
      go_upto_region 1 with (fail)
      generalize allocs w objs = w1 at b1 b2 b3 r1 tW ⊢
      clear hW
      obtain ⟨x0, x1, x2, x3⟩ := b1.four
      go_wp2_with fail
      refine (hl _ r1).mono ?_
      rintro e w2 ⟨rfl, k2⟩
      have t2 := tW.trans (k2.mono tW.size)
      replace b1 := b1.below k2
      replace b2 := b2.below k2
      replace b3 := b3.below k2
      replace r1 := step_ r1 k2
      clear x0 x1 x2 x3 k2 tW hl
      obtain ⟨y0, y1, y2⟩ := b2.three
      go_upto_region 3 with (fail)
      clear y0 y1 y2
      obtain ⟨x0, x1, x2, x3⟩ := b1.four
      have ho := own_new w2 #[] 38 2 0 rfl (by unfold maxLen; omega) w2.heap.size (Nat.le_refl _)
      have hr := r1.alloc (Nat.le_refl _) (.cells #[] 38)
      have ta : Below w2.heap.size w2 (w2.alloc (.cells #[] 38)) := (Below.refl _ _).alloc (Nat.le_refl _) _
      have x3' : (w2.alloc (.cells #[] 38)).cell? ⟨w.heap.size, 3, none⟩ = some (.slice A n c) := cell_keep x3 ta
      go_upto_region 4 with (at_builtin; refine wpl_append _ rfl _ _ _ rfl w2.heap.size _ i0 _ 2 32 Tryd.underlying22 hi0 hz0 hz1 hz2 rfl (by omega) _ _ _ rfl _ _ _ _ _ rfl ho hr (fcells_one fs) (by unfold maxLen; omega) (by omega) ta.size ?_; intro v1 w3 hown1 hbel1 _; rw [Nat.zero_add] at hown1; have hown2 : w3.ownsRow w2.heap.size 38 2 v1 n (fcells fs) := hown1)
      obtain ⟨Ai, ci, rfl, -, -⟩ := own_shape hown2
      have ri := Rd.of_own hown2
      have k := ta.trans hbel1
      replace b1 := b1.below k
      replace b2 := b2.below k
      replace b3 := b3.below k
      replace r1 := step_ r1 k
      have t3 := t2.trans (k.mono t2.size)
      clear hown1 hown2 hbel1 ho hr ta x0 x1 x2 x3 x3' k t2 hi0 hz0 hz1 hz2
      obtain ⟨x0, x1, x2, x3⟩ := b1.four
      obtain ⟨y0, y1, y2⟩ := b2.three
      obtain ⟨z0, z1⟩ := b3.two
      go_wp2_with fail
      refine (g1 w3 r1).mono ?_
      rintro e w4 ⟨Ax, nx, cx, rfl, ox, hcx, k4⟩
      have hnx := ow_flen ox
      go_upto_region 5 with (fail)
      obtain ⟨objs2, ho2⟩ : ∃ l : List Obj, l = [.cells #[.int .i64 1, .int .i64 status, .string s_, .slice Ax nx cx] 41, .cells #[.int .i64 K', .int .i64 N'] 26] := ⟨_, rfl⟩
      have hW2 : (w4.alloc (.cells #[.int .i64 1, .int .i64 status, .string s_, .slice Ax nx cx] 41)).alloc (.cells #[.int .i64 K', .int .i64 N'] 26) = allocs w4 objs2 := by rw [ho2]; rfl
      have bx : Box (allocs w4 objs2) w4.heap.size [.int .i64 1, .int .i64 status, .string s_, .slice Ax nx cx] := box_allocs objs2 w4 0 _ _ (by rw [ho2]; rfl)
      have bf : Box (allocs w4 objs2) (w4.heap.size + 1) [.int .i64 K', .int .i64 N'] := box_allocs objs2 w4 1 _ _ (by rw [ho2]; rfl)
      have ka := allocs_below objs2 w4
      have k := k4.trans (ka.mono k4.size)
      have rx := step_ ox.rd ka
      replace b1 := b1.below k
      replace b2 := b2.below k
      replace b3 := b3.below k
      replace r1 := step_ r1 k
      replace ri := step_ ri k
      have t4 := t3.trans (k.mono t3.size)
      obtain ⟨gx, hgx⟩ : ∃ g, g = w4.heap.size := ⟨_, rfl⟩
      rw [← hgx] at bx bf
      rw [← hgx, hW2]
      generalize allocs w4 objs2 = w5 at bx bf rx b1 b2 b3 r1 ri t4 ⊢
      clear hgx k k4 ka ox g1 t3 x0 x1 x2 x3 y0 y1 y2 z0 z1 ho2 hW2 objs2
      obtain ⟨x0, x1, x2, x3⟩ := b1.four
      obtain ⟨y0, y1, y2⟩ := b2.three
      obtain ⟨z0, z1⟩ := b3.two
      go_wp2_with fail
      refine (g2 w5 r1).mono ?_
      rintro e w6 ⟨Ay, ny, cy, rfl, oy, hcy, k6⟩
      have hny : ny = nx := (ow_flen oy).symm.trans hnx
      subst hny
      go_upto_region 6 with (fail)
      obtain ⟨objs2, ho2⟩ : ∃ l : List Obj, l = [.cells #[.int .i64 1, .int .i64 status, .string s_, .slice Ay ny cy] 41, .cells #[.int .i64 K', .int .i64 N'] 26] := ⟨_, rfl⟩
      have hW2 : (w6.alloc (.cells #[.int .i64 1, .int .i64 status, .string s_, .slice Ay ny cy] 41)).alloc (.cells #[.int .i64 K', .int .i64 N'] 26) = allocs w6 objs2 := by rw [ho2]; rfl
      have by_ : Box (allocs w6 objs2) w6.heap.size [.int .i64 1, .int .i64 status, .string s_, .slice Ay ny cy] := box_allocs objs2 w6 0 _ _ (by rw [ho2]; rfl)
      have bg : Box (allocs w6 objs2) (w6.heap.size + 1) [.int .i64 K', .int .i64 N'] := box_allocs objs2 w6 1 _ _ (by rw [ho2]; rfl)
      have ka := allocs_below objs2 w6
      have k := k6.trans (ka.mono k6.size)
      have ry := step_ oy.rd ka
      replace b1 := b1.below k
      replace bx := bx.below k
      replace bf := bf.below k
      replace r1 := step_ r1 k
      replace ri := step_ ri k
      replace rx := step_ rx k
      have t5 := t4.trans (k.mono t4.size)
      obtain ⟨gy, hgy⟩ : ∃ g, g = w6.heap.size := ⟨_, rfl⟩
      rw [← hgy] at by_ bg
      rw [← hgy, hW2]
      generalize allocs w6 objs2 = w7 at bx bf rx by_ bg ry b1 r1 ri t5 ⊢
      clear hgy k k6 ka oy g2 t4 x0 x1 x2 x3 y0 y1 y2 z0 z1 ho2 hW2 objs2 b2 b3
      go_wp2_with fail
      refine (ans23_any w7).mono ?_
      rintro e w8 ⟨rfl, k⟩
      replace b1 := b1.below k
      replace bx := bx.below k
      replace bf := bf.below k
      replace by_ := by_.below k
      replace bg := bg.below k
      replace r1 := step_ r1 k
      replace ri := step_ ri k
      replace rx := step_ rx k
      replace ry := step_ ry k
      have t6 := t5.trans (k.mono t5.size)
      clear k t5
      obtain ⟨x0, x1, x2, x3⟩ := bx.four
      obtain ⟨y0, y1, y2, y3⟩ := by_.four
      have q := sameresp_any 1 status s_ Ax Ay ny cx ny cy _ _ qs w8 rx ry (Nat.le_refl _) (Nat.le_refl _) (by omega) (by omega)
      go_wp2_with fail
      refine q.mono ?_
      rintro e w9 ⟨rfl, k⟩
      replace b1 := b1.below k
      replace bf := bf.below k
      replace bg := bg.below k
      replace r1 := step_ r1 k
      replace ri := step_ ri k
      have t7 := t6.trans (k.mono t6.size)
      clear k t6 x0 x1 x2 x3 y0 y1 y2 y3 q rx ry bx by_
      obtain ⟨x0, x1, x2, x3⟩ := b1.four
      obtain ⟨y0, y1⟩ := bf.two
      obtain ⟨z0, z1⟩ := bg.two
      have q := samef_any Ai A n ci n c _ _ fs fs w9 ri r1 (by omega) (by omega)
      simp only [decide_true] at q
      go_wp2_with fail
      refine q.mono ?_
      rintro e w10 ⟨rfl, kk, rfl⟩
      go_wp2
      go_ret
      exact ⟨rfl, below_drewN t7⟩
end Go.Proofs.YtgdjlmpfjmakkaaDoor.EditResponsesP
