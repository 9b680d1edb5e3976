/- The reference's Request, by a cut around the region that draws. -/
import Derived.Test.YtgdjlmpfjmakkaaDoorEditReq
import Derived.Deep.RegionHeld3
import Derived.Deep.CutRange
import Derived.Deep.DeepCutAuto
namespace Go.Proofs.YtgdjlmpfjmakkaaDoor
open Go.RowKit
open FrameSmugglesP (allocs allocs_size allocs_below allocs_cell allocs_rd)
theorem s_keep {w0 W w' : World} {a b c : Addr} {x y z : Value} (h : W.cell? a = some x ∧ W.cell? b = some y ∧ W.cell? c = some z ∧ Below w0.heap.size w0 W) (k : Below W.heap.size W w') : w'.cell? a = some x ∧ w'.cell? b = some y ∧ w'.cell? c = some z ∧ Below w0.heap.size w0 w' :=
  ⟨(k.cell (World.block_lt_of_cell? W _ h.1)).trans h.1, (k.cell (World.block_lt_of_cell? W _ h.2.1)).trans h.2.1, (k.cell (World.block_lt_of_cell? W _ h.2.2.1)).trans h.2.2.1, h.2.2.2.trans (k.mono h.2.2.2.size)⟩
theorem ow_new {w : World} {base size n : Nat} {v : Value} {xs : List Value} (h : Ow w base size v n xs) : v.ownBlock ≠ some w.heap.size := by
  intro e
  have := (h.lt _ e).2
  omega
theorem below_drew {w : World} {B : Nat} : Below B w w.drew := below_drewN (k := 1) (Below.refl _ _)
set_option maxRecDepth 100000 in
set_option maxHeartbeats 6400000 in
theorem refreq23_any (m t : ByteArray) (minor : Int) (A : Option Addr) (n c B : Nat) (fs : List (List UInt8 × List UInt8)) (kind len : Int) (w : World) (h : Rd w B 2 A n (fcells fs)) (hB : B ≤ w.heap.size) (hn : n ≤ 1000) (hok : fsOk fs) :
    Calls Tryd.prog 18 #[.agg #[.string m, .string t, .int .i64 minor, .slice A n c], .agg #[.int .i64 kind, .int .i64 len]] w fun e w' => ∃ A' c', e = .returned (.agg #[.string m, .string t, .int .i64 1, .slice A' (requestF fs kind).length c']) ∧
      Ow w' w.heap.size 2 (.slice A' (requestF fs kind).length c') (requestF fs kind).length (fcells (requestF fs kind)) ∧ (requestF fs kind).length ≤ c' ∧ Below w.heap.size w w' := by
  obtain ⟨objs, hobjs⟩ : ∃ l : List Obj, l = [.cells #[.string m, .string t, .int .i64 minor, .slice A n c] 24, .cells #[.int .i64 kind, .int .i64 len] 26, .cells #[.string ⟨#[]⟩, .string ⟨#[]⟩, .int .i64 0, .slice none 0 0] 24] := ⟨_, rfl⟩
  have hW : ((w.alloc (.cells #[.string m, .string t, .int .i64 minor, .slice A n c] 24)).alloc (.cells #[.int .i64 kind, .int .i64 len] 26)).alloc (.cells #[.string ⟨#[]⟩, .string ⟨#[]⟩, .int .i64 0, .slice none 0 0] 24) = allocs w objs := by rw [hobjs]; rfl
  have tW := allocs_below objs w
  have b1 : Box (allocs w objs) w.heap.size [.string m, .string t, .int .i64 minor, .slice A n c] := box_allocs objs w 0 _ _ (by rw [hobjs]; rfl)
  have b2 : Box (allocs w objs) (w.heap.size + 1) [.int .i64 kind, .int .i64 len] := box_allocs objs w 1 _ _ (by rw [hobjs]; rfl)
  have b3 : Box (allocs w objs) (w.heap.size + 1 + 1) [.string ⟨#[]⟩, .string ⟨#[]⟩, .int .i64 0, .slice none 0 0] := box_allocs objs w 2 _ _ (by rw [hobjs]; rfl)
  have hfl := dropsL_len (hopL ++ namesL fs) fs
  have hfl' := h.flen
  rw [hfl'] at hfl
  change (withoutL fs).length ≤ n at hfl
  clear hobjs
  go_enter Tryd.func18, Tryd.ntmps18
  go_upto_region 1 with (fail)
  have rl := h.below (tW.mono hB)
  generalize allocs w objs = w0 at b1 b2 b3 tW rl ⊢
  obtain ⟨g, hg⟩ : ∃ g, g = w.heap.size := ⟨_, rfl⟩
  rw [← hg] at b1 b2 b3 tW hB
  rw [← hg]
  have HG := hide hg
  clear hg hW h
  obtain ⟨c0, c1, c2, c3⟩ := b1.four
  have hB0 : B ≤ w0.heap.size := by have := b1.1; omega
  have hw := fun (W : World) (b : Below w0.heap.size w0 W) => refwithout_any A n c B fs W (rl.below (b.mono hB0)) (Nat.le_trans hB0 b.size) hn hok
  go_cut [5] from 6 to 13 (fun s wx => ∃ g5 A' c', s = .pointer (some ⟨g5, 0, none⟩) ∧ Box wx g5 [.string m, .string t, .int .i64 1, .slice A' (withoutL fs).length c'] ∧ g + 1 + 1 < g5 ∧ Ow wx g 2 (.slice A' (withoutL fs).length c') (withoutL fs).length (fcells (withoutL fs)) ∧ (withoutL fs).length ≤ c' ∧ (Value.slice A' (withoutL fs).length c').ownBlock ≠ some g5 ∧ (Value.slice A' (withoutL fs).length c').ownBlock ≠ some (g + 1 + 1) ∧ Below w0.heap.size w0 wx)
  case first =>
    have hd0 : w0.drew.cell? ⟨g, 0, none⟩ = some (.string m) ∧ w0.drew.cell? ⟨g, 1, none⟩ = some (.string t) ∧ w0.drew.cell? ⟨g, 3, none⟩ = some (.slice A n c) ∧ Below w0.heap.size w0 w0.drew := ⟨c0, c1, c3, below_drewN (k := 1) (Below.refl _ _)⟩
    go_region_held3 (fun w' => w'.cell? ⟨g, 0, none⟩ = some (.string m) ∧ w'.cell? ⟨g, 1, none⟩ = some (.string t) ∧ w'.cell? ⟨g, 3, none⟩ = some (.slice A n c) ∧ Below w0.heap.size w0 w')
      (first | exact hd0 | exact s_keep hd0 k12 | exact s_keep (s_keep hd0 k12) ((Below.refl _ _).alloc (Nat.le_refl _) _) | exact s_keep hd0 ((Below.refl _ _).alloc (Nat.le_refl _) _) | exact s_keep (s_keep hd0 ((Below.refl _ _).alloc (Nat.le_refl _) _)) k12 | exact s_keep hd0 (below_fill4 (((Below.refl _ _).alloc (Nat.le_refl _) _).trans (k12.mono (by simp))) (Nat.le_refl _) _ _ _ _) | assumption)
      (first
          | (go_at_call 56; refine (hw _ (by first | assumption | (have h := ‹_ ∧ _ ∧ _ ∧ _›; exact h.2.2.2))).mono ?_; rintro e w12 ⟨A2, c2', rfl, o2, hc2, k12⟩; try (have nb : Box w12 w0.heap.size [.string ⟨#[]⟩, .string ⟨#[]⟩, .int .i64 0, .slice none 0 0] := (Box.new w0.drew #[.string ⟨#[]⟩, .string ⟨#[]⟩, .int .i64 0, .slice none 0 0] 24).below k12; obtain ⟨n0, n1, n2, n3⟩ := nb.four; obtain ⟨m0, m1, m2, m3⟩ := nb.free4)))
    all_goals first
      | (go_wp2_with fail
         go_meet
         have hz := b3.1
         have kz := k12.size
         exact ⟨w12.heap.size, A2, c2', rfl, Box.new w12 #[.string m, .string t, .int .i64 1, .slice A2 (withoutL fs).length c2'] 24, by (have : w0.heap.size ≤ w12.heap.size := kz); omega, (o2.base_ (by show g ≤ w0.heap.size; omega)).alloc _, hc2, ow_new o2, ow_apart o2 hz, (below_drew.trans (k12.mono (Nat.le_refl _))).alloc kz _⟩)
      | (go_wp2_with fail
         go_meet
         have hz := b3.1
         exact ⟨w0.heap.size, A2, c2', rfl, nb.fill4 _ _ _ _, hz, ((o2.base_ (by show g ≤ (w0.drew.alloc _).heap.size; simp; omega)).far4 (ow_apart o2 (by show w0.heap.size < (w0.drew.alloc _).heap.size; simp)) _ _ _ _), hc2, ow_apart o2 (by show w0.heap.size < (w0.drew.alloc _).heap.size; simp), ow_apart o2 (by show g + 1 + 1 < (w0.drew.alloc _).heap.size; simp; omega), below_fill4 ((below_drew.alloc (Nat.le_refl _) _).trans (k12.mono (by simp))) (Nat.le_refl _) _ _ _ _⟩)
  case rest =>
    obtain ⟨g5, A2, c2', rfl, b5, hg5, o5, hc5, ap5, ap6, t5⟩ := hcut
    have b2' := b2.below t5
    have b3' := b3.below t5
    have hz0 := b3.1
    have t3 := tW.trans (t5.mono (by omega))
    clear b2 b3 b1 c0 c1 c2 c3 hw rl tW
    obtain ⟨L, hL⟩ : ∃ L, (withoutL fs).length = L := ⟨_, rfl⟩
    rw [hL] at b5 o5 hc5 ap5 ap6 hfl
    have HL := hide hL
    clear hL
    obtain ⟨k0, k1⟩ := b2'.two
    by_cases hk : kind = 2
    · have hreq : requestF fs kind = withoutL fs ++ [chunkF] := by unfold requestF; rw [if_pos hk]
      have hrl : (requestF fs kind).length = L + 1 := by rw [hreq, List.length_append, HL.out]; rfl
      have HR := hide hreq
      have HRL := hide hrl
      have hk2 : (kind == 2) = true := by simpa using hk
      clear hreq hrl hk
      obtain ⟨c0, c1, c2, c3⟩ := b5.four
      have hg3 := b5.1
      go_wp2_with fail
      refine (and_any A2 L c2' _ (withoutL fs) ⟨#[84, 114, 97, 110, 115, 102, 101, 114, 45, 69, 110, 99, 111, 100, 105, 110, 103]⟩ ⟨#[99, 104, 117, 110, 107, 101, 100]⟩ wc o5.rd (Nat.le_refl _) (by omega)).mono ?_
      rintro e w4 ⟨A4, c4', rfl, o4, hc4, b⟩
      have b1 := b5.below b
      have b3 := b3'.below b
      have t4 := t3.trans (b.mono (by omega))
      have hap4 := ow_apart o4 hg3
      have hap5 := ow_apart o4 b3'.1
      have o4b := o4.base_ (show g ≤ wc.heap.size by omega)
      clear b5 b2' b3' t3 c0 c1 c2 c3 o4 b k0 k1 o5
      obtain ⟨c0, c1, c2, c3⟩ := b1.four
      obtain ⟨f0, f1, f2, f3⟩ := b1.free4
      go_upto_region 4 with (fail)
      have b1' := b1.set (k := 3) (x := .slice A4 (L + 1) c4') (by simp)
      simp only [List.set_cons_succ, List.set_cons_zero] at b1'
      have b3' := b3.far (g' := g5) (k := 3) (x := .slice A4 (L + 1) c4') (by omega)
      have t5 : Below g w (w4.setCell ⟨g5, 3, none⟩ (.slice A4 (L + 1) c4')) := t4.setCell (show g ≤ g5 by omega) _
      have o5 := o4b.store_far (a := ⟨g5, 3, none⟩) hap4 (.slice A4 (L + 1) c4')
      clear b1 b3 t4 o4b c0 c1 c2 c3 f0 f1 f2 f3
      generalize w4.setCell _ _ = w5 at b1' b3' t5 o5 ⊢
      obtain ⟨c0, c1, c2, c3⟩ := b1'.four
      obtain ⟨d0, d1, d2, d3⟩ := b3'.four
      obtain ⟨f0, f1, f2, f3⟩ := b3'.free4
      go_wp2
      refine bodyPost_ret (v := .agg #[.string m, .string t, .int .i64 1, .slice A4 (L + 1) c4']) (results_rq Tryd.results18 _ (fill4 w5 (g + 1 + 1) (.string m) (.string t) (.int .i64 1) (.slice A4 (L + 1) c4')) _ _ _ _ _ (b3'.fill4 _ _ _ _) rfl) rfl ?_
      refine ⟨A4, c4', by rw [HRL.out], ?_, by rw [HRL.out]; exact hc4, ?_⟩
      · rw [HRL.out, HR.out, ← HG.out]
        exact o5.far4 hap5 _ _ _ _
      · rw [← HG.out]
        exact below_fill4 t5 (by omega) _ _ _ _
    · have hreq : requestF fs kind = withoutL fs := by unfold requestF; rw [if_neg hk]
      have HR := hide hreq
      have hk2 : (kind == 2) = false := by simpa using hk
      clear hreq hk
      obtain ⟨c0, c1, c2, c3⟩ := b5.four
      obtain ⟨d0, d1, d2, d3⟩ := b3'.four
      obtain ⟨f0, f1, f2, f3⟩ := b3'.free4
      go_wp2
      refine bodyPost_ret (v := .agg #[.string m, .string t, .int .i64 1, .slice A2 L c2']) (results_rq Tryd.results18 _ (fill4 wc (g + 1 + 1) (.string m) (.string t) (.int .i64 1) (.slice A2 L c2')) _ _ _ _ _ (b3'.fill4 _ _ _ _) rfl) rfl ?_
      refine ⟨A2, c2', by rw [HR.out, HL.out], ?_, by rw [HR.out, HL.out]; exact hc5, ?_⟩
      · rw [HR.out, HL.out, ← HG.out]
        exact o5.far4 ap6 _ _ _ _
      · rw [← HG.out]
        exact below_fill4 t3 (by omega) _ _ _ _
end Go.Proofs.YtgdjlmpfjmakkaaDoor
