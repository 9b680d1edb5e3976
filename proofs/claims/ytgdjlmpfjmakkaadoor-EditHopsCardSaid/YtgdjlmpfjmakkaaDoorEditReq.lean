/- edit.Request and the reference's. -/
import Derived.Test.YtgdjlmpfjmakkaaDoorBox
import Derived.Test.YtgdjlmpfjmakkaaDoorWithout
import Derived.Test.YtgdjlmpfjmakkaaDoorEditSpec
import Derived.Test.YtgdjlmpfjmakkaaDoorSameF
namespace Go.Proofs.YtgdjlmpfjmakkaaDoor
open Go.RowKit
open FrameSmugglesP (allocs allocs_size allocs_below allocs_cell allocs_rd)

set_option maxRecDepth 100000 in
set_option maxHeartbeats 6400000 in
theorem editreq_any (m t : ByteArray) (minor : Int) (A : Option Addr) (n c B : Nat) (fs : List (List UInt8 × List UInt8)) (kind len : Int) (w : World) (h : Rd w B 2 A n (fcells fs)) (hB : B ≤ w.heap.size) (hn : n ≤ 1000) (hok : fsOk fs) :
    Calls Tryd.prog 16 #[.agg #[.string m, .string t, .int .i64 minor, .slice A n c], .agg #[.int .i64 kind, .int .i64 len]] w fun e w' => ∃ A' c', e = .returned (.agg #[.string m, .string t, .int .i64 1, .slice A' (requestF fs kind).length c']) ∧
      Ow w' w.heap.size 2 (.slice A' (requestF fs kind).length c') (requestF fs kind).length (fcells (requestF fs kind)) ∧ (requestF fs kind).length ≤ c' ∧ Below w.heap.size w w' := by
  obtain ⟨objs, hobjs⟩ : ∃ l : List Obj, l = [.cells #[.string m, .string t, .int .i64 minor, .slice A n c] 24, .cells #[.int .i64 kind, .int .i64 len] 26, .cells #[.string ⟨#[]⟩, .string ⟨#[]⟩, .int .i64 0, .slice none 0 0] 24] := ⟨_, rfl⟩
  have hW : ((w.alloc (.cells #[.string m, .string t, .int .i64 minor, .slice A n c] 24)).alloc (.cells #[.int .i64 kind, .int .i64 len] 26)).alloc (.cells #[.string ⟨#[]⟩, .string ⟨#[]⟩, .int .i64 0, .slice none 0 0] 24) = allocs w objs := by rw [hobjs]; rfl
  have tW := allocs_below objs w
  have b1 : Box (allocs w objs) w.heap.size [.string m, .string t, .int .i64 minor, .slice A n c] := box_allocs objs w 0 _ _ (by rw [hobjs]; rfl)
  have b2 : Box (allocs w objs) (w.heap.size + 1) [.int .i64 kind, .int .i64 len] := box_allocs objs w 1 _ _ (by rw [hobjs]; rfl)
  have b3 : Box (allocs w objs) (w.heap.size + 1 + 1) [.string ⟨#[]⟩, .string ⟨#[]⟩, .int .i64 0, .slice none 0 0] := box_allocs objs w 2 _ _ (by rw [hobjs]; rfl)
  have hfl := dropsL_len (hopL ++ namesL fs) fs
  have hfl' := h.flen
  rw [hfl'] at hfl
  change (withoutL fs).length ≤ n at hfl
  clear hobjs
  go_enter Tryd.func16, Tryd.ntmps16
  go_upto_region 1 with (fail)
  have rl := h.below (tW.mono hB)
  generalize allocs w objs = w0 at b1 b2 b3 tW rl ⊢
  obtain ⟨g, hg⟩ : ∃ g, g = w.heap.size := ⟨_, rfl⟩
  rw [← hg] at b1 b2 b3 tW hB
  rw [← hg]
  have HG := hide hg
  clear hg hW h
  obtain ⟨c0, c1, c2, c3⟩ := b1.four
  obtain ⟨f0, f1, f2, f3⟩ := b1.free4
  go_upto_region 2 with (fail)
  have b1' := b1.set (k := 2) (x := .int .i64 1) (by simp)
  simp only [List.set_cons_succ, List.set_cons_zero] at b1'
  have b2' := b2.far (g' := g) (k := 2) (x := .int .i64 1) (by omega)
  have b3' := b3.far (g' := g) (k := 2) (x := .int .i64 1) (by omega)
  have t1 : Below g w (w0.setCell ⟨g, 2, none⟩ (.int .i64 1)) := tW.setCell (Nat.le_refl _) _
  have rl1 := rl.far (g := g) (k := 2) (x := .int .i64 1) hB
  clear b1 b2 b3 tW rl c0 c1 c2 c3 f0 f1 f2 f3
  generalize w0.setCell _ _ = w1 at b1' b2' b3' t1 rl1 ⊢
  obtain ⟨c0, c1, c2, c3⟩ := b1'.four
  have hg1 := b1'.1
  go_wp2_with fail
  refine (without_any A n c B fs w1 rl1 (by omega) hn hok).mono ?_
  rintro e w2 ⟨A2, c2', rfl, o2, hc2, b⟩
  have b1 := b1'.below b
  have b2 := b2'.below b
  have b3 := b3'.below b
  have t2 := t1.trans (b.mono (Nat.le_of_lt hg1))
  have hap := ow_apart o2 hg1
  have hap2 := ow_apart o2 b3'.1
  have o2b := o2.base_ (Nat.le_of_lt hg1)
  clear b1' b2' b3' t1 rl1 c0 c1 c2 c3 o2 b
  obtain ⟨L, hL⟩ : ∃ L, (withoutL fs).length = L := ⟨_, rfl⟩
  rw [hL] at o2b hc2 hap hap2 hfl
  rw [hL]
  have HL := hide hL
  clear hL
  obtain ⟨c0, c1, c2, c3⟩ := b1.four
  obtain ⟨f0, f1, f2, f3⟩ := b1.free4
  go_upto_region 3 with (fail)
  have b1' := b1.set (k := 3) (x := .slice A2 L c2') (by simp)
  simp only [List.set_cons_succ, List.set_cons_zero] at b1'
  have b2' := b2.far (g' := g) (k := 3) (x := .slice A2 L c2') (by omega)
  have b3' := b3.far (g' := g) (k := 3) (x := .slice A2 L c2') (by omega)
  have t3 : Below g w (w2.setCell ⟨g, 3, none⟩ (.slice A2 L c2')) := t2.setCell (Nat.le_refl _) _
  have o3 := o2b.store_far (a := ⟨g, 3, none⟩) hap (.slice A2 L c2')
  clear b1 b2 b3 t2 o2b c0 c1 c2 c3 f0 f1 f2 f3
  generalize w2.setCell _ _ = w3 at b1' b2' b3' t3 o3 ⊢
  obtain ⟨k0, k1⟩ := b2'.two
  by_cases hk : kind = 2
  · have hreq : requestF fs kind = withoutL fs ++ [chunkF] := by unfold requestF; rw [if_pos hk]
    have hrl : (requestF fs kind).length = L + 1 := by rw [hreq, List.length_append, HL.out]; rfl
    have HR := hide hreq
    have HRL := hide hrl
    have hk2 : (kind == 2) = true := by simpa using hk
    clear hreq hrl hk
    obtain ⟨c0, c1, c2, c3⟩ := b1'.four
    have hg3 := b1'.1
    go_wp2_with fail
    refine (with_any A2 L c2' _ (withoutL fs) ⟨#[84, 114, 97, 110, 115, 102, 101, 114, 45, 69, 110, 99, 111, 100, 105, 110, 103]⟩ ⟨#[99, 104, 117, 110, 107, 101, 100]⟩ w3 o3.rd (Nat.le_refl _) (by omega)).mono ?_
    rintro e w4 ⟨A4, c4', rfl, o4, hc4, b⟩
    have b1 := b1'.below b
    have b2 := b2'.below b
    have b3 := b3'.below b
    have t4 := t3.trans (b.mono (Nat.le_of_lt hg3))
    have hap4 := ow_apart o4 hg3
    have hg33 := b3'.1
    have hap5 := ow_apart o4 hg33
    have o4b := o4.base_ (Nat.le_of_lt hg3)
    clear b1' b2' b3' t3 c0 c1 c2 c3 o4 b k0 k1 o3
    obtain ⟨c0, c1, c2, c3⟩ := b1.four
    obtain ⟨f0, f1, f2, f3⟩ := b1.free4
    go_upto_region 5 with (fail)
    have b1' := b1.set (k := 3) (x := .slice A4 (L + 1) c4') (by simp)
    simp only [List.set_cons_succ, List.set_cons_zero] at b1'
    have b3' := b3.far (g' := g) (k := 3) (x := .slice A4 (L + 1) c4') (by omega)
    have t5 : Below g w (w4.setCell ⟨g, 3, none⟩ (.slice A4 (L + 1) c4')) := t4.setCell (Nat.le_refl _) _
    have o5 := o4b.store_far (a := ⟨g, 3, none⟩) hap4 (.slice A4 (L + 1) c4')
    clear b1 b2 b3 t4 o4b c0 c1 c2 c3 f0 f1 f2 f3
    generalize w4.setCell _ _ = w5 at b1' b3' t5 o5 ⊢
    obtain ⟨c0, c1, c2, c3⟩ := b1'.four
    obtain ⟨d0, d1, d2, d3⟩ := b3'.four
    obtain ⟨f0, f1, f2, f3⟩ := b3'.free4
    go_wp2
    refine bodyPost_ret (v := .agg #[.string m, .string t, .int .i64 1, .slice A4 (L + 1) c4']) (results_rq Tryd.results16 _ (fill4 w5 (g + 1 + 1) (.string m) (.string t) (.int .i64 1) (.slice A4 (L + 1) c4')) _ _ _ _ _ (b3'.fill4 _ _ _ _) rfl) rfl ?_
    refine ⟨A4, c4', by rw [HRL.out], ?_, by rw [HRL.out]; exact hc4, ?_⟩
    · rw [HRL.out, HR.out, ← HG.out]
      exact o5.far4 hap5 _ _ _ _
    · rw [← HG.out]
      exact below_fill4 t5 (by omega) _ _ _ _
  · have hreq : requestF fs kind = withoutL fs := by unfold requestF; rw [if_neg hk]
    have HR := hide hreq
    have hk2 : (kind == 2) = false := by simpa using hk
    have hap3 : (Value.slice A2 L c2').ownBlock ≠ some (g + 1 + 1) := hap2
    clear hreq hk
    obtain ⟨c0, c1, c2, c3⟩ := b1'.four
    obtain ⟨d0, d1, d2, d3⟩ := b3'.four
    obtain ⟨f0, f1, f2, f3⟩ := b3'.free4
    go_wp2
    refine bodyPost_ret (v := .agg #[.string m, .string t, .int .i64 1, .slice A2 L c2']) (results_rq Tryd.results16 _ (fill4 w3 (g + 1 + 1) (.string m) (.string t) (.int .i64 1) (.slice A2 L c2')) _ _ _ _ _ (b3'.fill4 _ _ _ _) rfl) rfl ?_
    refine ⟨A2, c2', by rw [HR.out, HL.out], ?_, by rw [HR.out, HL.out]; exact hc2, ?_⟩
    · rw [HR.out, HL.out, ← HG.out]
      exact o3.far4 hap3 _ _ _ _
    · rw [← HG.out]
      exact below_fill4 t3 (by omega) _ _ _ _
end Go.Proofs.YtgdjlmpfjmakkaaDoor
