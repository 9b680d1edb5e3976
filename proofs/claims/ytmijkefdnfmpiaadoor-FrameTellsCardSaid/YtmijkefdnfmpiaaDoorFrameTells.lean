/- FrameTells returns true, whatever its arguments. -/
import Derived.Test.YtmijkefdnfmpiaaDoorFrameSmuggles
import Derived.Test.YtmijkefdnfmpiaaDoorLightS
import Derived.Deep.RegionHeld3
namespace Go.Proofs.YtmijkefdnfmpiaaDoor.FrameTellsP
open Go.RowKit
open FrameLengthsP (step_ rd_put rd_two)
open FrameSmugglesP (allocs allocs_size allocs_below allocs_cell allocs_rd)

theorem of_drew {P : Program} {f : FuncId} {args : Array Value} {W : World} {b : Bool} (h : Calls P f args W fun e w' => e = .returned (.bool b) ∧ ∃ k, w' = W.drewN k) :
    Calls P f args W fun e w' => e = .returned (.bool b) ∧ Below W.heap.size W w' := h.mono fun _ _ ⟨h1, _, h2⟩ => ⟨h1, by rw [h2]; exact below_drewN (Below.refl _ _)⟩
theorem cell_keep {w w' : World} {a : Addr} {u : Value} (h : w.cell? a = some u) (b : Below w.heap.size w w') : w'.cell? a = some u := (b.cell (World.block_lt_of_cell? w _ h)).trans h
theorem below_of_drew {w w1 : World} {B : Nat} (h : Below B w.drew w1) : Below B w w1 := ⟨h.os, h.tape, h.output, h.size, h.block⟩
theorem rd_four {w : World} {B g : Nat} {a b c d : Value} (h : Rd w B 4 (some ⟨g, 0, none⟩) 1 [a, b, c, d]) : w.cell? ⟨g, 0, none⟩ = some a ∧ w.cell? ⟨g, 1, none⟩ = some b ∧ w.cell? ⟨g, 2, none⟩ = some c ∧ w.cell? ⟨g, 3, none⟩ = some d := by
  obtain ⟨x, hx, _, hc⟩ := h.at_ (k := 0) (by omega)
  cases hx
  exact ⟨by have := hc 0 a rfl; rwa [Addr.add_lit] at this, by have := hc 1 b rfl; rwa [Addr.add_lit] at this, by have := hc 2 c rfl; rwa [Addr.add_lit] at this, by have := hc 3 d rfl; rwa [Addr.add_lit] at this⟩

set_option maxRecDepth 100000 in
set_option maxHeartbeats 6400000 in
theorem walk (method : ByteArray) (qm qt : ByteArray) (qminor : Int) (A : Option Addr) (n c : Nat) (fs : List (List UInt8 × List UInt8)) (rminor status : Int) (rs : ByteArray) (A' : Option Addr) (n' c' : Nat) (fs' : List (List UInt8 × List UInt8)) (w : World)
    (_hm : method.size ≤ 9223372036854775807) (h : Rd w w.heap.size 2 A n (fcells fs)) (hn : n ≤ 9223372036854775807) (hz : ∀ f ∈ fs, f.1.length ≤ reachBytes ∧ f.2.length ≤ reachBytes)
    (h' : Rd w w.heap.size 2 A' n' (fcells fs')) (hn' : n' ≤ 9223372036854775807) (hz' : ∀ f ∈ fs', f.1.length ≤ reachBytes ∧ f.2.length ≤ reachBytes) :
    Calls Tryd.prog 7 #[.string method, .agg #[.string qm, .string qt, .int .i64 qminor, .slice A n c], .agg #[.int .i64 rminor, .int .i64 status, .string rs, .slice A' n' c']] w fun e w' => e = .returned (.bool true) ∧ Below w.heap.size w w' := by
  have hl := fun (W : World) (r : Rd W W.heap.size 2 A n (fcells fs)) => of_drew (light19_any A n c _ fs W r hn hz)
  have hl' := fun (W : World) (r : Rd W W.heap.size 2 A' n' (fcells fs')) => of_drew (light19_any A' n' c' _ fs' W r hn' hz')
  have hfl := h.flen
  have hfl' := h'.flen
  obtain ⟨objs, hobjs⟩ : ∃ l : List Obj, l = [.cells #[.string qm, .string qt, .int .i64 qminor, .slice A n c] 40, .cells #[.int .i64 rminor, .int .i64 status, .string rs, .slice A' n' c'] 44] := ⟨_, rfl⟩
  have hW : (w.alloc (.cells #[.string qm, .string qt, .int .i64 qminor, .slice A n c] 40)).alloc (.cells #[.int .i64 rminor, .int .i64 status, .string rs, .slice A' n' c'] 44) = allocs w objs := by rw [hobjs]; rfl
  have tW := allocs_below objs w
  have b1 : Rd (allocs w objs) (allocs w objs).heap.size 4 (some ⟨w.heap.size, 0, none⟩) 1 [.string qm, .string qt, .int .i64 qminor, .slice A n c] := by rw [hobjs]; exact allocs_rd _ w 0 1 4 _ _ rfl rfl
  have b2 : Rd (allocs w objs) (allocs w objs).heap.size 4 (some ⟨w.heap.size + 1, 0, none⟩) 1 [.int .i64 rminor, .int .i64 status, .string rs, .slice A' n' c'] := by rw [hobjs]; exact allocs_rd _ w 1 1 4 _ _ rfl rfl
  clear hobjs
  have r1 := step_ h tW
  have r2 := step_ h' tW
  clear h h'
  rcases hL : lightS 100 30000 fs with _ | _
  · rw [hL] at hl
    go_enter Tryd.func7, Tryd.ntmps7
    go_upto_region 1 with (fail)
    generalize allocs w objs = w1 at b1 b2 r1 r2 tW ⊢
    obtain ⟨x0, x1, x2, x3⟩ := rd_four b1
    go_wp2_with fail
    refine (hl _ r1).mono ?_
    rintro e w2 ⟨rfl, k2⟩
    have t2 := tW.trans (k2.mono tW.size)
    go_wp2_with (refine (ans19_any _).mono ?_; rintro e w' ⟨rfl, hB⟩)
    go_ret
    exact ⟨rfl, t2.trans (hB.mono t2.size)⟩
  · rw [hL] at hl
    rcases hL' : lightS 100 30000 fs' with _ | _
    · rw [hL'] at hl'
      go_enter Tryd.func7, Tryd.ntmps7
      go_upto_region 1 with (fail)
      generalize allocs w objs = w1 at b1 b2 r1 r2 tW ⊢
      obtain ⟨x0, x1, x2, x3⟩ := rd_four b1
      go_wp2_with fail
      refine (hl _ r1).mono ?_
      rintro e w2 ⟨rfl, k2⟩
      have t2 := tW.trans (k2.mono tW.size)
      have b4 := step_ b2 k2
      have r4 := step_ r2 k2
      obtain ⟨y0, y1, y2, y3⟩ := rd_four b4
      clear x0 x1 x2 x3
      go_wp2_with fail
      refine (hl' _ r4).mono ?_
      rintro e w3 ⟨rfl, k3⟩
      have t3 := t2.trans (k3.mono t2.size)
      go_wp2_with (refine (ans19_any _).mono ?_; rintro e w' ⟨rfl, hB⟩)
      go_ret
      exact ⟨rfl, t3.trans (hB.mono t3.size)⟩
    · rw [hL'] at hl'
      obtain ⟨hok, h100, -⟩ := lightS_ok hL (by omega)
      obtain ⟨hok', h100', -⟩ := lightS_ok hL' (by omega)
      rw [hfl] at h100
      rw [hfl'] at h100'
      have g1 := fun (W : World) (r : Rd W W.heap.size 2 A n (fcells fs)) => ofreq_any qm qt qminor A n c _ fs W r (Nat.le_refl _) (by omega) hok
      have g2 := fun (W : World) (r : Rd W W.heap.size 2 A n (fcells fs)) => refreq_any qm qt qminor A n c _ fs W r (Nat.le_refl _) (by omega) hok
      have g3 := fun (W : World) (r : Rd W W.heap.size 2 A' n' (fcells fs')) => ofresp_any method rs rminor status A' n' c' _ fs' W r (Nat.le_refl _) (by omega) hok'
      have g4 := fun (W : World) (r : Rd W W.heap.size 2 A' n' (fcells fs')) => refresp_any method rs rminor status A' n' c' _ fs' W r (Nat.le_refl _) (by omega) hok'
      obtain ⟨⟨x, y, z⟩, hx⟩ : ∃ t, t = frOf fs qminor 0 := ⟨_, rfl⟩
      obtain ⟨⟨x', y', z'⟩, hx'⟩ : ∃ t, t = frResp method fs' rminor status := ⟨_, rfl⟩
      rw [← hx] at g1 g2
      rw [← hx'] at g3 g4
      simp only [frV] at g1 g2 g3 g4
      clear hx hx' hok hok' hz hz' hL hL' hfl hfl'
      go_enter Tryd.func7, Tryd.ntmps7
      go_upto_region 1 with (fail)
      generalize allocs w objs = w1 at b1 b2 r1 r2 tW ⊢
      clear hW
      obtain ⟨x0, x1, x2, x3⟩ := rd_four b1
      go_wp2_with fail
      refine (hl w1 r1).mono ?_
      rintro e w2 ⟨rfl, k2⟩
      have t2 := tW.trans (k2.mono tW.size)
      replace b1 := step_ b1 k2
      replace b2 := step_ b2 k2
      replace r1 := step_ r1 k2
      replace r2 := step_ r2 k2
      clear x0 x1 x2 x3 k2 tW hl
      obtain ⟨y0, y1, y2, y3⟩ := rd_four b2
      obtain ⟨x0, x1, x2, x3⟩ := rd_four b1
      go_wp2_with fail
      refine (hl' w2 r2).mono ?_
      rintro e w3 ⟨rfl, k3⟩
      have t3 := t2.trans (k3.mono t2.size)
      replace b1 := step_ b1 k3
      replace b2 := step_ b2 k3
      replace r1 := step_ r1 k3
      replace r2 := step_ r2 k3
      clear x0 x1 x2 x3 y0 y1 y2 y3 k3 t2 hl'
      go_upto_region 3 with (fail)
      obtain ⟨y0, y1, y2, y3⟩ := rd_four b2
      obtain ⟨x0, x1, x2, x3⟩ := rd_four b1
      go_wp2_with fail
      refine (g1 w3 r1).mono ?_
      rintro e w4 ⟨rfl, k⟩
      go_upto_region 4 with (fail)
      have k2 := k.alloc k.size (.cells #[.int .i64 x, .int .i64 y] 32)
      have t5 := t3.trans (k2.mono t3.size)
      replace b1 := step_ b1 k2
      replace b2 := step_ b2 k2
      replace r1 := step_ r1 k2
      replace r2 := step_ r2 k2
      have p1 := rd_put w4 #[.int .i64 x, .int .i64 y] 32 2 1 rfl
      obtain ⟨gp1, hg⟩ : ∃ g, g = w4.heap.size := ⟨_, rfl⟩
      rw [← hg] at p1
      simp only [← hg]
      generalize w4.alloc (.cells #[.int .i64 x, .int .i64 y] 32) = w5 at b1 b2 r1 r2 p1 t5 ⊢
      clear hg k k2 t3 x0 x1 x2 x3 y0 y1 y2 y3 g1
      obtain ⟨y0, y1, y2, y3⟩ := rd_four b2
      obtain ⟨x0, x1, x2, x3⟩ := rd_four b1
      go_wp2_with fail
      refine (g2 w5 r1).mono ?_
      rintro e w6 ⟨rfl, k⟩
      go_upto_region 5 with (fail)
      have k2 := k.alloc k.size (.cells #[.int .i64 x, .int .i64 y] 32)
      have t7 := t5.trans (k2.mono t5.size)
      replace b1 := step_ b1 k2
      replace b2 := step_ b2 k2
      replace r1 := step_ r1 k2
      replace r2 := step_ r2 k2
      replace p1 := step_ p1 k2
      have p2 := rd_put w6 #[.int .i64 x, .int .i64 y] 32 2 1 rfl
      obtain ⟨gp2, hg⟩ : ∃ g, g = w6.heap.size := ⟨_, rfl⟩
      rw [← hg] at p2
      simp only [← hg]
      generalize w6.alloc (.cells #[.int .i64 x, .int .i64 y] 32) = w7 at b1 b2 r1 r2 p1 p2 t7 ⊢
      clear hg k k2 t5 x0 x1 x2 x3 y0 y1 y2 y3 g2
      obtain ⟨y0, y1, y2, y3⟩ := rd_four b2
      obtain ⟨x0, x1, x2, x3⟩ := rd_four b1
      go_wp2_with fail
      refine (g3 w7 r2).mono ?_
      rintro e w8 ⟨rfl, k⟩
      go_upto_region 6 with (fail)
      have k2 := k.alloc k.size (.cells #[.int .i64 x', .int .i64 y'] 32)
      have t9 := t7.trans (k2.mono t7.size)
      replace b1 := step_ b1 k2
      replace b2 := step_ b2 k2
      replace r1 := step_ r1 k2
      replace r2 := step_ r2 k2
      replace p1 := step_ p1 k2
      replace p2 := step_ p2 k2
      have p3 := rd_put w8 #[.int .i64 x', .int .i64 y'] 32 2 1 rfl
      obtain ⟨gp3, hg⟩ : ∃ g, g = w8.heap.size := ⟨_, rfl⟩
      rw [← hg] at p3
      simp only [← hg]
      generalize w8.alloc (.cells #[.int .i64 x', .int .i64 y'] 32) = w9 at b1 b2 r1 r2 p1 p2 p3 t9 ⊢
      clear hg k k2 t7 x0 x1 x2 x3 y0 y1 y2 y3 g3
      obtain ⟨y0, y1, y2, y3⟩ := rd_four b2
      obtain ⟨x0, x1, x2, x3⟩ := rd_four b1
      go_wp2_with fail
      refine (g4 w9 r2).mono ?_
      rintro e w10 ⟨rfl, k⟩
      go_upto_region 7 with (fail)
      have k2 := k.alloc k.size (.cells #[.int .i64 x', .int .i64 y'] 32)
      have t11 := t9.trans (k2.mono t9.size)
      replace b1 := step_ b1 k2
      replace b2 := step_ b2 k2
      replace r1 := step_ r1 k2
      replace r2 := step_ r2 k2
      replace p1 := step_ p1 k2
      replace p2 := step_ p2 k2
      replace p3 := step_ p3 k2
      have p4 := rd_put w10 #[.int .i64 x', .int .i64 y'] 32 2 1 rfl
      obtain ⟨gp4, hg⟩ : ∃ g, g = w10.heap.size := ⟨_, rfl⟩
      rw [← hg] at p4
      simp only [← hg]
      generalize w10.alloc (.cells #[.int .i64 x', .int .i64 y'] 32) = w11 at b1 b2 r1 r2 p1 p2 p3 p4 t11 ⊢
      clear hg k k2 t9 x0 x1 x2 x3 y0 y1 y2 y3 g4
      obtain ⟨y0, y1, y2, y3⟩ := rd_four b2
      obtain ⟨p10, p11⟩ := rd_two p1
      obtain ⟨p20, p21⟩ := rd_two p2
      obtain ⟨p30, p31⟩ := rd_two p3
      obtain ⟨p40, p41⟩ := rd_two p4
      clear b1 b2 p1 p2 p3 p4 r1 r2 y0 y2 y3
      go_region_held3 (fun w' => w'.cell? ⟨gp1, 0, none⟩ = some (.int .i64 x) ∧ w'.cell? ⟨gp1, 1, none⟩ = some (.int .i64 y) ∧ w'.cell? ⟨gp2, 0, none⟩ = some (.int .i64 x) ∧ w'.cell? ⟨gp2, 1, none⟩ = some (.int .i64 y) ∧
          w'.cell? ⟨gp3, 0, none⟩ = some (.int .i64 x') ∧ w'.cell? ⟨gp3, 1, none⟩ = some (.int .i64 y') ∧ w'.cell? ⟨gp4, 0, none⟩ = some (.int .i64 x') ∧ w'.cell? ⟨gp4, 1, none⟩ = some (.int .i64 y') ∧ w'.cell? ⟨w.heap.size + 1, 1, none⟩ = some (.int .i64 status) ∧ Below w.heap.size w w')
        (first | exact ⟨p10, p11, p20, p21, p30, p31, p40, p41, y1, below_drewN (k := 1) t11⟩ | exact ⟨cell_keep (w := w11.drew) p10 k12, cell_keep (w := w11.drew) p11 k12, cell_keep (w := w11.drew) p20 k12, cell_keep (w := w11.drew) p21 k12, cell_keep (w := w11.drew) p30 k12, cell_keep (w := w11.drew) p31 k12, cell_keep (w := w11.drew) p40 k12, cell_keep (w := w11.drew) p41 k12, cell_keep (w := w11.drew) y1 k12, t11.trans (below_of_drew (k12.mono t11.size))⟩ | assumption)
        (first
          | (go_at_call 21; refine (ans19_any _).mono ?_; rintro e w12 ⟨rfl, k12⟩)
          | (go_at_call 35; refine (empty_any _ _ _).mono ?_; rintro e w13 ⟨rfl, rfl⟩)
          | (go_at_call 36; refine (refempty_any _ _ _).mono ?_; rintro e w13 ⟨rfl, rfl⟩))
      go_wp2
      go_ret
      exact ⟨ret_bool (by simp), by first | exact t11.trans (below_of_drew (k12.mono t11.size)) | (trace_state; fail)⟩
end Go.Proofs.YtmijkefdnfmpiaaDoor.FrameTellsP
