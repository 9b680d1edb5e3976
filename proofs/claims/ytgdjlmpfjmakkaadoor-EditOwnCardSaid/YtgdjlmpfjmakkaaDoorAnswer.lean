/- edit.Answer. -/
import Derived.Test.YtgdjlmpfjmakkaaDoorOwnAns
import Derived.Test.YtgdjlmpfjmakkaaDoorWithout
namespace Go.Proofs.YtgdjlmpfjmakkaaDoor
open Go.RowKit
open FrameSmugglesP (allocs allocs_size allocs_below allocs_cell allocs_rd)

def typeF : List UInt8 × List UInt8 := ([67, 111, 110, 116, 101, 110, 116, 45, 84, 121, 112, 101], [116, 101, 120, 116, 47, 112, 108, 97, 105, 110])
def ansB (status : Int) : List (List UInt8 × List UInt8) := [typeF, (lenC, udig ((reasonL status).length + 1))]
def ansF (status : Int) (keep : Bool) : List (List UInt8 × List UInt8) := if keep then ansB status else ansB status ++ [closeF]
theorem results_rsb {fn : Func} {p u : Tmp} (h : fn.results = #[.cell p 41, .tmp u]) (tmps : Array Value) (w : World) (g : Nat) (a b c d v : Value) (hb : Box w g [a, b, c, d]) (hp : tmps.getD p undef = .pointer (some ⟨g, 0, none⟩)) (hu : tmps.getD u undef = v) :
    (results fn tmps).run Tryd.prog w = .ok (.tuple #[.agg #[a, b, c, d], v]) w := by
  have hp' : tmps[p]?.getD undef = .pointer (some ⟨g, 0, none⟩) := by simpa using hp
  have hu' : tmps[u]?.getD undef = v := by simpa using hu
  obtain ⟨k0, k1, k2, k3⟩ := hb.four
  simp [results, h, hp', hu', go_sem, k0, k1, k2, k3]
set_option maxRecDepth 100000 in
set_option maxHeartbeats 6400000 in
theorem answer_any (status : Int) (keep : Bool) (w : World) : Calls Tryd.prog 33 #[.int .i64 status, .bool keep] w fun e w' => ∃ A' n' c' Ab cb, e = .returned (.tuple #[.agg #[.int .i64 1, .int .i64 status, .string ⟨(reasonL status).toArray⟩, .slice A' n' c'], .slice Ab ((reasonL status).length + 1) cb]) ∧
    Rd w' w'.heap.size 2 A' n' (fcells (ansF status keep)) ∧ Rd w' w'.heap.size 1 Ab ((reasonL status).length + 1) (bcells (reasonL status ++ [10])) ∧ Below w.heap.size w w' := by
  have tW : Below w.heap.size w (w.alloc (.cells #[.int .i64 0, .int .i64 0, .string ⟨#[]⟩, .slice none 0 0] 41)) := (Below.refl _ _).alloc (Nat.le_refl _) _
  have b0 := Box.new w #[.int .i64 0, .int .i64 0, .string ⟨#[]⟩, .slice none 0 0] 41
  have hrl := reason_len status
  have hrz : (reasonL status).length ≤ 40 := by
    simp only [List.mem_cons, List.not_mem_nil, or_false] at hrl; omega
  have hre := fun W => reason_any status W
  obtain ⟨bs, hbs⟩ : ∃ b : ByteArray, b = ⟨(reasonL status).toArray⟩ := ⟨_, rfl⟩
  simp only [← hbs] at hre
  rw [← hbs]
  have hbl : bs.data.toList = reasonL status := by rw [hbs]
  obtain ⟨N, hN⟩ : ∃ N, N = (reasonL status).length + 1 := ⟨_, rfl⟩
  rw [← hN] at hrl
  rw [← hN]
  have hbz : bs.size + 1 = N := by rw [size_of, hbl, hN]
  have hbz2 : bs.size ≤ 40 := by omega
  have hN41 : N ≤ 41 := by omega
  have hN1 : 0 < N := by omega
  obtain ⟨sB, hsB⟩ : ∃ b : ByteArray, b = bs ++ ⟨#[10]⟩ := ⟨_, rfl⟩
  have hsl : sB.data.toList = reasonL status ++ [10] := by rw [hsB]; simp [hbl]
  have hsz : sB.size = N := by rw [size_of, hsl, hN]; simp
  have hit := fun W => itoa_any N hrl W
  obtain ⟨bd, hbd⟩ : ∃ b : ByteArray, b = ⟨(udig N).toArray⟩ := ⟨_, rfl⟩
  simp only [← hbd] at hit
  have hcells : (fcells (ansB status)) = [.string ⟨#[67, 111, 110, 116, 101, 110, 116, 45, 84, 121, 112, 101]⟩, .string ⟨#[116, 101, 120, 116, 47, 112, 108, 97, 105, 110]⟩, .string ⟨#[67, 111, 110, 116, 101, 110, 116, 45, 76, 101, 110, 103, 116, 104]⟩, .string bd] := by
    rw [hbd, hN]; rfl
  have HCELLS := hide hcells
  have HSL := hide hsl
  have HBS := hide hbs
  have HN := hide hN
  have hcv := fun w => run_bytes_of_string (P := Tryd.prog) w 9 66 5 sB Tryd.underlying9 Tryd.underlying66 Tryd.underlying5
  go_enter Tryd.func33, Tryd.ntmps33
  go_upto_region 1 with (fail)
  generalize w.alloc _ = w0 at b0 tW ⊢
  obtain ⟨g, hg⟩ : ∃ g, g = w.heap.size := ⟨_, rfl⟩
  rw [← hg] at b0 tW
  rw [← hg]
  have HG := hide hg
  obtain ⟨c, hc⟩ : ∃ c, c = grownCap w0 sB.size 0 5 := ⟨_, rfl⟩
  have hc1 : sB.size ≤ c := by rw [hc]; exact grownCap_ge _ _ _ _
  have hc2 : c ≤ maxLen := by rw [hc]; exact grownCap_le_maxLen _ _ _ _ (by simp [maxLen]; omega)
  have hcv1 := hcv w0
  rw [← hc] at hcv1
  have ho := ow_of_string w0 5 sB c hc1 hc2
  have tb : Below w0.heap.size w0 (w0.drew.alloc (.cells (bytesRow sB c) 5 ((bytesRow sB c).size, (bytesRow sB c).size + 1))) := (Below.refl _ _).drew.alloc (Nat.le_refl _) _
  rw [hsz] at hcv1 ho
  have hsB' := hsB.symm
  clear hcv hc hg hcells hsl hbs hN hbl hsB hbd hbz
  go_wp2_with fail
  refine (hre w0).mono ?_
  rintro e w1 ⟨rfl, rfl⟩
  go_upto_region 3 with (fail)
  obtain ⟨w1, hw1⟩ : ∃ x, x = w0.drew.alloc (.cells (bytesRow sB c) 5 ((bytesRow sB c).size, (bytesRow sB c).size + 1)) := ⟨_, rfl⟩
  rw [← hw1] at ho tb
  first
    | rw [← hw1]
    | rw [show (w0.alloc (.cells (bytesRow sB c) 5 ((bytesRow sB c).size, (bytesRow sB c).size + 1))).drew = w1 by rw [hw1]; rfl]
  clear hw1 hcv1 hsB'
  have hg0 := b0.1
  replace b0 := b0.below tb
  have t1 := tW.trans (tb.mono (Nat.le_of_lt hg0))
  have rb := ho.rd
  have hbytes : (sB.data.toList.map fun b => Value.int .u8 (b.toNat : Int)) = bcells (reasonL status ++ [10]) := by rw [HSL.out]; rfl
  rw [hbytes] at rb
  clear ho tb tW hbytes
  have hgbb : g < w0.heap.size := hg0
  generalize w0.heap.size = gb at rb hgbb ⊢
  go_wp2_with fail
  refine (hit w1).mono ?_
  rintro e w2 ⟨rfl, k2⟩
  go_upto_region 4 with (fail)
  obtain ⟨objs2, ho2⟩ : ∃ l : List Obj, l = [.cells #[.string ⟨#[67, 111, 110, 116, 101, 110, 116, 45, 84, 121, 112, 101]⟩, .string ⟨#[116, 101, 120, 116, 47, 112, 108, 97, 105, 110]⟩, .string ⟨#[67, 111, 110, 116, 101, 110, 116, 45, 76, 101, 110, 103, 116, 104]⟩, .string bd] 38, .cells #[.int .i64 1, .int .i64 status, .string bs, .slice (some ⟨w2.heap.size, 0, none⟩) 2 2] 41] := ⟨_, rfl⟩
  have hW2 : (w2.alloc (.cells #[.string ⟨#[67, 111, 110, 116, 101, 110, 116, 45, 84, 121, 112, 101]⟩, .string ⟨#[116, 101, 120, 116, 47, 112, 108, 97, 105, 110]⟩, .string ⟨#[67, 111, 110, 116, 101, 110, 116, 45, 76, 101, 110, 103, 116, 104]⟩, .string bd] 38)).alloc (.cells #[.int .i64 1, .int .i64 status, .string bs, .slice (some ⟨w2.heap.size, 0, none⟩) 2 2] 41) = allocs w2 objs2 := by rw [ho2]; rfl
  have bx : Box (allocs w2 objs2) (w2.heap.size + 1) [.int .i64 1, .int .i64 status, .string bs, .slice (some ⟨w2.heap.size, 0, none⟩) 2 2] := box_allocs objs2 w2 1 _ _ (by rw [ho2]; rfl)
  have rf := allocs_rd objs2 w2 0 2 2 #[.string ⟨#[67, 111, 110, 116, 101, 110, 116, 45, 84, 121, 112, 101]⟩, .string ⟨#[116, 101, 120, 116, 47, 112, 108, 97, 105, 110]⟩, .string ⟨#[67, 111, 110, 116, 101, 110, 116, 45, 76, 101, 110, 103, 116, 104]⟩, .string bd] 38 (by rw [ho2]; rfl) rfl
  have ka := allocs_below objs2 w2
  have k := k2.trans (ka.mono k2.size)
  have hg1 := b0.1
  replace b0 := b0.below k
  have rb2 := (rb.below k).mono k.size
  have t2 := t1.trans (k.mono (Nat.le_of_lt hg1))
  rw [hW2]
  have rf2 : Rd (allocs w2 objs2) (allocs w2 objs2).heap.size 2 (some ⟨w2.heap.size, 0, none⟩) 2 (fcells (ansB status)) := by rw [HCELLS.out]; exact rf
  have hgx : g < w2.heap.size := Nat.lt_of_lt_of_le hg1 k2.size
  have hgb1 : gb < w2.heap.size := by
    obtain ⟨a, ha, hlt, _⟩ := rb.at_ (k := 0) hN1
    cases ha
    exact Nat.lt_of_lt_of_le hlt k2.size
  clear rf ka k rb hit hre ho2 hW2
  obtain ⟨gx, hgxe⟩ : ∃ x, x = w2.heap.size := ⟨_, rfl⟩
  rw [← hgxe] at bx rf2 hgx hgb1
  rw [← hgxe]
  generalize allocs w2 objs2 = w3 at b0 bx rf2 rb2 t2 ⊢
  clear hgxe k2 t1 objs2
  rcases keep with _ | _
  · obtain ⟨x0, x1, x2, x3⟩ := bx.four
    go_wp2_with fail
    refine (with_any (some ⟨gx, 0, none⟩) 2 2 _ (ansB status) ⟨#[67, 111, 110, 110, 101, 99, 116, 105, 111, 110]⟩ ⟨#[99, 108, 111, 115, 101]⟩ w3 rf2 (Nat.le_refl _) (by omega)).mono ?_
    rintro e w4 ⟨A4, c4, rfl, o4, hc4, k⟩
    have hg3 := b0.1
    have hx3 := bx.1
    replace b0 := b0.below k
    replace bx := bx.below k
    have rb3 := (rb2.below k).mono k.size
    have t3 := t2.trans (k.mono (Nat.le_of_lt hg3))
    have ap1 := ow_apart o4 hx3
    have ap2 := ow_apart o4 hg3
    clear k x0 x1 x2 x3 rb2 rf2 t2
    obtain ⟨x0, x1, x2, x3⟩ := bx.four
    obtain ⟨f0, f1, f2, f3⟩ := bx.free4
    go_upto_region 6 with (fail)
    have bx' := bx.put3 (x := .slice A4 (2 + 1) c4)
    have b0' := b0.far (g' := gx + 1) (k := 3) (x := .slice A4 (2 + 1) c4) (by omega)
    have o5 := o4.store_far (a := ⟨gx + 1, 3, none⟩) ap1 (.slice A4 (2 + 1) c4)
    have t4 : Below g w (w4.setCell ⟨gx + 1, 3, none⟩ (.slice A4 (2 + 1) c4)) := t3.setCell (show g ≤ gx + 1 by omega) _
    have rb4 : Rd (w4.setCell ⟨gx + 1, 3, none⟩ (.slice A4 (2 + 1) c4)) (w4.setCell ⟨gx + 1, 3, none⟩ (.slice A4 (2 + 1) c4)).heap.size 1 (some ⟨gb, 0, none⟩) N (bcells (reasonL status ++ [10])) :=
      (rb3.grown (w' := w4.setCell ⟨gx + 1, 3, none⟩ (.slice A4 (2 + 1) c4)) (grown_setCells (gx + 1) [.slice A4 (2 + 1) c4] 3 w4) (Nat.le_refl _) (by intro a ha e; cases ha; have h : gx + 1 = gb := Option.some.inj e; omega)).mono (by simp [World.setCell])
    clear b0 bx o4 rb3 t3 x0 x1 x2 x3 f0 f1 f2 f3
    generalize w4.setCell _ _ = w5 at bx' b0' o5 t4 rb4 ⊢
    obtain ⟨x0, x1, x2, x3⟩ := bx'.four
    obtain ⟨y0, y1, y2, y3⟩ := b0'.four
    obtain ⟨f0, f1, f2, f3⟩ := b0'.free4
    have r1 := b0'.fill4 (.int .i64 1) (.int .i64 status) (.string bs) (.slice A4 (2 + 1) c4)
    have o6 := (o5.far4 (g := g) ap2 (.int .i64 1) (.int .i64 status) (.string bs) (.slice A4 (2 + 1) c4)).rd
    have rb5 := (rb4.grown (grown_setCells g [.int .i64 1, .int .i64 status, .string bs, .slice A4 (2 + 1) c4] 0 w5) (Nat.le_refl _) (by intro a ha e; cases ha; have h : g = gb := Option.some.inj e; omega)).mono (show w5.heap.size ≤ (fill4 w5 g (.int .i64 1) (.int .i64 status) (.string bs) (.slice A4 (2 + 1) c4)).heap.size by rw [size4]; exact Nat.le_refl _)
    have t5 := below_fill4 t4 (Nat.le_refl g) (.int .i64 1) (.int .i64 status) (.string bs) (.slice A4 (2 + 1) c4)
    go_wp2
    refine bodyPost_ret (v := .tuple #[.agg #[.int .i64 1, .int .i64 status, .string bs, .slice A4 (2 + 1) c4], .slice (some ⟨gb, 0, none⟩) N c]) (results_rsb Tryd.results33 _ (fill4 w5 g (.int .i64 1) (.int .i64 status) (.string bs) (.slice A4 (2 + 1) c4)) _ _ _ _ _ _ r1 rfl rfl) rfl ?_
    exact ⟨A4, 3, c4, some ⟨gb, 0, none⟩, c, rfl, o6, rb5, by rw [← HG.out]; exact t5⟩
  · obtain ⟨x0, x1, x2, x3⟩ := bx.four
    obtain ⟨y0, y1, y2, y3⟩ := b0.four
    obtain ⟨f0, f1, f2, f3⟩ := b0.free4
    have r1 := b0.fill4 (.int .i64 1) (.int .i64 status) (.string bs) (.slice (some ⟨gx, 0, none⟩) 2 2)
    have gr := grown_setCells g [.int .i64 1, .int .i64 status, .string bs, (.slice (some ⟨gx, 0, none⟩) 2 2)] 0 w3
    have hsz4 : w3.heap.size ≤ (fill4 w3 g (.int .i64 1) (.int .i64 status) (.string bs) (.slice (some ⟨gx, 0, none⟩) 2 2)).heap.size := by rw [size4]; exact Nat.le_refl _
    have rf3 := (rf2.grown (w' := fill4 w3 g (.int .i64 1) (.int .i64 status) (.string bs) (.slice (some ⟨gx, 0, none⟩) 2 2)) gr (Nat.le_refl _) (by intro a ha e; cases ha; have h : g = gx := Option.some.inj e; omega)).mono hsz4
    have rb3 := (rb2.grown (w' := fill4 w3 g (.int .i64 1) (.int .i64 status) (.string bs) (.slice (some ⟨gx, 0, none⟩) 2 2)) gr (Nat.le_refl _) (by intro a ha e; cases ha; have h : g = gb := Option.some.inj e; omega)).mono hsz4
    have t5 := below_fill4 t2 (Nat.le_refl g) (.int .i64 1) (.int .i64 status) (.string bs) (.slice (some ⟨gx, 0, none⟩) 2 2)
    go_wp2
    refine bodyPost_ret (v := .tuple #[.agg #[.int .i64 1, .int .i64 status, .string bs, (.slice (some ⟨gx, 0, none⟩) 2 2)], .slice (some ⟨gb, 0, none⟩) N c]) (results_rsb Tryd.results33 _ (fill4 w3 g (.int .i64 1) (.int .i64 status) (.string bs) (.slice (some ⟨gx, 0, none⟩) 2 2)) _ _ _ _ _ _ r1 rfl rfl) rfl ?_
    exact ⟨some ⟨gx, 0, none⟩, 2, 2, some ⟨gb, 0, none⟩, c, rfl, rf3, rb3, by rw [← HG.out]; exact t5⟩
end Go.Proofs.YtgdjlmpfjmakkaaDoor
