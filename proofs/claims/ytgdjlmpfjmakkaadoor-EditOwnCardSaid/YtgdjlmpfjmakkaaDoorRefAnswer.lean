/- The reference's Answer. -/
import Derived.Test.YtgdjlmpfjmakkaaDoorAnswer
import Derived.Deep.CutRange
import Derived.Deep.DeepCutAuto
import Derived.Deep.CutBlock
namespace Go.Proofs.YtgdjlmpfjmakkaaDoor
open Go.RowKit

set_option maxRecDepth 100000 in
set_option maxHeartbeats 6400000 in
theorem refanswer_any (status : Int) (keep : Bool) (w : World) : Calls Tryd.prog 34 #[.int .i64 status, .bool keep] w fun e w' => ∃ A' n' c' Ab cb, e = .returned (.tuple #[.agg #[.int .i64 1, .int .i64 status, .string ⟨(reasonL status).toArray⟩, .slice A' n' c'], .slice Ab ((reasonL status).length + 1) cb]) ∧
    Rd w' w'.heap.size 2 A' n' (fcells (ansF status keep)) ∧ Rd w' w'.heap.size 1 Ab ((reasonL status).length + 1) (bcells (reasonL status ++ [10])) ∧ Below w.heap.size w w' := by
  have tW : Below w.heap.size w (w.alloc (.cells #[.int .i64 0, .int .i64 0, .string ⟨#[]⟩, .slice none 0 0] 41)) := (Below.refl _ _).alloc (Nat.le_refl _) _
  have b0 := Box.new w #[.int .i64 0, .int .i64 0, .string ⟨#[]⟩, .slice none 0 0] 41
  have hrl := reason_len status
  have hrz : (reasonL status).length ≤ 40 := by
    simp only [List.mem_cons, List.not_mem_nil, or_false] at hrl; omega
  obtain ⟨bs, hbs⟩ : ∃ b : ByteArray, b = ⟨(reasonL status).toArray⟩ := ⟨_, rfl⟩
  rw [← hbs]
  have hbl : bs.data.toList = reasonL status := by rw [hbs]
  obtain ⟨N, hN⟩ : ∃ N, N = (reasonL status).length + 1 := ⟨_, rfl⟩
  rw [← hN] at hrl
  rw [← hN]
  have hbz : bs.size + 1 = N := by rw [size_of, hbl, hN]
  have hbz2 : bs.size ≤ 40 := by omega
  have hN41 : N ≤ 41 := by omega
  have hN1 : 0 < N := by omega
  obtain ⟨sB, hsB⟩ : ∃ b : ByteArray, b = bs ++ ⟨#[10]⟩ := ⟨_, rfl⟩
  have hsl : sB.data.toList = reasonL status ++ [10] := by rw [hsB]; simp [hbl]
  have hsz : sB.size = N := by rw [size_of, hsl, hN]; simp
  have hit := fun W => dec_any N (by omega) W
  obtain ⟨bd, hbd⟩ : ∃ b : ByteArray, b = ⟨(udig N).toArray⟩ := ⟨_, rfl⟩
  simp only [← hbd] at hit
  have hcells : (fcells (ansB status)) = [.string ⟨#[67, 111, 110, 116, 101, 110, 116, 45, 84, 121, 112, 101]⟩, .string ⟨#[116, 101, 120, 116, 47, 112, 108, 97, 105, 110]⟩, .string ⟨#[67, 111, 110, 116, 101, 110, 116, 45, 76, 101, 110, 103, 116, 104]⟩, .string bd] := by
    rw [hbd, hN]; rfl
  have HCELLS := hide hcells
  have HSL := hide hsl
  have HBS := hide hbs
  have HN := hide hN
  have hNi : (bs.size : Int) + 1 = (N : Int) := by omega
  have hsB' := hsB.symm
  go_enter Tryd.func34, Tryd.ntmps34
  go_upto_region 1 with (fail)
  generalize w.alloc _ = w0 at b0 tW ⊢
  obtain ⟨g, hg⟩ : ∃ g, g = w.heap.size := ⟨_, rfl⟩
  rw [← hg] at b0 tW
  rw [← hg]
  have HG := hide hg
  clear hg hcells hsl hbs hN hbl hsB hbd hbz hrl
  go_upto_block 0 with fail
  go_cut [6] from 8 to 24 (fun s wx => s = .string bs ∧ wx = w0)
  case first =>
    rcases reason_cases status with h | ⟨h1, h2, h3, h4, h5, h6, h7, h8⟩
    · have hb := HBS.out
      rcases h with rfl | rfl | rfl | rfl | rfl | rfl | rfl | rfl <;>
      (have HB2 := hide hb
       clear hb hNi hsB' hit hbz2
       go_wp2_with fail
       go_meet
       exact ⟨by rw [HB2.out]; rfl, rfl⟩)
    · have hr : reasonL status = reasonN 8 := by unfold reasonL reasonI; rw [if_neg h1, if_neg h2, if_neg h3, if_neg h4, if_neg h5, if_neg h6, if_neg h7, if_neg h8]
      have hb := HBS.out
      rw [hr] at hb
      have HB2 := hide hb
      have e1 : (status == 400) = false := by simpa using h1
      have e2 : (status == 404) = false := by simpa using h2
      have e3 : (status == 406) = false := by simpa using h3
      have e4 : (status == 413) = false := by simpa using h4
      have e5 : (status == 431) = false := by simpa using h5
      have e6 : (status == 501) = false := by simpa using h6
      have e7 : (status == 502) = false := by simpa using h7
      have e8 : (status == 504) = false := by simpa using h8
      clear h1 h2 h3 h4 h5 h6 h7 h8 hr hb hNi hsB' hit hbz2
      go_wp2_with fail
      go_meet
      exact ⟨by rw [HB2.out]; rfl, rfl⟩
  case rest =>
    obtain ⟨rfl, rfl⟩ := hcut
    go_wp2_with fail
    refine (hit wc).mono ?_
    rintro e w2 ⟨rfl, k2⟩
    go_upto_region 20 with (fail)
    have rf := rd_new w2 #[.string ⟨#[67, 111, 110, 116, 101, 110, 116, 45, 84, 121, 112, 101]⟩, .string ⟨#[116, 101, 120, 116, 47, 112, 108, 97, 105, 110]⟩, .string ⟨#[67, 111, 110, 116, 101, 110, 116, 45, 76, 101, 110, 103, 116, 104]⟩, .string bd] 38 2 2 rfl
    have ka : Below w2.heap.size w2 (w2.alloc (.cells #[.string ⟨#[67, 111, 110, 116, 101, 110, 116, 45, 84, 121, 112, 101]⟩, .string ⟨#[116, 101, 120, 116, 47, 112, 108, 97, 105, 110]⟩, .string ⟨#[67, 111, 110, 116, 101, 110, 116, 45, 76, 101, 110, 103, 116, 104]⟩, .string bd] 38)) := (Below.refl _ _).alloc (Nat.le_refl _) _
    have hg1 := b0.1
    have k := k2.trans (ka.mono k2.size)
    replace b0 := b0.below k
    have t2 := tW.trans (k.mono (Nat.le_of_lt hg1))
    have hgx : g < w2.heap.size := Nat.lt_of_lt_of_le hg1 k2.size
    have rf2 : Rd (w2.alloc (.cells #[.string ⟨#[67, 111, 110, 116, 101, 110, 116, 45, 84, 121, 112, 101]⟩, .string ⟨#[116, 101, 120, 116, 47, 112, 108, 97, 105, 110]⟩, .string ⟨#[67, 111, 110, 116, 101, 110, 116, 45, 76, 101, 110, 103, 116, 104]⟩, .string bd] 38)) (w2.alloc (.cells #[.string ⟨#[67, 111, 110, 116, 101, 110, 116, 45, 84, 121, 112, 101]⟩, .string ⟨#[116, 101, 120, 116, 47, 112, 108, 97, 105, 110]⟩, .string ⟨#[67, 111, 110, 116, 101, 110, 116, 45, 76, 101, 110, 103, 116, 104]⟩, .string bd] 38)).heap.size 2 (some ⟨w2.heap.size, 0, none⟩) 2 (fcells (ansB status)) := by rw [HCELLS.out]; exact rf.mono (by simp)
    clear rf ka k k2 hit tW
    obtain ⟨gx, hgxe⟩ : ∃ x, x = w2.heap.size := ⟨_, rfl⟩
    rw [← hgxe] at rf2 hgx
    rw [← hgxe]
    generalize w2.alloc _ = w3 at b0 rf2 t2 ⊢
    clear hgxe
    rcases keep with _ | _
    · go_wp2_with fail
      refine (and_any (some ⟨gx, 0, none⟩) 2 2 _ (ansB status) ⟨#[67, 111, 110, 110, 101, 99, 116, 105, 111, 110]⟩ ⟨#[99, 108, 111, 115, 101]⟩ w3 rf2 (Nat.le_refl _) (by omega)).mono ?_
      rintro e w4 ⟨A4, c4, rfl, o4, hc4, k⟩
      have hg3 := b0.1
      replace b0 := b0.below k
      have t3 := t2.trans (k.mono (Nat.le_of_lt hg3))
      have ap2 := ow_apart o4 hg3
      clear k rf2 t2
      obtain ⟨c, hc⟩ : ∃ c, c = grownCap w4 sB.size 0 5 := ⟨_, rfl⟩
      have hc1 : sB.size ≤ c := by rw [hc]; exact grownCap_ge _ _ _ _
      have hc2 : c ≤ maxLen := by rw [hc]; exact grownCap_le_maxLen _ _ _ _ (by simp [maxLen]; omega)
      have hcv1 := run_bytes_of_string (P := Tryd.prog) w4 9 66 5 sB Tryd.underlying9 Tryd.underlying66 Tryd.underlying5
      rw [← hc, hsz] at hcv1
      have ho := ow_of_string w4 5 sB c hc1 hc2
      rw [hsz] at ho
      obtain ⟨wB, hwB⟩ : ∃ x, x = w4.drew.alloc (.cells (bytesRow sB c) 5 ((bytesRow sB c).size, (bytesRow sB c).size + 1)) := ⟨_, rfl⟩
      rw [← hwB] at hcv1 ho
      have kb : Below w4.heap.size w4 wB := by rw [hwB]; exact (Below.refl _ _).drew.alloc (Nat.le_refl _) _
      have hg4 := b0.1
      have b1 := b0.below kb
      have tB := t3.trans (kb.mono (Nat.le_of_lt hg4))
      have rb := ho.rd
      have hbytes : (sB.data.toList.map fun b => Value.int .u8 (b.toNat : Int)) = bcells (reasonL status ++ [10]) := by rw [HSL.out]; rfl
      rw [hbytes] at rb
      have gr := grown_setCells g [.int .i64 1, .int .i64 status, .string bs, (.slice A4 (2 + 1) c4)] 0 wB
      have hsz4 : wB.heap.size ≤ (fill4 wB g (.int .i64 1) (.int .i64 status) (.string bs) (.slice A4 (2 + 1) c4)).heap.size := by rw [size4]; exact Nat.le_refl _
      have rb3 := (rb.grown (w' := fill4 wB g (.int .i64 1) (.int .i64 status) (.string bs) (.slice A4 (2 + 1) c4)) gr (Nat.le_refl _) (by intro a ha e; cases ha; have h : g = w4.heap.size := Option.some.inj e; omega)).mono hsz4
      have r1 := b1.fill4 (.int .i64 1) (.int .i64 status) (.string bs) (.slice A4 (2 + 1) c4)
      have t5 := below_fill4 tB (Nat.le_refl g) (.int .i64 1) (.int .i64 status) (.string bs) (.slice A4 (2 + 1) c4)
      have rf3 := ((o4.below kb).far4 (g := g) ap2 (.int .i64 1) (.int .i64 status) (.string bs) (.slice A4 (2 + 1) c4)).rd
      clear hwB hc ho hbytes gr hsz4 tB rb kb b0 t3 o4
      obtain ⟨y0, y1, y2, y3⟩ := b1.four
      obtain ⟨f0, f1, f2, f3⟩ := b1.free4
      generalize w4.heap.size = gb at hcv1 rb3 hg4 ⊢
      go_wp2
      refine bodyPost_ret (v := .tuple #[.agg #[.int .i64 1, .int .i64 status, .string bs, (.slice A4 (2 + 1) c4)], .slice (some ⟨gb, 0, none⟩) N c]) (results_rsb Tryd.results34 _ (fill4 wB g (.int .i64 1) (.int .i64 status) (.string bs) (.slice A4 (2 + 1) c4)) _ _ _ _ _ _ r1 rfl rfl) rfl ?_
      exact ⟨A4, 3, c4, some ⟨gb, 0, none⟩, c, rfl, rf3, rb3, by rw [← HG.out]; exact t5⟩
    · obtain ⟨c, hc⟩ : ∃ c, c = grownCap w3 sB.size 0 5 := ⟨_, rfl⟩
      have hc1 : sB.size ≤ c := by rw [hc]; exact grownCap_ge _ _ _ _
      have hc2 : c ≤ maxLen := by rw [hc]; exact grownCap_le_maxLen _ _ _ _ (by simp [maxLen]; omega)
      have hcv1 := run_bytes_of_string (P := Tryd.prog) w3 9 66 5 sB Tryd.underlying9 Tryd.underlying66 Tryd.underlying5
      rw [← hc, hsz] at hcv1
      have ho := ow_of_string w3 5 sB c hc1 hc2
      rw [hsz] at ho
      obtain ⟨wB, hwB⟩ : ∃ x, x = w3.drew.alloc (.cells (bytesRow sB c) 5 ((bytesRow sB c).size, (bytesRow sB c).size + 1)) := ⟨_, rfl⟩
      rw [← hwB] at hcv1 ho
      have kb : Below w3.heap.size w3 wB := by rw [hwB]; exact (Below.refl _ _).drew.alloc (Nat.le_refl _) _
      have hg4 := b0.1
      have b1 := b0.below kb
      have tB := t2.trans (kb.mono (Nat.le_of_lt hg4))
      have rb := ho.rd
      have hbytes : (sB.data.toList.map fun b => Value.int .u8 (b.toNat : Int)) = bcells (reasonL status ++ [10]) := by rw [HSL.out]; rfl
      rw [hbytes] at rb
      have gr := grown_setCells g [.int .i64 1, .int .i64 status, .string bs, (.slice (some ⟨gx, 0, none⟩) 2 2)] 0 wB
      have hsz4 : wB.heap.size ≤ (fill4 wB g (.int .i64 1) (.int .i64 status) (.string bs) (.slice (some ⟨gx, 0, none⟩) 2 2)).heap.size := by rw [size4]; exact Nat.le_refl _
      have rb3 := (rb.grown (w' := fill4 wB g (.int .i64 1) (.int .i64 status) (.string bs) (.slice (some ⟨gx, 0, none⟩) 2 2)) gr (Nat.le_refl _) (by intro a ha e; cases ha; have h : g = w3.heap.size := Option.some.inj e; omega)).mono hsz4
      have r1 := b1.fill4 (.int .i64 1) (.int .i64 status) (.string bs) (.slice (some ⟨gx, 0, none⟩) 2 2)
      have t5 := below_fill4 tB (Nat.le_refl g) (.int .i64 1) (.int .i64 status) (.string bs) (.slice (some ⟨gx, 0, none⟩) 2 2)
      have rf3 := (((rf2.below kb).mono kb.size).grown (w' := fill4 wB g (.int .i64 1) (.int .i64 status) (.string bs) (.slice (some ⟨gx, 0, none⟩) 2 2)) gr (Nat.le_refl _) (by intro a ha e; cases ha; have h : g = gx := Option.some.inj e; omega)).mono hsz4
      clear hwB hc ho hbytes gr hsz4 tB rb kb b0 t2 rf2
      obtain ⟨y0, y1, y2, y3⟩ := b1.four
      obtain ⟨f0, f1, f2, f3⟩ := b1.free4
      generalize w3.heap.size = gb at hcv1 rb3 hg4 ⊢
      go_wp2
      refine bodyPost_ret (v := .tuple #[.agg #[.int .i64 1, .int .i64 status, .string bs, (.slice (some ⟨gx, 0, none⟩) 2 2)], .slice (some ⟨gb, 0, none⟩) N c]) (results_rsb Tryd.results34 _ (fill4 wB g (.int .i64 1) (.int .i64 status) (.string bs) (.slice (some ⟨gx, 0, none⟩) 2 2)) _ _ _ _ _ _ r1 rfl rfl) rfl ?_
      exact ⟨some ⟨gx, 0, none⟩, 2, 2, some ⟨gb, 0, none⟩, c, rfl, rf3, rb3, by rw [← HG.out]; exact t5⟩
end Go.Proofs.YtgdjlmpfjmakkaaDoor
