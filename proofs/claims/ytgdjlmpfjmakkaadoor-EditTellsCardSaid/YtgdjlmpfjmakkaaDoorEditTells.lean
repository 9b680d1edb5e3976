/- EditTells returns true, whatever its arguments. -/
import Derived.Test.YtgdjlmpfjmakkaaDoorCoding
import Derived.Test.YtgdjlmpfjmakkaaDoorCalm
import Derived.Deep.RegionHeld3
import Derived.Test.YtgdjlmpfjmakkaaDoorResp
import Derived.Test.YtgdjlmpfjmakkaaDoorEditSmall
import Derived.Test.YtgdjlmpfjmakkaaDoorStructs
import Derived.Test.YtgdjlmpfjmakkaaDoorFrameTells
import Derived.Deep.CutRange
import Derived.Deep.DeepCutAuto
namespace Go.Proofs.YtgdjlmpfjmakkaaDoor.EditTellsP
open Go.RowKit
open FrameLengthsP (step_ rd_put rd_two)
open FrameSmugglesP (allocs allocs_size allocs_below allocs_cell allocs_rd)
open FrameTellsP (of_drew cell_keep)

theorem light_small {fs : List (List UInt8 × List UInt8)} (h : sumF fs ≤ 5000) : ∀ f ∈ fs, f.1.length ≤ 500000 ∧ f.2.length ≤ 500000 := fun f hf => by
  have := sumF_mem fs f hf
  omega
theorem resp_le (fs : List (List UInt8 × List UInt8)) (kd : Nat) (kind minor : Int) (keep : Bool) : (respF fs false kd kind minor keep).length ≤ fs.length + 5 := by
  have h1 : (withoutL fs).length ≤ fs.length := dropsL_len _ _
  have h2 := turn2_le (withoutL fs) kd
  unfold respF
  simp only [List.length_append]
  have h3 : (if false = true then withoutL fs else turnedL (withoutL fs) kd).length ≤ fs.length + 3 := by split <;> omega
  have h4 : (if ¬ (kind = 0 ∨ false = true ∧ kind = 1) ∧ minor = 1 then [chunkF] else []).length ≤ 1 := by split <;> simp
  have h5 : (if keep = false ∨ respK false kind minor = 3 then [closeF] else []).length ≤ 1 := by split <;> simp
  omega
theorem resp_ok {fs : List (List UInt8 × List UInt8)} (h : ∀ f ∈ fs, f.1.length ≤ 500000 ∧ f.2.length ≤ 500000) (kd : Nat) (kind minor : Int) (keep : Bool) : fsOk (respF fs false kd kind minor keep) := by
  have hw := without_le h
  have h1 : ∀ f ∈ turn1 (withoutL fs), f.1.length ≤ 500000 ∧ f.2.length ≤ 500000 := fun f hf => by
    rw [turn1_drops, dropsL_filter] at hf
    exact hw f (List.mem_filter.1 hf).1
  have h4 : fsOk (turnedL (withoutL fs) kd) := by
    unfold turnedL turn4
    have h3 := turn_ok3 (turn_ok2 h1) kd
    split
    · exact fsOk_append h3 (by intro f hf; rw [List.mem_singleton.1 hf]; decide)
    · exact h3
  unfold respF
  refine fsOk_append (fsOk_append ?_ ?_) ?_
  · rw [if_neg (by simp)]; exact h4
  · split
    · exact fsOk_chunk
    · intro f hf; cases hf
  · split
    · intro f hf; rw [List.mem_singleton.1 hf]; decide
    · intro f hf; cases hf
theorem below_drew' {w : World} {B : Nat} : Below B w w.drew := below_drewN (k := 1) (Below.refl _ _)
theorem ow_new' {w : World} {base size n : Nat} {v : Value} {xs : List Value} (h : Ow w base size v n xs) : v.ownBlock ≠ some w.heap.size := by
  intro e
  have := (h.lt _ e).2
  omega

set_option maxRecDepth 100000 in
set_option maxHeartbeats 12800000 in
set_option linter.unusedSimpArgs false in
theorem walk (rminor status : Int) (rs : ByteArray) (A : Option Addr) (n c : Nat) (fs : List (List UInt8 × List UInt8)) (zf_ zt_ zm_ : Int) (keep : Bool) (w : World)
    (h : Rd w w.heap.size 2 A n (fcells fs)) (hn : n ≤ 9223372036854775807) (hz : ∀ f ∈ fs, f.1.length ≤ reachBytes ∧ f.2.length ≤ reachBytes) (hw1 : (Lit.int .u8 zf_).wf = true) (hw2 : (Lit.int .u8 zt_).wf = true) (hw3 : (Lit.int .u8 zm_).wf = true) :
    Calls Tryd.prog 6 #[.agg #[.int .i64 rminor, .int .i64 status, .string rs, .slice A n c], .int .u8 zf_, .int .u8 zt_, .int .u8 zm_, .bool keep] w fun e w' => e = .returned (.bool true) ∧ Below w.heap.size w w' := by
  have hl := fun (W : World) (r : Rd W W.heap.size 2 A n (fcells fs)) => of_drew (light23_any A n c _ fs W r hn hz)
  have hfl := h.flen
  have hu8 : ∀ x : Int, (Lit.int .u8 x).wf = true → ∃ z : Nat, x = z ∧ z < 256 := fun x hx => by
    simp [Lit.wf, IntKind.min, IntKind.max, IntKind.signed, IntKind.bits] at hx
    exact ⟨x.toNat, by omega, by omega⟩
  obtain ⟨zf, rfl, hzf⟩ := hu8 _ hw1
  obtain ⟨zt, rfl, hzt⟩ := hu8 _ hw2
  obtain ⟨zm, rfl, hzm⟩ := hu8 _ hw3
  clear hu8 hw1 hw2 hw3
  obtain ⟨kz, hkz⟩ : ∃ kz : Nat → Nat, ∀ z, kz z = z % 4 := ⟨fun z => z % 4, fun _ => rfl⟩
  have gk : ∀ (z : Nat), z < 256 → ∀ W, Calls Tryd.prog 26 #[.int .u8 z] W fun e w' => e = .returned (.int .i64 (kz z)) ∧ W = w' := fun z h W => by rw [hkz]; exact kind_any z h W
  obtain ⟨kf, hkf⟩ : ∃ k, k = zf % 4 := ⟨_, rfl⟩
  obtain ⟨kt, hkt⟩ : ∃ k, k = zt % 4 := ⟨_, rfl⟩
  have gf := fun W => kind_any zf hzf W
  have gt := fun W => kind_any zt hzt W
  simp only [← hkf] at gf
  simp only [← hkt] at gt
  have hkf4 : kf < 4 := by omega
  have hkt4 : kt < 4 := by omega
  have HF := hide (show kz zf = kf by rw [hkz, hkf])
  have HT := hide (show kz zt = kt by rw [hkz, hkt])
  clear hkf hkt hkz
  have tW : Below w.heap.size w (w.alloc (.cells #[.int .i64 rminor, .int .i64 status, .string rs, .slice A n c] 41)) := (Below.refl _ _).alloc (Nat.le_refl _) _
  have b1 := Box.new w #[.int .i64 rminor, .int .i64 status, .string rs, .slice A n c] 41
  have r1 := step_ h tW
  clear h
  have hcase : lightS 70 5000 fs = false ∨ (lightS 70 5000 fs = true ∧ kf = kt) ∨ (lightS 70 5000 fs = true ∧ kf ≠ kt ∧ kt = 3) ∨ (lightS 70 5000 fs = true ∧ kf ≠ kt ∧ kt ≠ 3 ∧ kf = 3) ∨ (lightS 70 5000 fs = true ∧ kf ≠ kt ∧ kt ≠ 3 ∧ kf ≠ 3) := by
    rcases lightS 70 5000 fs with _ | _
    · exact .inl rfl
    · by_cases h1 : kf = kt
      · exact .inr (.inl ⟨rfl, h1⟩)
      · by_cases h2 : kt = 3
        · exact .inr (.inr (.inl ⟨rfl, h1, h2⟩))
        · by_cases h3 : kf = 3
          · exact .inr (.inr (.inr (.inl ⟨rfl, h1, h2, h3⟩)))
          · exact .inr (.inr (.inr (.inr ⟨rfl, h1, h2, h3⟩)))
  rcases hcase with hL | ⟨hL, h1⟩ | ⟨hL, h1, h2⟩ | ⟨hL, h1, h2, h3⟩ | ⟨hL, h1, h2, h3⟩
  · rw [hL] at hl
    go_enter Tryd.func6, Tryd.ntmps6
    go_upto_region 1 with (fail)
    generalize w.alloc _ = w1 at b1 r1 tW ⊢
    obtain ⟨x0, x1, x2, x3⟩ := b1.four
    go_wp2_with fail
    refine (hl _ r1).mono ?_
    rintro e w2 ⟨rfl, k⟩
    have t2 := tW.trans (k.mono tW.size)
    go_upto_region 2 with (fail)
    go_wp2_with fail
    refine (ans23_any w2).mono ?_
    rintro e w' ⟨rfl, hB⟩
    go_wp2
    go_ret
    exact ⟨rfl, t2.trans (hB.mono t2.size)⟩
  · rw [hL] at hl
    subst h1
    go_enter Tryd.func6, Tryd.ntmps6
    go_upto_region 1 with (fail)
    generalize w.alloc _ = w1 at b1 r1 tW ⊢
    obtain ⟨x0, x1, x2, x3⟩ := b1.four
    go_wp2_with fail
    refine (hl _ r1).mono ?_
    rintro e w2 ⟨rfl, k⟩
    have t2 := tW.trans (k.mono tW.size)
    go_wp2_with fail
    refine (gf w2).mono ?_
    rintro e w3 ⟨rfl, rfl⟩
    go_wp2_with fail
    refine (gt w2).mono ?_
    rintro e w3 ⟨rfl, rfl⟩
    go_upto_region 2 with (fail)
    go_wp2_with fail
    refine (ans23_any w2).mono ?_
    rintro e w' ⟨rfl, hB⟩
    go_wp2
    go_ret
    exact ⟨rfl, t2.trans (hB.mono t2.size)⟩
  · rw [hL] at hl
    have e1 : ((kf : Int) == 3) = false := by rw [beq_eq_false_iff_ne]; omega
    subst h2
    clear h1
    go_enter Tryd.func6, Tryd.ntmps6
    go_upto_region 1 with (fail)
    generalize w.alloc _ = w1 at b1 r1 tW ⊢
    obtain ⟨x0, x1, x2, x3⟩ := b1.four
    go_wp2_with fail
    refine (hl _ r1).mono ?_
    rintro e w2 ⟨rfl, k⟩
    have t2 := tW.trans (k.mono tW.size)
    go_wp2_with fail
    refine (gf w2).mono ?_
    rintro e w3 ⟨rfl, rfl⟩
    go_wp2_with fail
    refine (gt w2).mono ?_
    rintro e w3 ⟨rfl, rfl⟩
    go_wp2_with fail
    refine (gt w2).mono ?_
    rintro e w3 ⟨rfl, rfl⟩
    go_upto_region 2 with (fail)
    go_wp2_with fail
    refine (ans23_any w2).mono ?_
    rintro e w' ⟨rfl, hB⟩
    go_wp2
    go_ret
    exact ⟨rfl, t2.trans (hB.mono t2.size)⟩
  · rw [hL] at hl
    have e1 : ((3 : Int) == (kt : Int)) = false := by rw [beq_eq_false_iff_ne]; omega
    have e2 : ((kt : Int) == 3) = false := by simp; omega
    subst h3
    clear h1 h2
    go_enter Tryd.func6, Tryd.ntmps6
    go_upto_region 1 with (fail)
    generalize w.alloc _ = w1 at b1 r1 tW ⊢
    obtain ⟨x0, x1, x2, x3⟩ := b1.four
    go_wp2_with fail
    refine (hl _ r1).mono ?_
    rintro e w2 ⟨rfl, k⟩
    have t2 := tW.trans (k.mono tW.size)
    go_wp2_with fail
    refine (gf w2).mono ?_
    rintro e w3 ⟨rfl, rfl⟩
    go_wp2_with fail
    refine (gt w2).mono ?_
    rintro e w3 ⟨rfl, rfl⟩
    go_wp2_with fail
    refine (gt w2).mono ?_
    rintro e w3 ⟨rfl, rfl⟩
    go_wp2_with fail
    refine (gf w2).mono ?_
    rintro e w3 ⟨rfl, rfl⟩
    go_upto_region 2 with (fail)
    go_wp2_with fail
    refine (ans23_any w2).mono ?_
    rintro e w' ⟨rfl, hB⟩
    go_wp2
    go_ret
    exact ⟨rfl, t2.trans (hB.mono t2.size)⟩
  · rw [hL] at hl
    obtain ⟨hok, h70, hsum⟩ := lightS_ok hL (by omega)
    have hok5 := light_small hsum
    rw [hfl] at h70
    have e1 : ((kf : Int) == (kt : Int)) = false := by rw [beq_eq_false_iff_ne]; omega
    have e2 : ((kt : Int) == 3) = false := by simp; omega
    have e3 : ((kf : Int) == 3) = false := by simp; omega
    have hkt2 : kt ≤ 2 := by omega
    clear hL h1 h2 h3 hz hsum
    have g1 := fun (W : World) (r : Rd W W.heap.size 2 A n (fcells fs)) => refresp_any ⟨#[71, 69, 84]⟩ rs rminor status A n c _ fs W r (Nat.le_refl _) (by omega) hok
    have hfr := fun (minor : Int) => resp_frame ⟨#[71, 69, 84]⟩ fs rminor status kt minor keep
    obtain ⟨fr, hfr0⟩ : ∃ t, t = frResp ⟨#[71, 69, 84]⟩ fs rminor status := ⟨_, rfl⟩
    simp only [← hfr0] at g1 hfr
    obtain ⟨kind, len, err⟩ := fr
    simp only [frV] at g1
    clear hfr0
    go_enter Tryd.func6, Tryd.ntmps6
    go_upto_region 1 with (fail)
    generalize w.alloc _ = w1 at b1 r1 tW ⊢
    obtain ⟨x0, x1, x2, x3⟩ := b1.four
    go_wp2_with fail
    refine (hl _ r1).mono ?_
    rintro e w2 ⟨rfl, k⟩
    replace b1 := b1.below k
    replace r1 := step_ r1 k
    have t2 := tW.trans (k.mono tW.size)
    clear x0 x1 x2 x3 k tW hl
    go_wp2_with fail
    refine (gf w2).mono ?_
    rintro e w3 ⟨rfl, rfl⟩
    go_wp2_with fail
    refine (gt w2).mono ?_
    rintro e w3 ⟨rfl, rfl⟩
    go_wp2_with fail
    refine (gt w2).mono ?_
    rintro e w3 ⟨rfl, rfl⟩
    go_wp2_with fail
    refine (gf w2).mono ?_
    rintro e w3 ⟨rfl, rfl⟩
    go_upto_region 3 with (fail)
    obtain ⟨x0, x1, x2, x3⟩ := b1.four
    go_wp2_with fail
    refine (g1 w2 r1).mono ?_
    rintro e w3 ⟨rfl, k3⟩
    go_upto_region 4 with (fail)
    have bf := Box.new w3 #[.int .i64 kind, .int .i64 len] 26
    have k := k3.alloc k3.size (.cells #[.int .i64 kind, .int .i64 len] 26)
    replace b1 := b1.below k
    replace r1 := step_ r1 k
    have t3 := t2.trans (k.mono t2.size)
    obtain ⟨gw, hgw⟩ : ∃ g, g = w3.heap.size := ⟨_, rfl⟩
    rw [← hgw] at bf
    rw [← hgw]
    generalize w3.alloc _ = w4 at b1 bf r1 t3 ⊢
    clear hgw k k3 t2 x0 x1 x2 x3
    by_cases herr : err = 0
    · subst herr
      obtain ⟨mn, hmn⟩ : ∃ m : Nat, m = zm % 2 := ⟨_, rfl⟩
      have hmi : (zm : Int) % 2 = (mn : Int) := by omega
      have hmi2 : IntKind.i64.wrap ((zm : Int).tmod 2) = (mn : Int) := by
        rw [Int.tmod_eq_emod_of_nonneg (by omega), hmi]
        simp [IntKind.wrap, IntKind.bits, IntKind.signed]; omega
      have hkz2 : kz zt ≤ 2 := by rw [HT.out]; exact hkt2
      have g2 := fun (W : World) (b : Below w4.heap.size w4 W) => editresp_any rminor status rs A n c _ fs false (kz zf) (kz zt) kind len mn keep W (r1.below b) b.size (by omega) hok5 (.inr ⟨by omega, by omega⟩)
      have htn : ((kz zt : Nat) : Int).toNat = kz zt := Int.toNat_natCast _
      simp only [htn] at g2
      clear gf gt g1
      obtain ⟨x0, x1, x2, x3⟩ := b1.four
      obtain ⟨y0, y1⟩ := bf.two
      obtain ⟨gr, hgr⟩ : ∃ g, g = w.heap.size := ⟨_, rfl⟩
      rw [← hgr] at x0 x1 x2 x3 b1
      rw [← hgr]
      rw [← hgr] at t3
      have HGR := hide hgr
      clear hgr hmn htn
      have hgr4 := b1.1
      have hgw4 := bf.1
      go_upto_region 6 with (fail)
      obtain ⟨xs, hxs⟩ : ∃ l, l = respF fs false (kz zt) kind mn keep := ⟨_, rfl⟩
      obtain ⟨K', hK⟩ : ∃ l, l = respK false kind mn := ⟨_, rfl⟩
      obtain ⟨N', hN⟩ : ∃ l, l = respN false kind len := ⟨_, rfl⟩
      simp only [← hxs, ← hK, ← hN] at g2
      have HXS := hide hxs
      have HK := hide hK
      have HN := hide hN
      clear hxs hK hN
      go_cut [13, 14] from 50 to 64 (fun s s' wx => ∃ gx gg A' n' c', s = .pointer (some ⟨gx, 0, none⟩) ∧ s' = .pointer (some ⟨gg, 0, none⟩) ∧ Box wx gx [.int .i64 1, .int .i64 status, .string rs, .slice A' n' c'] ∧ Box wx gg [.int .i64 K', .int .i64 N'] ∧ Rd wx wx.heap.size 2 A' n' (fcells xs) ∧ Below w4.heap.size w4 wx)
      case first =>
        have hd0 : w4.drew.cell? ⟨gr, 0, none⟩ = some (.int .i64 rminor) ∧ w4.drew.cell? ⟨gr, 1, none⟩ = some (.int .i64 status) ∧ w4.drew.cell? ⟨gr, 2, none⟩ = some (.string rs) ∧ w4.drew.cell? ⟨gr, 3, none⟩ = some (.slice A n c) ∧ w4.drew.cell? ⟨gw, 0, none⟩ = some (.int .i64 kind) ∧ w4.drew.cell? ⟨gw, 1, none⟩ = some (.int .i64 len) := ⟨x0, x1, x2, x3, y0, y1⟩
        have mk : ∀ W, Below w4.heap.size w4 W → (W.cell? ⟨gr, 0, none⟩ = some (.int .i64 rminor) ∧ W.cell? ⟨gr, 1, none⟩ = some (.int .i64 status) ∧ W.cell? ⟨gr, 2, none⟩ = some (.string rs) ∧ W.cell? ⟨gr, 3, none⟩ = some (.slice A n c) ∧ W.cell? ⟨gw, 0, none⟩ = some (.int .i64 kind) ∧ W.cell? ⟨gw, 1, none⟩ = some (.int .i64 len)) :=
          fun W b => ⟨cell_keep x0 b, cell_keep x1 b, cell_keep x2 b, cell_keep x3 b, cell_keep y0 b, cell_keep y1 b⟩
        refine CalmP.hideN (fun K0 hQ => ?_)
        refine wp_region_held_drew (S := (fun W : World => W.cell? ⟨gr, 0, none⟩ = some (.int .i64 rminor) ∧ W.cell? ⟨gr, 1, none⟩ = some (.int .i64 status) ∧ W.cell? ⟨gr, 2, none⟩ = some (.string rs) ∧ W.cell? ⟨gr, 3, none⟩ = some (.slice A n c) ∧ W.cell? ⟨gw, 0, none⟩ = some (.int .i64 kind) ∧ W.cell? ⟨gw, 1, none⟩ = some (.int .i64 len))) (by kernel_rfl) hd0 (fun hHeld => ?_)
        have k : Below w4.heap.size w4 w4.drew := below_drew'
        generalize w4.drew = W0 at k hHeld ⊢
        refine wpAnyH_take (i := 0) (v := ?_) rfl (by kernel_rfl) (by kernel_rfl) (by kernel_rfl) CalmP.onlyN_panic (Or.inl ⟨by rfl, ?_⟩) (by assumption) ?_
        rotate_left
        · (intro w_ hSw; (try dsimp only at hSw); go_simp; try with_reducible rfl)
        try simp only [Act.put, List.setIfInBounds_toArray, List.set_cons_zero, List.set_cons_succ]
        refine wpAnyH_take (i := 1) (v := ?_) rfl (by kernel_rfl) (by kernel_rfl) (by kernel_rfl) CalmP.onlyN_panic (Or.inl ⟨by rfl, ?_⟩) (by assumption) ?_
        rotate_left
        · (intro w_ hSw; (try dsimp only at hSw); go_simp; try with_reducible rfl)
        try simp only [Act.put, List.setIfInBounds_toArray, List.set_cons_zero, List.set_cons_succ]
        refine CalmP.take_calm (i := 2) (v := .int .i64 (kz zf)) rfl (by kernel_rfl) (by kernel_rfl) (by kernel_rfl) CalmP.onlyN_panic (Or.inl ⟨by rfl, ?_⟩) (by assumption) ?_
        · (intro w_ hSw; (try dsimp only at hSw); go_simp; exact (gk zf hzf w_).mono (fun e w' h => ⟨h.1, h.2.symm⟩))
        try simp only [Act.put, List.setIfInBounds_toArray, List.set_cons_zero, List.set_cons_succ]
        refine wpAnyH_take (i := 3) (v := ?_) rfl (by kernel_rfl) (by kernel_rfl) (by kernel_rfl) CalmP.onlyN_panic (Or.inl ⟨by rfl, ?_⟩) (by assumption) ?_
        rotate_left
        · (intro w_ hSw; (try dsimp only at hSw); go_simp; try with_reducible rfl)
        try simp only [Act.put, List.setIfInBounds_toArray, List.set_cons_zero, List.set_cons_succ]
        refine CalmP.take_calm (i := 4) (v := .int .i64 (kz zt)) rfl (by kernel_rfl) (by kernel_rfl) (by kernel_rfl) CalmP.onlyN_panic (Or.inl ⟨by rfl, ?_⟩) (by assumption) ?_
        · (intro w_ hSw; (try dsimp only at hSw); go_simp; exact (gk zt hzt w_).mono (fun e w' h => ⟨h.1, h.2.symm⟩))
        try simp only [Act.put, List.setIfInBounds_toArray, List.set_cons_zero, List.set_cons_succ]
        refine wpAnyH_take (i := 5) (v := ?_) rfl (by kernel_rfl) (by kernel_rfl) (by kernel_rfl) CalmP.onlyN_panic (Or.inl ⟨by rfl, ?_⟩) (by assumption) ?_
        rotate_left
        · (intro w_ hSw; (try dsimp only at hSw); go_simp; try with_reducible rfl)
        try simp only [Act.put, List.setIfInBounds_toArray, List.set_cons_zero, List.set_cons_succ]
        refine wpAnyH_take (i := 6) (v := ?_) rfl (by kernel_rfl) (by kernel_rfl) (by kernel_rfl) CalmP.onlyN_panic (Or.inl ⟨by rfl, ?_⟩) (by assumption) ?_
        rotate_left
        · (intro w_ hSw; (try dsimp only at hSw); go_simp; try with_reducible rfl)
        try simp only [Act.put, List.setIfInBounds_toArray, List.set_cons_zero, List.set_cons_succ]
        refine wpAnyH_take (i := 7) (v := ?_) rfl (by kernel_rfl) (by kernel_rfl) (by kernel_rfl) CalmP.onlyN_panic (Or.inl ⟨by rfl, ?_⟩) (by assumption) ?_
        rotate_left
        · (intro w_ hSw; (try dsimp only at hSw); go_simp; try with_reducible rfl)
        try simp only [Act.put, List.setIfInBounds_toArray, List.set_cons_zero, List.set_cons_succ]
        refine wpAnyH_take (i := 8) (v := ?_) rfl (by kernel_rfl) (by kernel_rfl) (by kernel_rfl) CalmP.onlyN_panic (Or.inl ⟨by rfl, ?_⟩) (by assumption) ?_
        rotate_left
        · (intro w_ hSw; (try dsimp only at hSw); go_simp; try with_reducible rfl)
        try simp only [Act.put, List.setIfInBounds_toArray, List.set_cons_zero, List.set_cons_succ]
        refine wpAnyH_take (i := 9) (v := ?_) rfl (by kernel_rfl) (by kernel_rfl) (by kernel_rfl) CalmP.onlyN_panic (Or.inl ⟨by rfl, ?_⟩) (by assumption) ?_
        rotate_left
        · (intro w_ hSw; (try dsimp only at hSw); go_simp; try with_reducible rfl)
        try simp only [Act.put, List.setIfInBounds_toArray, List.set_cons_zero, List.set_cons_succ]
        refine wpAnyH_take (i := 10) (v := ?_) rfl (by kernel_rfl) (by kernel_rfl) (by kernel_rfl) CalmP.onlyN_panic (Or.inl ⟨by rfl, ?_⟩) (by assumption) ?_
        rotate_left
        · (intro w_ hSw; (try dsimp only at hSw); go_simp; try with_reducible rfl)
        try simp only [Act.put, List.setIfInBounds_toArray, List.set_cons_zero, List.set_cons_succ]
        refine wpAnyH_ready (rs := [11, 15, 16]) (by kernel_rfl) (by simp) ?_
        refine AllReadyH.cons rfl (fun K hK => ?_) ?_
        · go_simp
          refine (g2 _ k).mono ?_
          rintro e_ W1 ⟨A2, n2, c2, rfl, o2, hc2, kc⟩
          replace o2 := o2.base_ k.size
          replace k := k.trans (kc.mono k.size)
          clear kc
          refine hK.out _ _ (mk _ k) (fun hHeld => ?_)
          clear hK K
          try simp only [Act.put, List.setIfInBounds_toArray, List.set_cons_zero, List.set_cons_succ]
          refine wpAnyH_take (i := 12) (v := ?_) rfl (by kernel_rfl) (by kernel_rfl) (by kernel_rfl) CalmP.onlyN_panic (Or.inl ⟨by rfl, ?_⟩) (by assumption) ?_
          rotate_left
          · (intro w_ hSw; (try dsimp only at hSw); go_simp; try with_reducible rfl)
          try simp only [Act.put, List.setIfInBounds_toArray, List.set_cons_zero, List.set_cons_succ]
          refine wpAnyH_take (i := 13) (v := ?_) rfl (by kernel_rfl) (by kernel_rfl) (by kernel_rfl) CalmP.onlyN_panic (Or.inl ⟨by rfl, ?_⟩) (by assumption) ?_
          rotate_left
          · (intro w_ hSw; (try dsimp only at hSw); go_simp; try with_reducible rfl)
          try simp only [Act.put, List.setIfInBounds_toArray, List.set_cons_zero, List.set_cons_succ]
          refine wpAnyH_take (i := 14) (v := ?_) rfl (by kernel_rfl) (by kernel_rfl) (by kernel_rfl) CalmP.onlyN_panic (Or.inl ⟨by rfl, ?_⟩) (by assumption) ?_
          rotate_left
          · (intro w_ hSw; (try dsimp only at hSw); go_simp; try with_reducible rfl)
          try simp only [Act.put, List.setIfInBounds_toArray, List.set_cons_zero, List.set_cons_succ]
          refine wpAnyH_ready (rs := [15, 16]) (by kernel_rfl) (by simp) ?_
          refine AllReadyH.cons rfl (fun K hK => ?_) ?_
          · go_simp
            have kc : Below W1.heap.size W1 (W1.alloc (.cells #[.int .i64 0, .int .i64 0, .string ⟨#[]⟩, .slice none 0 0] 41)) := (Below.refl _ _).alloc (Nat.le_refl _) _
            have bA := Box.new W1 #[.int .i64 0, .int .i64 0, .string ⟨#[]⟩, .slice none 0 0] 41
            have pA := ow_new' o2
            replace o2 := o2.alloc (.cells #[.int .i64 0, .int .i64 0, .string ⟨#[]⟩, .slice none 0 0] 41)
            have gxl : w4.heap.size ≤ W1.heap.size := k.size
            replace k := k.trans (kc.mono k.size)
            clear kc
            refine hK.out _ _ (mk _ k) (fun hHeld => ?_)
            clear hK K
            generalize W1.alloc (.cells #[.int .i64 0, .int .i64 0, .string ⟨#[]⟩, .slice none 0 0] 41) = W2 at k o2 bA hHeld ⊢
            generalize W1.heap.size = gx at bA gxl pA ⊢
            try simp only [Act.put, List.setIfInBounds_toArray, List.set_cons_zero, List.set_cons_succ]
            refine wpAnyH_ready (rs := [16]) (by kernel_rfl) (by simp) ?_
            refine AllReadyH.cons rfl (fun K hK => ?_) ?_
            · go_simp
              have kc : Below W2.heap.size W2 (W2.alloc (.cells #[.int .i64 0, .int .i64 0] 26)) := (Below.refl _ _).alloc (Nat.le_refl _) _
              have bB := Box.new W2 #[.int .i64 0, .int .i64 0] 26
              have pB := ow_new' o2
              replace o2 := o2.alloc (.cells #[.int .i64 0, .int .i64 0] 26)
              have ggl : w4.heap.size ≤ W2.heap.size := k.size
              have hnn : gx ≠ W2.heap.size := by have := bA.1; omega
              replace bA := bA.below kc
              replace k := k.trans (kc.mono k.size)
              clear kc
              refine hK.out _ _ (mk _ k) (fun hHeld => ?_)
              clear hK K
              generalize W2.alloc (.cells #[.int .i64 0, .int .i64 0] 26) = W3 at k bA o2 bB hHeld ⊢
              generalize W2.heap.size = gg at bB ggl hnn pB ⊢
              have hne : gx ≠ gg := hnn
              clear hnn
              try simp only [Act.put, List.setIfInBounds_toArray, List.set_cons_zero, List.set_cons_succ]
              refine wpAnyH_ready (rs := [17]) (by kernel_rfl) (by simp) ?_
              refine AllReadyH.cons rfl (fun K hK => ?_) ?_
              · obtain ⟨m0, m1, m2, m3⟩ := bA.four
                obtain ⟨f0, f1, f2, f3⟩ := bA.free4
                go_simp
                clear m0 m1 m2 m3 f0 f1 f2 f3
                have kc : Below w4.heap.size w4 (fill4 W3 gx (.int .i64 1) (.int .i64 status) (.string rs) (.slice A2 n2 c2)) := below_fill4 k gxl _ _ _ _
                replace bA := bA.fill4 (.int .i64 1) (.int .i64 status) (.string rs) (.slice A2 n2 c2)
                replace bB := bB.far4 hne.symm (.int .i64 1) (.int .i64 status) (.string rs) (.slice A2 n2 c2)
                replace o2 := o2.far4 pA (.int .i64 1) (.int .i64 status) (.string rs) (.slice A2 n2 c2)
                refine hK.out _ (fill4 W3 gx (.int .i64 1) (.int .i64 status) (.string rs) (.slice A2 n2 c2)) (mk _ kc) (fun hHeld => ?_)
                clear hK K
                replace k := kc
                clear kc
                generalize fill4 W3 gx (.int .i64 1) (.int .i64 status) (.string rs) (.slice A2 n2 c2) = W4 at k bA bB o2 hHeld ⊢
                try simp only [Act.put, List.setIfInBounds_toArray, List.set_cons_zero, List.set_cons_succ]
                refine wpAnyH_ready (rs := [18]) (by kernel_rfl) (by simp) ?_
                refine AllReadyH.cons rfl (fun K hK => ?_) ?_
                · obtain ⟨m0, m1⟩ := bB.two
                  obtain ⟨f0, f1⟩ := bB.free2
                  go_simp
                  clear m0 m1 f0 f1
                  have kc : Below w4.heap.size w4 (fill2 W4 gg (.int .i64 K') (.int .i64 N')) := below_fill2 k ggl _ _
                  replace bB := bB.fill2 (.int .i64 K') (.int .i64 N')
                  replace bA := bA.far2 hne (.int .i64 K') (.int .i64 N')
                  replace o2 := o2.far2 pB (.int .i64 K') (.int .i64 N')
                  refine hK.out _ (fill2 W4 gg (.int .i64 K') (.int .i64 N')) (mk _ kc) (fun hHeld => ?_)
                  clear hK K
                  replace k := kc
                  clear kc
                  generalize fill2 W4 gg (.int .i64 K') (.int .i64 N') = W5 at k bA bB o2 hHeld ⊢
                  try simp only [Act.put, List.setIfInBounds_toArray, List.set_cons_zero, List.set_cons_succ]
                  refine wpAnyH_done (by kernel_rfl) ?_ _
                  refine CalmP.onlyN_here (hQ.out _ _ ?_)
                  go_wp2_with fail
                  go_meet
                  exact ⟨gx, gg, A2, n2, c2, rfl, rfl, bA, bB, o2.rd, k⟩
                exact AllReadyH.nil
              exact AllReadyH.nil
            exact AllReadyH.nil
          refine AllReadyH.cons rfl (fun K hK => ?_) ?_
          · go_simp
            have kc : Below W1.heap.size W1 (W1.alloc (.cells #[.int .i64 0, .int .i64 0] 26)) := (Below.refl _ _).alloc (Nat.le_refl _) _
            have bB := Box.new W1 #[.int .i64 0, .int .i64 0] 26
            have pB := ow_new' o2
            replace o2 := o2.alloc (.cells #[.int .i64 0, .int .i64 0] 26)
            have ggl : w4.heap.size ≤ W1.heap.size := k.size
            replace k := k.trans (kc.mono k.size)
            clear kc
            refine hK.out _ _ (mk _ k) (fun hHeld => ?_)
            clear hK K
            generalize W1.alloc (.cells #[.int .i64 0, .int .i64 0] 26) = W2 at k o2 bB hHeld ⊢
            generalize W1.heap.size = gg at bB ggl pB ⊢
            try simp only [Act.put, List.setIfInBounds_toArray, List.set_cons_zero, List.set_cons_succ]
            refine wpAnyH_ready (rs := [15]) (by kernel_rfl) (by simp) ?_
            refine AllReadyH.cons rfl (fun K hK => ?_) ?_
            · go_simp
              have kc : Below W2.heap.size W2 (W2.alloc (.cells #[.int .i64 0, .int .i64 0, .string ⟨#[]⟩, .slice none 0 0] 41)) := (Below.refl _ _).alloc (Nat.le_refl _) _
              have bA := Box.new W2 #[.int .i64 0, .int .i64 0, .string ⟨#[]⟩, .slice none 0 0] 41
              have pA := ow_new' o2
              replace o2 := o2.alloc (.cells #[.int .i64 0, .int .i64 0, .string ⟨#[]⟩, .slice none 0 0] 41)
              have gxl : w4.heap.size ≤ W2.heap.size := k.size
              have hnn : gg ≠ W2.heap.size := by have := bB.1; omega
              replace bB := bB.below kc
              replace k := k.trans (kc.mono k.size)
              clear kc
              refine hK.out _ _ (mk _ k) (fun hHeld => ?_)
              clear hK K
              generalize W2.alloc (.cells #[.int .i64 0, .int .i64 0, .string ⟨#[]⟩, .slice none 0 0] 41) = W3 at k bB o2 bA hHeld ⊢
              generalize W2.heap.size = gx at bA gxl hnn pA ⊢
              have hne : gx ≠ gg := hnn.symm
              clear hnn
              try simp only [Act.put, List.setIfInBounds_toArray, List.set_cons_zero, List.set_cons_succ]
              refine wpAnyH_ready (rs := [17]) (by kernel_rfl) (by simp) ?_
              refine AllReadyH.cons rfl (fun K hK => ?_) ?_
              · obtain ⟨m0, m1, m2, m3⟩ := bA.four
                obtain ⟨f0, f1, f2, f3⟩ := bA.free4
                go_simp
                clear m0 m1 m2 m3 f0 f1 f2 f3
                have kc : Below w4.heap.size w4 (fill4 W3 gx (.int .i64 1) (.int .i64 status) (.string rs) (.slice A2 n2 c2)) := below_fill4 k gxl _ _ _ _
                replace bA := bA.fill4 (.int .i64 1) (.int .i64 status) (.string rs) (.slice A2 n2 c2)
                replace bB := bB.far4 hne.symm (.int .i64 1) (.int .i64 status) (.string rs) (.slice A2 n2 c2)
                replace o2 := o2.far4 pA (.int .i64 1) (.int .i64 status) (.string rs) (.slice A2 n2 c2)
                refine hK.out _ (fill4 W3 gx (.int .i64 1) (.int .i64 status) (.string rs) (.slice A2 n2 c2)) (mk _ kc) (fun hHeld => ?_)
                clear hK K
                replace k := kc
                clear kc
                generalize fill4 W3 gx (.int .i64 1) (.int .i64 status) (.string rs) (.slice A2 n2 c2) = W4 at k bA bB o2 hHeld ⊢
                try simp only [Act.put, List.setIfInBounds_toArray, List.set_cons_zero, List.set_cons_succ]
                refine wpAnyH_ready (rs := [18]) (by kernel_rfl) (by simp) ?_
                refine AllReadyH.cons rfl (fun K hK => ?_) ?_
                · obtain ⟨m0, m1⟩ := bB.two
                  obtain ⟨f0, f1⟩ := bB.free2
                  go_simp
                  clear m0 m1 f0 f1
                  have kc : Below w4.heap.size w4 (fill2 W4 gg (.int .i64 K') (.int .i64 N')) := below_fill2 k ggl _ _
                  replace bB := bB.fill2 (.int .i64 K') (.int .i64 N')
                  replace bA := bA.far2 hne (.int .i64 K') (.int .i64 N')
                  replace o2 := o2.far2 pB (.int .i64 K') (.int .i64 N')
                  refine hK.out _ (fill2 W4 gg (.int .i64 K') (.int .i64 N')) (mk _ kc) (fun hHeld => ?_)
                  clear hK K
                  replace k := kc
                  clear kc
                  generalize fill2 W4 gg (.int .i64 K') (.int .i64 N') = W5 at k bA bB o2 hHeld ⊢
                  try simp only [Act.put, List.setIfInBounds_toArray, List.set_cons_zero, List.set_cons_succ]
                  refine wpAnyH_done (by kernel_rfl) ?_ _
                  refine CalmP.onlyN_here (hQ.out _ _ ?_)
                  go_wp2_with fail
                  go_meet
                  exact ⟨gx, gg, A2, n2, c2, rfl, rfl, bA, bB, o2.rd, k⟩
                exact AllReadyH.nil
              exact AllReadyH.nil
            exact AllReadyH.nil
          exact AllReadyH.nil
        refine AllReadyH.cons rfl (fun K hK => ?_) ?_
        · go_simp
          have kc : Below W0.heap.size W0 (W0.alloc (.cells #[.int .i64 0, .int .i64 0, .string ⟨#[]⟩, .slice none 0 0] 41)) := (Below.refl _ _).alloc (Nat.le_refl _) _
          have bA := Box.new W0 #[.int .i64 0, .int .i64 0, .string ⟨#[]⟩, .slice none 0 0] 41
          have gxl : w4.heap.size ≤ W0.heap.size := k.size
          replace k := k.trans (kc.mono k.size)
          clear kc
          refine hK.out _ _ (mk _ k) (fun hHeld => ?_)
          clear hK K
          generalize W0.alloc (.cells #[.int .i64 0, .int .i64 0, .string ⟨#[]⟩, .slice none 0 0] 41) = W1 at k bA hHeld ⊢
          generalize W0.heap.size = gx at bA gxl ⊢
          try simp only [Act.put, List.setIfInBounds_toArray, List.set_cons_zero, List.set_cons_succ]
          refine wpAnyH_ready (rs := [11, 16]) (by kernel_rfl) (by simp) ?_
          refine AllReadyH.cons rfl (fun K hK => ?_) ?_
          · go_simp
            refine (g2 _ k).mono ?_
            rintro e_ W2 ⟨A2, n2, c2, rfl, o2, hc2, kc⟩
            have pA : (Value.slice A2 n2 c2).ownBlock ≠ some gx := ow_apart o2 bA.1
            replace bA := bA.below kc
            replace o2 := o2.base_ k.size
            replace k := k.trans (kc.mono k.size)
            clear kc
            refine hK.out _ _ (mk _ k) (fun hHeld => ?_)
            clear hK K
            try simp only [Act.put, List.setIfInBounds_toArray, List.set_cons_zero, List.set_cons_succ]
            refine wpAnyH_take (i := 12) (v := ?_) rfl (by kernel_rfl) (by kernel_rfl) (by kernel_rfl) CalmP.onlyN_panic (Or.inl ⟨by rfl, ?_⟩) (by assumption) ?_
            rotate_left
            · (intro w_ hSw; (try dsimp only at hSw); go_simp; try with_reducible rfl)
            try simp only [Act.put, List.setIfInBounds_toArray, List.set_cons_zero, List.set_cons_succ]
            refine wpAnyH_take (i := 13) (v := ?_) rfl (by kernel_rfl) (by kernel_rfl) (by kernel_rfl) CalmP.onlyN_panic (Or.inl ⟨by rfl, ?_⟩) (by assumption) ?_
            rotate_left
            · (intro w_ hSw; (try dsimp only at hSw); go_simp; try with_reducible rfl)
            try simp only [Act.put, List.setIfInBounds_toArray, List.set_cons_zero, List.set_cons_succ]
            refine wpAnyH_take (i := 14) (v := ?_) rfl (by kernel_rfl) (by kernel_rfl) (by kernel_rfl) CalmP.onlyN_panic (Or.inl ⟨by rfl, ?_⟩) (by assumption) ?_
            rotate_left
            · (intro w_ hSw; (try dsimp only at hSw); go_simp; try with_reducible rfl)
            try simp only [Act.put, List.setIfInBounds_toArray, List.set_cons_zero, List.set_cons_succ]
            refine wpAnyH_ready (rs := [16]) (by kernel_rfl) (by simp) ?_
            refine AllReadyH.cons rfl (fun K hK => ?_) ?_
            · go_simp
              have kc : Below W2.heap.size W2 (W2.alloc (.cells #[.int .i64 0, .int .i64 0] 26)) := (Below.refl _ _).alloc (Nat.le_refl _) _
              have bB := Box.new W2 #[.int .i64 0, .int .i64 0] 26
              have pB := ow_new' o2
              replace o2 := o2.alloc (.cells #[.int .i64 0, .int .i64 0] 26)
              have ggl : w4.heap.size ≤ W2.heap.size := k.size
              have hnn : gx ≠ W2.heap.size := by have := bA.1; omega
              replace bA := bA.below kc
              replace k := k.trans (kc.mono k.size)
              clear kc
              refine hK.out _ _ (mk _ k) (fun hHeld => ?_)
              clear hK K
              generalize W2.alloc (.cells #[.int .i64 0, .int .i64 0] 26) = W3 at k bA o2 bB hHeld ⊢
              generalize W2.heap.size = gg at bB ggl hnn pB ⊢
              have hne : gx ≠ gg := hnn
              clear hnn
              try simp only [Act.put, List.setIfInBounds_toArray, List.set_cons_zero, List.set_cons_succ]
              refine wpAnyH_ready (rs := [17]) (by kernel_rfl) (by simp) ?_
              refine AllReadyH.cons rfl (fun K hK => ?_) ?_
              · obtain ⟨m0, m1, m2, m3⟩ := bA.four
                obtain ⟨f0, f1, f2, f3⟩ := bA.free4
                go_simp
                clear m0 m1 m2 m3 f0 f1 f2 f3
                have kc : Below w4.heap.size w4 (fill4 W3 gx (.int .i64 1) (.int .i64 status) (.string rs) (.slice A2 n2 c2)) := below_fill4 k gxl _ _ _ _
                replace bA := bA.fill4 (.int .i64 1) (.int .i64 status) (.string rs) (.slice A2 n2 c2)
                replace bB := bB.far4 hne.symm (.int .i64 1) (.int .i64 status) (.string rs) (.slice A2 n2 c2)
                replace o2 := o2.far4 pA (.int .i64 1) (.int .i64 status) (.string rs) (.slice A2 n2 c2)
                refine hK.out _ (fill4 W3 gx (.int .i64 1) (.int .i64 status) (.string rs) (.slice A2 n2 c2)) (mk _ kc) (fun hHeld => ?_)
                clear hK K
                replace k := kc
                clear kc
                generalize fill4 W3 gx (.int .i64 1) (.int .i64 status) (.string rs) (.slice A2 n2 c2) = W4 at k bA bB o2 hHeld ⊢
                try simp only [Act.put, List.setIfInBounds_toArray, List.set_cons_zero, List.set_cons_succ]
                refine wpAnyH_ready (rs := [18]) (by kernel_rfl) (by simp) ?_
                refine AllReadyH.cons rfl (fun K hK => ?_) ?_
                · obtain ⟨m0, m1⟩ := bB.two
                  obtain ⟨f0, f1⟩ := bB.free2
                  go_simp
                  clear m0 m1 f0 f1
                  have kc : Below w4.heap.size w4 (fill2 W4 gg (.int .i64 K') (.int .i64 N')) := below_fill2 k ggl _ _
                  replace bB := bB.fill2 (.int .i64 K') (.int .i64 N')
                  replace bA := bA.far2 hne (.int .i64 K') (.int .i64 N')
                  replace o2 := o2.far2 pB (.int .i64 K') (.int .i64 N')
                  refine hK.out _ (fill2 W4 gg (.int .i64 K') (.int .i64 N')) (mk _ kc) (fun hHeld => ?_)
                  clear hK K
                  replace k := kc
                  clear kc
                  generalize fill2 W4 gg (.int .i64 K') (.int .i64 N') = W5 at k bA bB o2 hHeld ⊢
                  try simp only [Act.put, List.setIfInBounds_toArray, List.set_cons_zero, List.set_cons_succ]
                  refine wpAnyH_done (by kernel_rfl) ?_ _
                  refine CalmP.onlyN_here (hQ.out _ _ ?_)
                  go_wp2_with fail
                  go_meet
                  exact ⟨gx, gg, A2, n2, c2, rfl, rfl, bA, bB, o2.rd, k⟩
                exact AllReadyH.nil
              exact AllReadyH.nil
            exact AllReadyH.nil
          refine AllReadyH.cons rfl (fun K hK => ?_) ?_
          · go_simp
            have kc : Below W1.heap.size W1 (W1.alloc (.cells #[.int .i64 0, .int .i64 0] 26)) := (Below.refl _ _).alloc (Nat.le_refl _) _
            have bB := Box.new W1 #[.int .i64 0, .int .i64 0] 26
            have ggl : w4.heap.size ≤ W1.heap.size := k.size
            have hnn : gx ≠ W1.heap.size := by have := bA.1; omega
            replace bA := bA.below kc
            replace k := k.trans (kc.mono k.size)
            clear kc
            refine hK.out _ _ (mk _ k) (fun hHeld => ?_)
            clear hK K
            generalize W1.alloc (.cells #[.int .i64 0, .int .i64 0] 26) = W2 at k bA bB hHeld ⊢
            generalize W1.heap.size = gg at bB ggl hnn ⊢
            have hne : gx ≠ gg := hnn
            clear hnn
            try simp only [Act.put, List.setIfInBounds_toArray, List.set_cons_zero, List.set_cons_succ]
            refine wpAnyH_ready (rs := [11]) (by kernel_rfl) (by simp) ?_
            refine AllReadyH.cons rfl (fun K hK => ?_) ?_
            · go_simp
              refine (g2 _ k).mono ?_
              rintro e_ W3 ⟨A2, n2, c2, rfl, o2, hc2, kc⟩
              have pA : (Value.slice A2 n2 c2).ownBlock ≠ some gx := ow_apart o2 bA.1
              have pB : (Value.slice A2 n2 c2).ownBlock ≠ some gg := ow_apart o2 bB.1
              replace bA := bA.below kc
              replace bB := bB.below kc
              replace o2 := o2.base_ k.size
              replace k := k.trans (kc.mono k.size)
              clear kc
              refine hK.out _ _ (mk _ k) (fun hHeld => ?_)
              clear hK K
              try simp only [Act.put, List.setIfInBounds_toArray, List.set_cons_zero, List.set_cons_succ]
              refine wpAnyH_take (i := 12) (v := ?_) rfl (by kernel_rfl) (by kernel_rfl) (by kernel_rfl) CalmP.onlyN_panic (Or.inl ⟨by rfl, ?_⟩) (by assumption) ?_
              rotate_left
              · (intro w_ hSw; (try dsimp only at hSw); go_simp; try with_reducible rfl)
              try simp only [Act.put, List.setIfInBounds_toArray, List.set_cons_zero, List.set_cons_succ]
              refine wpAnyH_take (i := 13) (v := ?_) rfl (by kernel_rfl) (by kernel_rfl) (by kernel_rfl) CalmP.onlyN_panic (Or.inl ⟨by rfl, ?_⟩) (by assumption) ?_
              rotate_left
              · (intro w_ hSw; (try dsimp only at hSw); go_simp; try with_reducible rfl)
              try simp only [Act.put, List.setIfInBounds_toArray, List.set_cons_zero, List.set_cons_succ]
              refine wpAnyH_take (i := 14) (v := ?_) rfl (by kernel_rfl) (by kernel_rfl) (by kernel_rfl) CalmP.onlyN_panic (Or.inl ⟨by rfl, ?_⟩) (by assumption) ?_
              rotate_left
              · (intro w_ hSw; (try dsimp only at hSw); go_simp; try with_reducible rfl)
              try simp only [Act.put, List.setIfInBounds_toArray, List.set_cons_zero, List.set_cons_succ]
              refine wpAnyH_ready (rs := [17]) (by kernel_rfl) (by simp) ?_
              refine AllReadyH.cons rfl (fun K hK => ?_) ?_
              · obtain ⟨m0, m1, m2, m3⟩ := bA.four
                obtain ⟨f0, f1, f2, f3⟩ := bA.free4
                go_simp
                clear m0 m1 m2 m3 f0 f1 f2 f3
                have kc : Below w4.heap.size w4 (fill4 W3 gx (.int .i64 1) (.int .i64 status) (.string rs) (.slice A2 n2 c2)) := below_fill4 k gxl _ _ _ _
                replace bA := bA.fill4 (.int .i64 1) (.int .i64 status) (.string rs) (.slice A2 n2 c2)
                replace bB := bB.far4 hne.symm (.int .i64 1) (.int .i64 status) (.string rs) (.slice A2 n2 c2)
                replace o2 := o2.far4 pA (.int .i64 1) (.int .i64 status) (.string rs) (.slice A2 n2 c2)
                refine hK.out _ (fill4 W3 gx (.int .i64 1) (.int .i64 status) (.string rs) (.slice A2 n2 c2)) (mk _ kc) (fun hHeld => ?_)
                clear hK K
                replace k := kc
                clear kc
                generalize fill4 W3 gx (.int .i64 1) (.int .i64 status) (.string rs) (.slice A2 n2 c2) = W4 at k bA bB o2 hHeld ⊢
                try simp only [Act.put, List.setIfInBounds_toArray, List.set_cons_zero, List.set_cons_succ]
                refine wpAnyH_ready (rs := [18]) (by kernel_rfl) (by simp) ?_
                refine AllReadyH.cons rfl (fun K hK => ?_) ?_
                · obtain ⟨m0, m1⟩ := bB.two
                  obtain ⟨f0, f1⟩ := bB.free2
                  go_simp
                  clear m0 m1 f0 f1
                  have kc : Below w4.heap.size w4 (fill2 W4 gg (.int .i64 K') (.int .i64 N')) := below_fill2 k ggl _ _
                  replace bB := bB.fill2 (.int .i64 K') (.int .i64 N')
                  replace bA := bA.far2 hne (.int .i64 K') (.int .i64 N')
                  replace o2 := o2.far2 pB (.int .i64 K') (.int .i64 N')
                  refine hK.out _ (fill2 W4 gg (.int .i64 K') (.int .i64 N')) (mk _ kc) (fun hHeld => ?_)
                  clear hK K
                  replace k := kc
                  clear kc
                  generalize fill2 W4 gg (.int .i64 K') (.int .i64 N') = W5 at k bA bB o2 hHeld ⊢
                  try simp only [Act.put, List.setIfInBounds_toArray, List.set_cons_zero, List.set_cons_succ]
                  refine wpAnyH_done (by kernel_rfl) ?_ _
                  refine CalmP.onlyN_here (hQ.out _ _ ?_)
                  go_wp2_with fail
                  go_meet
                  exact ⟨gx, gg, A2, n2, c2, rfl, rfl, bA, bB, o2.rd, k⟩
                exact AllReadyH.nil
              exact AllReadyH.nil
            exact AllReadyH.nil
          exact AllReadyH.nil
        refine AllReadyH.cons rfl (fun K hK => ?_) ?_
        · go_simp
          have kc : Below W0.heap.size W0 (W0.alloc (.cells #[.int .i64 0, .int .i64 0] 26)) := (Below.refl _ _).alloc (Nat.le_refl _) _
          have bB := Box.new W0 #[.int .i64 0, .int .i64 0] 26
          have ggl : w4.heap.size ≤ W0.heap.size := k.size
          replace k := k.trans (kc.mono k.size)
          clear kc
          refine hK.out _ _ (mk _ k) (fun hHeld => ?_)
          clear hK K
          generalize W0.alloc (.cells #[.int .i64 0, .int .i64 0] 26) = W1 at k bB hHeld ⊢
          generalize W0.heap.size = gg at bB ggl ⊢
          try simp only [Act.put, List.setIfInBounds_toArray, List.set_cons_zero, List.set_cons_succ]
          refine wpAnyH_ready (rs := [11, 15]) (by kernel_rfl) (by simp) ?_
          refine AllReadyH.cons rfl (fun K hK => ?_) ?_
          · go_simp
            refine (g2 _ k).mono ?_
            rintro e_ W2 ⟨A2, n2, c2, rfl, o2, hc2, kc⟩
            have pB : (Value.slice A2 n2 c2).ownBlock ≠ some gg := ow_apart o2 bB.1
            replace bB := bB.below kc
            replace o2 := o2.base_ k.size
            replace k := k.trans (kc.mono k.size)
            clear kc
            refine hK.out _ _ (mk _ k) (fun hHeld => ?_)
            clear hK K
            try simp only [Act.put, List.setIfInBounds_toArray, List.set_cons_zero, List.set_cons_succ]
            refine wpAnyH_take (i := 12) (v := ?_) rfl (by kernel_rfl) (by kernel_rfl) (by kernel_rfl) CalmP.onlyN_panic (Or.inl ⟨by rfl, ?_⟩) (by assumption) ?_
            rotate_left
            · (intro w_ hSw; (try dsimp only at hSw); go_simp; try with_reducible rfl)
            try simp only [Act.put, List.setIfInBounds_toArray, List.set_cons_zero, List.set_cons_succ]
            refine wpAnyH_take (i := 13) (v := ?_) rfl (by kernel_rfl) (by kernel_rfl) (by kernel_rfl) CalmP.onlyN_panic (Or.inl ⟨by rfl, ?_⟩) (by assumption) ?_
            rotate_left
            · (intro w_ hSw; (try dsimp only at hSw); go_simp; try with_reducible rfl)
            try simp only [Act.put, List.setIfInBounds_toArray, List.set_cons_zero, List.set_cons_succ]
            refine wpAnyH_take (i := 14) (v := ?_) rfl (by kernel_rfl) (by kernel_rfl) (by kernel_rfl) CalmP.onlyN_panic (Or.inl ⟨by rfl, ?_⟩) (by assumption) ?_
            rotate_left
            · (intro w_ hSw; (try dsimp only at hSw); go_simp; try with_reducible rfl)
            try simp only [Act.put, List.setIfInBounds_toArray, List.set_cons_zero, List.set_cons_succ]
            refine wpAnyH_ready (rs := [15]) (by kernel_rfl) (by simp) ?_
            refine AllReadyH.cons rfl (fun K hK => ?_) ?_
            · go_simp
              have kc : Below W2.heap.size W2 (W2.alloc (.cells #[.int .i64 0, .int .i64 0, .string ⟨#[]⟩, .slice none 0 0] 41)) := (Below.refl _ _).alloc (Nat.le_refl _) _
              have bA := Box.new W2 #[.int .i64 0, .int .i64 0, .string ⟨#[]⟩, .slice none 0 0] 41
              have pA := ow_new' o2
              replace o2 := o2.alloc (.cells #[.int .i64 0, .int .i64 0, .string ⟨#[]⟩, .slice none 0 0] 41)
              have gxl : w4.heap.size ≤ W2.heap.size := k.size
              have hnn : gg ≠ W2.heap.size := by have := bB.1; omega
              replace bB := bB.below kc
              replace k := k.trans (kc.mono k.size)
              clear kc
              refine hK.out _ _ (mk _ k) (fun hHeld => ?_)
              clear hK K
              generalize W2.alloc (.cells #[.int .i64 0, .int .i64 0, .string ⟨#[]⟩, .slice none 0 0] 41) = W3 at k bB o2 bA hHeld ⊢
              generalize W2.heap.size = gx at bA gxl hnn pA ⊢
              have hne : gx ≠ gg := hnn.symm
              clear hnn
              try simp only [Act.put, List.setIfInBounds_toArray, List.set_cons_zero, List.set_cons_succ]
              refine wpAnyH_ready (rs := [17]) (by kernel_rfl) (by simp) ?_
              refine AllReadyH.cons rfl (fun K hK => ?_) ?_
              · obtain ⟨m0, m1, m2, m3⟩ := bA.four
                obtain ⟨f0, f1, f2, f3⟩ := bA.free4
                go_simp
                clear m0 m1 m2 m3 f0 f1 f2 f3
                have kc : Below w4.heap.size w4 (fill4 W3 gx (.int .i64 1) (.int .i64 status) (.string rs) (.slice A2 n2 c2)) := below_fill4 k gxl _ _ _ _
                replace bA := bA.fill4 (.int .i64 1) (.int .i64 status) (.string rs) (.slice A2 n2 c2)
                replace bB := bB.far4 hne.symm (.int .i64 1) (.int .i64 status) (.string rs) (.slice A2 n2 c2)
                replace o2 := o2.far4 pA (.int .i64 1) (.int .i64 status) (.string rs) (.slice A2 n2 c2)
                refine hK.out _ (fill4 W3 gx (.int .i64 1) (.int .i64 status) (.string rs) (.slice A2 n2 c2)) (mk _ kc) (fun hHeld => ?_)
                clear hK K
                replace k := kc
                clear kc
                generalize fill4 W3 gx (.int .i64 1) (.int .i64 status) (.string rs) (.slice A2 n2 c2) = W4 at k bA bB o2 hHeld ⊢
                try simp only [Act.put, List.setIfInBounds_toArray, List.set_cons_zero, List.set_cons_succ]
                refine wpAnyH_ready (rs := [18]) (by kernel_rfl) (by simp) ?_
                refine AllReadyH.cons rfl (fun K hK => ?_) ?_
                · obtain ⟨m0, m1⟩ := bB.two
                  obtain ⟨f0, f1⟩ := bB.free2
                  go_simp
                  clear m0 m1 f0 f1
                  have kc : Below w4.heap.size w4 (fill2 W4 gg (.int .i64 K') (.int .i64 N')) := below_fill2 k ggl _ _
                  replace bB := bB.fill2 (.int .i64 K') (.int .i64 N')
                  replace bA := bA.far2 hne (.int .i64 K') (.int .i64 N')
                  replace o2 := o2.far2 pB (.int .i64 K') (.int .i64 N')
                  refine hK.out _ (fill2 W4 gg (.int .i64 K') (.int .i64 N')) (mk _ kc) (fun hHeld => ?_)
                  clear hK K
                  replace k := kc
                  clear kc
                  generalize fill2 W4 gg (.int .i64 K') (.int .i64 N') = W5 at k bA bB o2 hHeld ⊢
                  try simp only [Act.put, List.setIfInBounds_toArray, List.set_cons_zero, List.set_cons_succ]
                  refine wpAnyH_done (by kernel_rfl) ?_ _
                  refine CalmP.onlyN_here (hQ.out _ _ ?_)
                  go_wp2_with fail
                  go_meet
                  exact ⟨gx, gg, A2, n2, c2, rfl, rfl, bA, bB, o2.rd, k⟩
                exact AllReadyH.nil
              exact AllReadyH.nil
            exact AllReadyH.nil
          refine AllReadyH.cons rfl (fun K hK => ?_) ?_
          · go_simp
            have kc : Below W1.heap.size W1 (W1.alloc (.cells #[.int .i64 0, .int .i64 0, .string ⟨#[]⟩, .slice none 0 0] 41)) := (Below.refl _ _).alloc (Nat.le_refl _) _
            have bA := Box.new W1 #[.int .i64 0, .int .i64 0, .string ⟨#[]⟩, .slice none 0 0] 41
            have gxl : w4.heap.size ≤ W1.heap.size := k.size
            have hnn : gg ≠ W1.heap.size := by have := bB.1; omega
            replace bB := bB.below kc
            replace k := k.trans (kc.mono k.size)
            clear kc
            refine hK.out _ _ (mk _ k) (fun hHeld => ?_)
            clear hK K
            generalize W1.alloc (.cells #[.int .i64 0, .int .i64 0, .string ⟨#[]⟩, .slice none 0 0] 41) = W2 at k bB bA hHeld ⊢
            generalize W1.heap.size = gx at bA gxl hnn ⊢
            have hne : gx ≠ gg := hnn.symm
            clear hnn
            try simp only [Act.put, List.setIfInBounds_toArray, List.set_cons_zero, List.set_cons_succ]
            refine wpAnyH_ready (rs := [11]) (by kernel_rfl) (by simp) ?_
            refine AllReadyH.cons rfl (fun K hK => ?_) ?_
            · go_simp
              refine (g2 _ k).mono ?_
              rintro e_ W3 ⟨A2, n2, c2, rfl, o2, hc2, kc⟩
              have pA : (Value.slice A2 n2 c2).ownBlock ≠ some gx := ow_apart o2 bA.1
              have pB : (Value.slice A2 n2 c2).ownBlock ≠ some gg := ow_apart o2 bB.1
              replace bA := bA.below kc
              replace bB := bB.below kc
              replace o2 := o2.base_ k.size
              replace k := k.trans (kc.mono k.size)
              clear kc
              refine hK.out _ _ (mk _ k) (fun hHeld => ?_)
              clear hK K
              try simp only [Act.put, List.setIfInBounds_toArray, List.set_cons_zero, List.set_cons_succ]
              refine wpAnyH_take (i := 12) (v := ?_) rfl (by kernel_rfl) (by kernel_rfl) (by kernel_rfl) CalmP.onlyN_panic (Or.inl ⟨by rfl, ?_⟩) (by assumption) ?_
              rotate_left
              · (intro w_ hSw; (try dsimp only at hSw); go_simp; try with_reducible rfl)
              try simp only [Act.put, List.setIfInBounds_toArray, List.set_cons_zero, List.set_cons_succ]
              refine wpAnyH_take (i := 13) (v := ?_) rfl (by kernel_rfl) (by kernel_rfl) (by kernel_rfl) CalmP.onlyN_panic (Or.inl ⟨by rfl, ?_⟩) (by assumption) ?_
              rotate_left
              · (intro w_ hSw; (try dsimp only at hSw); go_simp; try with_reducible rfl)
              try simp only [Act.put, List.setIfInBounds_toArray, List.set_cons_zero, List.set_cons_succ]
              refine wpAnyH_take (i := 14) (v := ?_) rfl (by kernel_rfl) (by kernel_rfl) (by kernel_rfl) CalmP.onlyN_panic (Or.inl ⟨by rfl, ?_⟩) (by assumption) ?_
              rotate_left
              · (intro w_ hSw; (try dsimp only at hSw); go_simp; try with_reducible rfl)
              try simp only [Act.put, List.setIfInBounds_toArray, List.set_cons_zero, List.set_cons_succ]
              refine wpAnyH_ready (rs := [17]) (by kernel_rfl) (by simp) ?_
              refine AllReadyH.cons rfl (fun K hK => ?_) ?_
              · obtain ⟨m0, m1, m2, m3⟩ := bA.four
                obtain ⟨f0, f1, f2, f3⟩ := bA.free4
                go_simp
                clear m0 m1 m2 m3 f0 f1 f2 f3
                have kc : Below w4.heap.size w4 (fill4 W3 gx (.int .i64 1) (.int .i64 status) (.string rs) (.slice A2 n2 c2)) := below_fill4 k gxl _ _ _ _
                replace bA := bA.fill4 (.int .i64 1) (.int .i64 status) (.string rs) (.slice A2 n2 c2)
                replace bB := bB.far4 hne.symm (.int .i64 1) (.int .i64 status) (.string rs) (.slice A2 n2 c2)
                replace o2 := o2.far4 pA (.int .i64 1) (.int .i64 status) (.string rs) (.slice A2 n2 c2)
                refine hK.out _ (fill4 W3 gx (.int .i64 1) (.int .i64 status) (.string rs) (.slice A2 n2 c2)) (mk _ kc) (fun hHeld => ?_)
                clear hK K
                replace k := kc
                clear kc
                generalize fill4 W3 gx (.int .i64 1) (.int .i64 status) (.string rs) (.slice A2 n2 c2) = W4 at k bA bB o2 hHeld ⊢
                try simp only [Act.put, List.setIfInBounds_toArray, List.set_cons_zero, List.set_cons_succ]
                refine wpAnyH_ready (rs := [18]) (by kernel_rfl) (by simp) ?_
                refine AllReadyH.cons rfl (fun K hK => ?_) ?_
                · obtain ⟨m0, m1⟩ := bB.two
                  obtain ⟨f0, f1⟩ := bB.free2
                  go_simp
                  clear m0 m1 f0 f1
                  have kc : Below w4.heap.size w4 (fill2 W4 gg (.int .i64 K') (.int .i64 N')) := below_fill2 k ggl _ _
                  replace bB := bB.fill2 (.int .i64 K') (.int .i64 N')
                  replace bA := bA.far2 hne (.int .i64 K') (.int .i64 N')
                  replace o2 := o2.far2 pB (.int .i64 K') (.int .i64 N')
                  refine hK.out _ (fill2 W4 gg (.int .i64 K') (.int .i64 N')) (mk _ kc) (fun hHeld => ?_)
                  clear hK K
                  replace k := kc
                  clear kc
                  generalize fill2 W4 gg (.int .i64 K') (.int .i64 N') = W5 at k bA bB o2 hHeld ⊢
                  try simp only [Act.put, List.setIfInBounds_toArray, List.set_cons_zero, List.set_cons_succ]
                  refine wpAnyH_done (by kernel_rfl) ?_ _
                  refine CalmP.onlyN_here (hQ.out _ _ ?_)
                  go_wp2_with fail
                  go_meet
                  exact ⟨gx, gg, A2, n2, c2, rfl, rfl, bA, bB, o2.rd, k⟩
                exact AllReadyH.nil
              exact AllReadyH.nil
            exact AllReadyH.nil
          exact AllReadyH.nil
        exact AllReadyH.nil
      case rest =>
        obtain ⟨gx, gg, A2, n2, c2, rfl, rfl, bx, bg, rx, t5⟩ := hcut
        have hxl := rx.flen
        have hb1 := b1.below t5
        have hr1 := step_ r1 t5
        have t6 := t3.trans (t5.mono (Nat.le_of_lt hgr4))
        have hxok : fsOk xs := by rw [HXS.out]; exact resp_ok hok5 _ _ _ _
        have hxn : n2 ≤ 1000 := by
          have := resp_le fs (kz zt) kind mn keep
          rw [← HXS.out] at this; omega
        have s1 : getL xs lenC = [] := by rw [HXS.out]; exact resp_len_nil fs _ _ _ _
        have s2 : getL xs teC = if ¬ (kind : Int) = 0 ∧ (mn : Int) = 1 then [chunkedL] else [] := by rw [HXS.out]; exact resp_te fs _ _ _ _
        have s3 : getL xs etagC = if 0 < (getL fs etagC).length then [weakL ((getL fs etagC).headD [])] else [] := by rw [HXS.out]; exact resp_tag fs _ _ _ _
        have s4 : hasL xs varyC aeC = true ∨ hasL xs varyC [42] = true := by rw [HXS.out]; exact resp_vary fs _ _ _ _
        have s5 : codingL (allL xs codeL) = kz zt := by rw [HXS.out]; exact resp_coding fs _ _ _ _ hkz2
        have s6 : keep = false ∨ K' = 3 → hasL xs connC [99, 108, 111, 115, 101] = true := by rw [HXS.out, HK.out]; exact resp_close fs _ _ _ _
        have hKv : (K' = 0 ∧ (¬ (kind : Int) = 0 ∧ (mn : Int) = 1 ↔ False)) ∨ (K' = 2 ∧ (¬ (kind : Int) = 0 ∧ (mn : Int) = 1 ↔ True)) ∨ (K' = 3 ∧ (¬ (kind : Int) = 0 ∧ (mn : Int) = 1 ↔ False)) := by
          rw [HK.out]
          unfold respK
          by_cases hk0 : (kind : Int) = 0
          · left; rw [if_pos (.inl hk0)]; exact ⟨hk0, fun h => h.1 hk0, False.elim⟩
          · rw [if_neg (fun h => h.elim hk0 (fun h => by simp at h))]
            by_cases hm1 : (mn : Int) = 1
            · right; left; rw [if_pos hm1]; exact ⟨rfl, fun _ => trivial, fun _ => ⟨hk0, hm1⟩⟩
            · right; right; rw [if_neg hm1]; exact ⟨rfl, fun h => hm1 h.2, False.elim⟩
        have s7 : frResp ⟨#[71, 69, 84]⟩ xs 1 status = (K'.toNat, 0, 0) := by rw [HXS.out, HK.out, HT.out]; exact hfr mn rfl
        have s8 : ((K'.toNat : Nat) : Int) = K' := by omega
        have q1 := fun (W : World) (r : Rd W W.heap.size 2 A2 n2 (fcells xs)) => refget_any A2 n2 c2 _ xs ⟨#[67, 111, 110, 116, 101, 110, 116, 45, 76, 101, 110, 103, 116, 104]⟩ W r (Nat.le_refl _) (by omega) hxok (by decide)
        have q2 := fun (W : World) (r : Rd W W.heap.size 2 A2 n2 (fcells xs)) => refget_any A2 n2 c2 _ xs ⟨#[84, 114, 97, 110, 115, 102, 101, 114, 45, 69, 110, 99, 111, 100, 105, 110, 103]⟩ W r (Nat.le_refl _) (by omega) hxok (by decide)
        have q3 := fun (W : World) (r : Rd W W.heap.size 2 A2 n2 (fcells xs)) => refget_any A2 n2 c2 _ xs ⟨#[69, 84, 97, 103]⟩ W r (Nat.le_refl _) (by omega) hxok (by decide)
        have q4 := fun (W : World) (r : Rd W W.heap.size 2 A n (fcells fs)) => refget_any A n c _ fs ⟨#[69, 84, 97, 103]⟩ W r (Nat.le_refl _) (by omega) hok (by decide)
        have q5 := fun (W : World) (r : Rd W W.heap.size 2 A2 n2 (fcells xs)) => refhas_any A2 n2 c2 _ xs ⟨#[86, 97, 114, 121]⟩ ⟨#[65, 99, 99, 101, 112, 116, 45, 69, 110, 99, 111, 100, 105, 110, 103]⟩ W r (Nat.le_refl _) (by omega) hxok (by decide) (by decide)
        have q6 := fun (W : World) (r : Rd W W.heap.size 2 A2 n2 (fcells xs)) => refhas_any A2 n2 c2 _ xs ⟨#[86, 97, 114, 121]⟩ ⟨#[42]⟩ W r (Nat.le_refl _) (by omega) hxok (by decide) (by decide)
        have q7 := fun (W : World) (r : Rd W W.heap.size 2 A2 n2 (fcells xs)) => refresp_any ⟨#[71, 69, 84]⟩ ⟨#[]⟩ 1 status A2 n2 c2 _ xs W r (Nat.le_refl _) (by omega) hxok
        have q8 := fun (W : World) (r : Rd W W.heap.size 2 A2 n2 (fcells xs)) => coding_any 1 status rs A2 n2 c2 _ xs W r (Nat.le_refl _) (by omega) hxok
        have q9 := fun (W : World) (r : Rd W W.heap.size 2 A2 n2 (fcells xs)) => refhas_any A2 n2 c2 _ xs ⟨#[67, 111, 110, 110, 101, 99, 116, 105, 111, 110]⟩ ⟨#[99, 108, 111, 115, 101]⟩ W r (Nat.le_refl _) (by omega) hxok (by decide) (by decide)
        have e1 : getL xs (⟨#[67, 111, 110, 116, 101, 110, 116, 45, 76, 101, 110, 103, 116, 104]⟩ : ByteArray).data.toList = [] := s1
        obtain ⟨T, hT⟩ : ∃ T, T = getL xs (⟨#[84, 114, 97, 110, 115, 102, 101, 114, 45, 69, 110, 99, 111, 100, 105, 110, 103]⟩ : ByteArray).data.toList := ⟨_, rfl⟩
        obtain ⟨G, hG⟩ : ∃ G, G = getL xs (⟨#[69, 84, 97, 103]⟩ : ByteArray).data.toList := ⟨_, rfl⟩
        obtain ⟨E, hE⟩ : ∃ E, E = getL fs (⟨#[69, 84, 97, 103]⟩ : ByteArray).data.toList := ⟨_, rfl⟩
        have s2' : T = if ¬ (kind : Int) = 0 ∧ (mn : Int) = 1 then [chunkedL] else [] := hT.trans s2
        have s3' : G = if 0 < E.length then [weakL (E.headD [])] else [] := hG.trans (by rw [hE]; exact s3)
        obtain ⟨v1, hv1⟩ : ∃ v, v = hasL xs (⟨#[86, 97, 114, 121]⟩ : ByteArray).data.toList (⟨#[65, 99, 99, 101, 112, 116, 45, 69, 110, 99, 111, 100, 105, 110, 103]⟩ : ByteArray).data.toList := ⟨_, rfl⟩
        obtain ⟨v2, hv2⟩ : ∃ v, v = hasL xs (⟨#[86, 97, 114, 121]⟩ : ByteArray).data.toList (⟨#[42]⟩ : ByteArray).data.toList := ⟨_, rfl⟩
        obtain ⟨v3, hv3⟩ : ∃ v, v = hasL xs (⟨#[67, 111, 110, 110, 101, 99, 116, 105, 111, 110]⟩ : ByteArray).data.toList (⟨#[99, 108, 111, 115, 101]⟩ : ByteArray).data.toList := ⟨_, rfl⟩
        have s4' : v1 = true ∨ v2 = true := by rw [hv1, hv2]; exact s4
        have s6' : keep = false ∨ K' = 3 → v3 = true := by rw [hv3]; exact s6
        simp only [e1, List.length_nil] at q1
        simp only [← hT] at q2
        simp only [← hG] at q3
        simp only [← hE] at q4
        simp only [← hv1] at q5
        simp only [← hv2] at q6
        simp only [s7, frV, s8] at q7
        simp only [s5] at q8
        simp only [← hv3] at q9
        obtain ⟨tl, htl⟩ : ∃ l, T.length = l := ⟨_, rfl⟩
        obtain ⟨gl, hgl⟩ : ∃ l, G.length = l := ⟨_, rfl⟩
        obtain ⟨el, hel⟩ : ∃ l, E.length = l := ⟨_, rfl⟩
        have hTK : (K' = 2 ∧ tl = 1) ∨ (K' = 0 ∧ tl = 0) ∨ (K' = 3 ∧ tl = 0) := by
          rcases hKv with ⟨h1, h2⟩ | ⟨h1, h2⟩ | ⟨h1, h2⟩
          · right; left; refine ⟨h1, ?_⟩; rw [← htl, s2', if_neg (fun h => h2.1 h)]; rfl
          · left; refine ⟨h1, ?_⟩; rw [← htl, s2', if_pos (h2.2 trivial)]; rfl
          · right; right; refine ⟨h1, ?_⟩; rw [← htl, s2', if_neg (fun h => h2.1 h)]; rfl
        have hGE : (gl = 1 ∧ 0 < el ∧ ∃ t, t.take 2 = [87, 47] ∧ G = [t]) ∨ (gl = 0 ∧ el = 0) := by
          by_cases h0 : 0 < E.length
          · left; rw [if_pos h0] at s3'; exact ⟨by rw [← hgl, s3']; rfl, by omega, _, weakL_pre _, s3'⟩
          · right; rw [if_neg h0] at s3'; exact ⟨by rw [← hgl, s3']; rfl, by omega⟩
        simp only [htl] at q2
        simp only [hgl] at q3
        simp only [hel] at q4
        have HGL := hide hgl
        clear e1 hT hG hE s2' s3' hv1 hv2 hv3 s1 s2 s3 s4 s5 s6 s7 s8 htl hel hKv hgl hfr hxl
        obtain ⟨bt, k1, k2⟩ : ∃ b, ((tl : Int) == 1) = b ∧ (K' == 2) = b := by
          rcases hTK with ⟨rfl, rfl⟩ | ⟨rfl, rfl⟩ | ⟨rfl, rfl⟩ <;> exact ⟨_, rfl, rfl⟩
        have k3 : decide ((1 : Int) < (tl : Int)) = false := decide_eq_false (by omega)
        have k4 : decide ((1 : Int) < (gl : Int)) = false := decide_eq_false (by omega)
        have HTK := hide hTK
        clear hTK HXS HK HN
        rw [HGR.out] at t6
        obtain ⟨x0, x1, x2, x3⟩ := bx.four
        go_wp2_with fail
        refine (q1 wc rx).mono ?_
        rintro e w7 ⟨A7, c7, rfl, -, -, k⟩
        replace bx := bx.below k
        replace bg := bg.below k
        replace hb1 := hb1.below k
        replace rx := step_ rx k
        replace hr1 := step_ hr1 k
        have t7 := t6.trans (k.mono t6.size)
        clear k t6
        clear x0 x1 x2 x3 q1 t5
        obtain ⟨x0, x1, x2, x3⟩ := bx.four
        go_wp2_with fail
        refine (q2 w7 rx).mono ?_
        rintro e w8 ⟨A8, c8, rfl, -, -, k⟩
        replace bx := bx.below k
        replace bg := bg.below k
        replace hb1 := hb1.below k
        replace rx := step_ rx k
        replace hr1 := step_ hr1 k
        have t8 := t7.trans (k.mono t7.size)
        clear k t7
        clear x0 x1 x2 x3 q2
        obtain ⟨x0, x1, x2, x3⟩ := bx.four
        go_wp2_with fail
        refine (q3 w8 rx).mono ?_
        rintro e w9 ⟨A9, c9, rfl, o9, -, k⟩
        replace bx := bx.below k
        replace bg := bg.below k
        replace hb1 := hb1.below k
        replace rx := step_ rx k
        replace hr1 := step_ hr1 k
        have t9 := t8.trans (k.mono t8.size)
        clear k t8
        clear x0 x1 x2 x3 q3
        have rT := Rd.of_own o9
        clear o9
        go_wp2_with fail
        refine (ans23_any w9).mono ?_
        rintro e w10 ⟨rfl, k⟩
        have kk := k
        replace bx := bx.below k
        replace bg := bg.below k
        replace hb1 := hb1.below k
        replace rx := step_ rx k
        replace hr1 := step_ hr1 k
        have t10 := t9.trans (k.mono t9.size)
        clear k t9
        obtain ⟨x0, x1, x2, x3⟩ := bx.four
        obtain ⟨y0, y1⟩ := bg.two
        obtain ⟨z0, z1, z2, z3⟩ := hb1.four
        rcases hGE with ⟨g1, g2, t, htk, hGt⟩ | ⟨g1, g2⟩
        · have k5 : ((gl : Int) == 1) = true := by rw [beq_iff_eq]; omega
          have k6 : decide ((0 : Int) < (el : Int)) = true := decide_eq_true (by omega)
          obtain ⟨aT, rfl, -, hcT⟩ := rT.text (k := 0) (by omega) (by rw [HGL.out]; omega)
          replace hcT := cell_keep hcT kk
          have hcT' : w10.cell? aT = some (.string ⟨(G[0]'(by rw [HGL.out]; omega)).toArray⟩) := by rcases aT with ⟨b_, o_, p_⟩; exact hcT
          clear hcT
          have hcT := hcT'
          clear hcT'
          have htg : G[0]'(by rw [HGL.out]; omega) = t := by subst hGt; rfl
          rw [htg] at hcT
          have htl2 : 2 ≤ t.length := by
            have := congrArg List.length htk
            rw [List.length_take] at this
            simp at this; omega
          obtain ⟨tg, htg2⟩ : ∃ b : ByteArray, b = ⟨t.toArray⟩ := ⟨_, rfl⟩
          rw [← htg2] at hcT
          have m1 : decide ((tg.size : Int) < 2) = false := decide_eq_false (by rw [htg2, mk_size]; omega)
          have m2 : ((tg.extract 0 2).toList == [87, 47]) = true := by rw [ByteArray.toList_eq, extract_list, htg2, mk_list, List.drop_zero, htk]; rfl
          have m3 : 2 ≤ tg.size := by rw [htg2, mk_size]; omega
          clear htg htk hGt htg2 htl2 t
          clear rT kk
          go_wp2_with fail
          refine (q4 w10 hr1).mono ?_
          rintro e w11 ⟨A11, c11, rfl, -, -, k⟩
          replace hcT := cell_keep hcT k
          replace bx := bx.below k
          replace bg := bg.below k
          replace rx := step_ rx k
          have t11 := t10.trans (k.mono t10.size)
          clear k t10
          clear x0 x1 x2 x3 y0 y1 z0 z1 z2 z3 q4 hr1 hb1
          obtain ⟨x0, x1, x2, x3⟩ := bx.four
          go_wp2_with fail
          refine (q5 w11 rx).mono ?_
          rintro e w12 ⟨rfl, k⟩
          replace bx := bx.below k
          replace bg := bg.below k
          replace rx := step_ rx k
          have t12 := t11.trans (k.mono t11.size)
          clear k t11
          clear x0 x1 x2 x3 q5
          rcases v1 with _ | _
          · have hv2 : v2 = true := by simpa using s4'
            subst hv2
            clear s4'
            obtain ⟨x0, x1, x2, x3⟩ := bx.four
            go_wp2_with fail
            refine (q6 w12 rx).mono ?_
            rintro e w13 ⟨rfl, k⟩
            replace bx := bx.below k
            replace bg := bg.below k
            replace rx := step_ rx k
            have t13 := t12.trans (k.mono t12.size)
            clear k t12
            clear x0 x1 x2 x3 q6
            obtain ⟨x0, x1, x2, x3⟩ := bx.four
            go_wp2_with fail
            refine (q7 w13 rx).mono ?_
            rintro e w14 ⟨rfl, k⟩
            go_upto_region 17 with (fail)
            have bh := Box.new w14 #[.int .i64 K', .int .i64 0] 26
            have ka := k.alloc k.size (.cells #[.int .i64 K', .int .i64 0] 26)
            replace bx := bx.below ka
            replace bg := bg.below ka
            replace rx := step_ rx ka
            have t14 := t13.trans (ka.mono t13.size)
            obtain ⟨gh, hgh⟩ : ∃ g, g = w14.heap.size := ⟨_, rfl⟩
            rw [← hgh] at bh
            rw [← hgh]
            generalize w14.alloc _ = w15 at bx bg bh rx t14 ⊢
            clear hgh k ka t13 x0 x1 x2 x3 q7
            obtain ⟨x0, x1, x2, x3⟩ := bx.four
            go_wp2_with fail
            refine (q8 w15 rx).mono ?_
            rintro e w16 ⟨rfl, k⟩
            replace bx := bx.below k
            replace bg := bg.below k
            replace bh := bh.below k
            replace rx := step_ rx k
            have t15 := t14.trans (k.mono t14.size)
            clear k t14 x0 x1 x2 x3 q8
            go_wp2_with fail
            refine (gk zt hzt w16).mono ?_
            rintro e w17 ⟨rfl, rfl⟩
            obtain ⟨x0, x1, x2, x3⟩ := bx.four
            obtain ⟨y0, y1⟩ := bg.two
            obtain ⟨z0, z1⟩ := bh.two
            by_cases hkp : keep = false ∨ K' = 3
            · have hv3 := s6' hkp
              subst hv3
              clear s6'
              rcases keep with _ | _
              · clear hkp
                go_wp2_with fail
                refine (q9 w16 rx).mono ?_
                rintro e w18 ⟨rfl, k⟩
                go_wp2
                go_ret
                exact ⟨rfl, t15.trans (k.mono t15.size)⟩
              · have hK3 : K' = 3 := by simpa using hkp
                subst hK3
                clear hkp
                go_wp2_with fail
                refine (q9 w16 rx).mono ?_
                rintro e w18 ⟨rfl, k⟩
                go_wp2
                go_ret
                exact ⟨rfl, t15.trans (k.mono t15.size)⟩
            · have hk1 : keep = true := by rcases keep with _ | _; exact absurd (.inl rfl) hkp; rfl
              have hk2 : (K' != 3) = true := by simp; exact fun h => hkp (.inr h)
              subst hk1
              clear hkp s6'
              go_wp2
              go_ret
              exact ⟨rfl, t15⟩
          · clear s4' q6
            have t13 := t12
            obtain ⟨w13, hw13⟩ : ∃ W, W = w12 := ⟨_, rfl⟩
            subst hw13
            obtain ⟨x0, x1, x2, x3⟩ := bx.four
            go_wp2_with fail
            refine (q7 w13 rx).mono ?_
            rintro e w14 ⟨rfl, k⟩
            go_upto_region 17 with (fail)
            have bh := Box.new w14 #[.int .i64 K', .int .i64 0] 26
            have ka := k.alloc k.size (.cells #[.int .i64 K', .int .i64 0] 26)
            replace bx := bx.below ka
            replace bg := bg.below ka
            replace rx := step_ rx ka
            have t14 := t13.trans (ka.mono t13.size)
            obtain ⟨gh, hgh⟩ : ∃ g, g = w14.heap.size := ⟨_, rfl⟩
            rw [← hgh] at bh
            rw [← hgh]
            generalize w14.alloc _ = w15 at bx bg bh rx t14 ⊢
            clear hgh k ka t13 x0 x1 x2 x3 q7
            obtain ⟨x0, x1, x2, x3⟩ := bx.four
            go_wp2_with fail
            refine (q8 w15 rx).mono ?_
            rintro e w16 ⟨rfl, k⟩
            replace bx := bx.below k
            replace bg := bg.below k
            replace bh := bh.below k
            replace rx := step_ rx k
            have t15 := t14.trans (k.mono t14.size)
            clear k t14 x0 x1 x2 x3 q8
            go_wp2_with fail
            refine (gk zt hzt w16).mono ?_
            rintro e w17 ⟨rfl, rfl⟩
            obtain ⟨x0, x1, x2, x3⟩ := bx.four
            obtain ⟨y0, y1⟩ := bg.two
            obtain ⟨z0, z1⟩ := bh.two
            by_cases hkp : keep = false ∨ K' = 3
            · have hv3 := s6' hkp
              subst hv3
              clear s6'
              rcases keep with _ | _
              · clear hkp
                go_wp2_with fail
                refine (q9 w16 rx).mono ?_
                rintro e w18 ⟨rfl, k⟩
                go_wp2
                go_ret
                exact ⟨rfl, t15.trans (k.mono t15.size)⟩
              · have hK3 : K' = 3 := by simpa using hkp
                subst hK3
                clear hkp
                go_wp2_with fail
                refine (q9 w16 rx).mono ?_
                rintro e w18 ⟨rfl, k⟩
                go_wp2
                go_ret
                exact ⟨rfl, t15.trans (k.mono t15.size)⟩
            · have hk1 : keep = true := by rcases keep with _ | _; exact absurd (.inl rfl) hkp; rfl
              have hk2 : (K' != 3) = true := by simp; exact fun h => hkp (.inr h)
              subst hk1
              clear hkp s6'
              go_wp2
              go_ret
              exact ⟨rfl, t15⟩
        · have k5 : ((gl : Int) == 1) = false := by rw [beq_eq_false_iff_ne]; omega
          have k6 : decide ((0 : Int) < (el : Int)) = false := decide_eq_false (by omega)
          clear rT kk
          go_wp2_with fail
          refine (q4 w10 hr1).mono ?_
          rintro e w11 ⟨A11, c11, rfl, -, -, k⟩
          replace bx := bx.below k
          replace bg := bg.below k
          replace rx := step_ rx k
          have t11 := t10.trans (k.mono t10.size)
          clear k t10
          clear x0 x1 x2 x3 y0 y1 z0 z1 z2 z3 q4 hr1 hb1
          obtain ⟨x0, x1, x2, x3⟩ := bx.four
          go_wp2_with fail
          refine (q5 w11 rx).mono ?_
          rintro e w12 ⟨rfl, k⟩
          replace bx := bx.below k
          replace bg := bg.below k
          replace rx := step_ rx k
          have t12 := t11.trans (k.mono t11.size)
          clear k t11
          clear x0 x1 x2 x3 q5
          rcases v1 with _ | _
          · have hv2 : v2 = true := by simpa using s4'
            subst hv2
            clear s4'
            obtain ⟨x0, x1, x2, x3⟩ := bx.four
            go_wp2_with fail
            refine (q6 w12 rx).mono ?_
            rintro e w13 ⟨rfl, k⟩
            replace bx := bx.below k
            replace bg := bg.below k
            replace rx := step_ rx k
            have t13 := t12.trans (k.mono t12.size)
            clear k t12
            clear x0 x1 x2 x3 q6
            obtain ⟨x0, x1, x2, x3⟩ := bx.four
            go_wp2_with fail
            refine (q7 w13 rx).mono ?_
            rintro e w14 ⟨rfl, k⟩
            go_upto_region 17 with (fail)
            have bh := Box.new w14 #[.int .i64 K', .int .i64 0] 26
            have ka := k.alloc k.size (.cells #[.int .i64 K', .int .i64 0] 26)
            replace bx := bx.below ka
            replace bg := bg.below ka
            replace rx := step_ rx ka
            have t14 := t13.trans (ka.mono t13.size)
            obtain ⟨gh, hgh⟩ : ∃ g, g = w14.heap.size := ⟨_, rfl⟩
            rw [← hgh] at bh
            rw [← hgh]
            generalize w14.alloc _ = w15 at bx bg bh rx t14 ⊢
            clear hgh k ka t13 x0 x1 x2 x3 q7
            obtain ⟨x0, x1, x2, x3⟩ := bx.four
            go_wp2_with fail
            refine (q8 w15 rx).mono ?_
            rintro e w16 ⟨rfl, k⟩
            replace bx := bx.below k
            replace bg := bg.below k
            replace bh := bh.below k
            replace rx := step_ rx k
            have t15 := t14.trans (k.mono t14.size)
            clear k t14 x0 x1 x2 x3 q8
            go_wp2_with fail
            refine (gk zt hzt w16).mono ?_
            rintro e w17 ⟨rfl, rfl⟩
            obtain ⟨x0, x1, x2, x3⟩ := bx.four
            obtain ⟨y0, y1⟩ := bg.two
            obtain ⟨z0, z1⟩ := bh.two
            by_cases hkp : keep = false ∨ K' = 3
            · have hv3 := s6' hkp
              subst hv3
              clear s6'
              rcases keep with _ | _
              · clear hkp
                go_wp2_with fail
                refine (q9 w16 rx).mono ?_
                rintro e w18 ⟨rfl, k⟩
                go_wp2
                go_ret
                exact ⟨rfl, t15.trans (k.mono t15.size)⟩
              · have hK3 : K' = 3 := by simpa using hkp
                subst hK3
                clear hkp
                go_wp2_with fail
                refine (q9 w16 rx).mono ?_
                rintro e w18 ⟨rfl, k⟩
                go_wp2
                go_ret
                exact ⟨rfl, t15.trans (k.mono t15.size)⟩
            · have hk1 : keep = true := by rcases keep with _ | _; exact absurd (.inl rfl) hkp; rfl
              have hk2 : (K' != 3) = true := by simp; exact fun h => hkp (.inr h)
              subst hk1
              clear hkp s6'
              go_wp2
              go_ret
              exact ⟨rfl, t15⟩
          · clear s4' q6
            have t13 := t12
            obtain ⟨w13, hw13⟩ : ∃ W, W = w12 := ⟨_, rfl⟩
            subst hw13
            obtain ⟨x0, x1, x2, x3⟩ := bx.four
            go_wp2_with fail
            refine (q7 w13 rx).mono ?_
            rintro e w14 ⟨rfl, k⟩
            go_upto_region 17 with (fail)
            have bh := Box.new w14 #[.int .i64 K', .int .i64 0] 26
            have ka := k.alloc k.size (.cells #[.int .i64 K', .int .i64 0] 26)
            replace bx := bx.below ka
            replace bg := bg.below ka
            replace rx := step_ rx ka
            have t14 := t13.trans (ka.mono t13.size)
            obtain ⟨gh, hgh⟩ : ∃ g, g = w14.heap.size := ⟨_, rfl⟩
            rw [← hgh] at bh
            rw [← hgh]
            generalize w14.alloc _ = w15 at bx bg bh rx t14 ⊢
            clear hgh k ka t13 x0 x1 x2 x3 q7
            obtain ⟨x0, x1, x2, x3⟩ := bx.four
            go_wp2_with fail
            refine (q8 w15 rx).mono ?_
            rintro e w16 ⟨rfl, k⟩
            replace bx := bx.below k
            replace bg := bg.below k
            replace bh := bh.below k
            replace rx := step_ rx k
            have t15 := t14.trans (k.mono t14.size)
            clear k t14 x0 x1 x2 x3 q8
            go_wp2_with fail
            refine (gk zt hzt w16).mono ?_
            rintro e w17 ⟨rfl, rfl⟩
            obtain ⟨x0, x1, x2, x3⟩ := bx.four
            obtain ⟨y0, y1⟩ := bg.two
            obtain ⟨z0, z1⟩ := bh.two
            by_cases hkp : keep = false ∨ K' = 3
            · have hv3 := s6' hkp
              subst hv3
              clear s6'
              rcases keep with _ | _
              · clear hkp
                go_wp2_with fail
                refine (q9 w16 rx).mono ?_
                rintro e w18 ⟨rfl, k⟩
                go_wp2
                go_ret
                exact ⟨rfl, t15.trans (k.mono t15.size)⟩
              · have hK3 : K' = 3 := by simpa using hkp
                subst hK3
                clear hkp
                go_wp2_with fail
                refine (q9 w16 rx).mono ?_
                rintro e w18 ⟨rfl, k⟩
                go_wp2
                go_ret
                exact ⟨rfl, t15.trans (k.mono t15.size)⟩
            · have hk1 : keep = true := by rcases keep with _ | _; exact absurd (.inl rfl) hkp; rfl
              have hk2 : (K' != 3) = true := by simp; exact fun h => hkp (.inr h)
              subst hk1
              clear hkp s6'
              go_wp2
              go_ret
              exact ⟨rfl, t15⟩
    · have e4 : ((err : Int) == 0) = false := by simpa using herr
      have e5 : ((err : Int) != 0) = true := by simpa using herr
      clear herr
      go_upto_region 5 with (fail)
      go_wp2_with fail
      refine (ans23_any w4).mono ?_
      rintro e w' ⟨rfl, hB⟩
      go_wp2
      go_ret
      exact ⟨rfl, t3.trans (hB.mono t3.size)⟩
end Go.Proofs.YtgdjlmpfjmakkaaDoor.EditTellsP
