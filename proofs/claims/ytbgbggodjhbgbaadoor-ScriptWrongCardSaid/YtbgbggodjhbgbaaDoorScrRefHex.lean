/- concertinaref27.Hex. -/
import Derived.Test.YtbgbggodjhbgbaaDoorScrNums
import Derived.Test.YtbgbggodjhbgbaaDoorScrPut
import Derived.Test.YtbgbggodjhbgbaaDoorChunk0
namespace Go.Proofs.YtbgbggodjhbgbaaDoor
open Go.RowKit
set_option linter.unusedVariables false
set_option linter.unusedSimpArgs false

set_option maxRecDepth 100000 in
set_option maxHeartbeats 3200000 in
theorem refhex_any (A : Option Addr) (n c B : Nat) (l : List UInt8) (w : World) (h : Rd w B 1 A n (bcells l)) (hB : B ≤ w.heap.size) (hn : l.length ≤ 10000000) :
    Calls Tryd.prog 24 #[.slice A n c] w fun e w' => e = .returned (.string ⟨(Scr.hexL l).toArray⟩) ∧ Below w.heap.size w w' := by
  have hln : l.length = n := by have := h.1; simpa [bcells] using this
  have hn' : n ≤ 10000000 := by omega
  obtain ⟨i0, hi0, hz0, hz1, hz2⟩ := info_parts infoU8p
  obtain ⟨g, hg⟩ : ∃ g, w.heap.size = g := ⟨_, rfl⟩
  have rn0 := rd_new w #[.int .u8 120] 5 1 1 rfl
  rw [hg] at rn0
  have HLN := hide hln
  clear hln hn
  go_enter Tryd.func24, Tryd.ntmps24
  have bx0 := Box.new w #[.int .u8 120] 5
  rw [hg] at bx0
  have t0 : Below g w (w.alloc (.cells #[.int .u8 120] 5)) := (Below.refl _ _).alloc (Nat.le_of_eq hg.symm) _
  go_upto_region 3 with (fail)
  generalize w.alloc _ = w1 at bx0 t0 rn0 ⊢
  have ow0 : Ow w1 g 1 (.slice (some ⟨g, 0, none⟩) 1 1) 1 [.int .u8 120] := by
    refine ⟨rfl, .inr ⟨g, 0, 1, rfl, Nat.le_refl _, bx0.1, Nat.le_refl _, by unfold maxLen; omega, ?_, ?_⟩⟩
    · intro j u hu
      rw [Nat.zero_add]
      exact (bx0.2 j u hu).1
    · intro j hj
      have hj0 : j = 0 := by omega
      subst hj0
      exact ⟨by rw [Nat.zero_add, (bx0.2 0 _ rfl).1]; rfl, (bx0.2 0 _ rfl).2⟩
  clear rn0 bx0
  go_wp2_with fail
  go_loopw [4, 5] (fun v i wr => ∃ (k m c1 : Nat) (A1 : Option Addr), k ≤ n ∧ i = .int .i64 k ∧ v = .slice A1 m c1 ∧ m = 2 * k + 1 ∧ Ow wr g 1 (.slice A1 m c1) m (bcells (120 :: Scr.hexB (l.take k))) ∧ Below g w wr) (fun _ i _ => n - (intOf i).toNat)
  case atStart => exact ⟨0, 1, 1, _, Nat.zero_le _, rfl, rfl, rfl, by simpa [bcells, Scr.hexB] using ow0, t0⟩
  case round =>
    obtain ⟨k, m, c1, A1, hk, rfl, rfl, hm, how, hb⟩ := hrel
    clear ow0 t0
    have hgr : g ≤ wr.heap.size := hg ▸ hb.size
    have hm5 : m ≤ 20000001 := by omega
    have HM := hide hm
    clear hm
    by_cases hlt : k < n
    · have hlt' : (k : Int) < (n : Int) := by omega
      have hkl : k < l.length := by rw [HLN.out]; exact hlt
      have hrd := h.below (hb.mono (by omega))
      obtain ⟨a, hAa, hab, hc⟩ := hrd.at_ (k := 0) (by omega)
      have hx := hc k (.int .u8 (l[k].toNat : Int)) (by simp [bcells, hkl])
      obtain ⟨x, hxx⟩ : ∃ x, x = l[k] := ⟨_, rfl⟩
      rw [← hxx] at hx
      have htk : l.take (k + 1) = l.take k ++ [x] := by rw [hxx]; exact list_take_snoc l k hkl
      subst hAa
      have hx256 : x.toNat < 256 := UInt8.toNat_lt x
      have HTK := hide htk
      obtain ⟨xn, hxn⟩ : ∃ m : Nat, m = x.toNat := ⟨_, rfl⟩
      rw [← hxn] at hx hx256
      have HXN := hide hxn
      obtain ⟨d1, hd1⟩ : ∃ d, d = xn / 16 := ⟨_, rfl⟩
      obtain ⟨d2, hd2⟩ : ∃ d, d = xn % 16 := ⟨_, rfl⟩
      have h1d : (xn : Int) / 16 = (d1 : Int) := by omega
      have h2d : (xn : Int).tmod 16 = (d2 : Int) := by rw [Int.tmod_eq_emod_of_nonneg (by omega)]; omega
      have hd16 : d1 < 16 := by omega
      have hd26 : d2 < 16 := by omega
      have hwd1 : IntKind.u8.wrap (d1 : Int) = (d1 : Int) := by rw [IntKind.wrap_u8]; omega
      have hwd2 : IntKind.u8.wrap (d2 : Int) = (d2 : Int) := by rw [IntKind.wrap_u8]; omega
      have HD1 := hide hd1
      have HD2 := hide hd2
      clear hrd hc htk hxx hxn hd1 hd2
      obtain ⟨gl, hgl⟩ : ∃ y, wr.heap.size = y := ⟨_, rfl⟩
      have rn := rd_new wr.drew #[.int .u8 ((Scr.hexD d1).toNat : Int), .int .u8 ((Scr.hexD d2).toNat : Int)] 5 1 2 rfl
      have hgl' : wr.drew.heap.size = gl := hgl
      have tl : Below gl wr (wr.drew.alloc (.cells #[.int .u8 ((Scr.hexD d1).toNat : Int), .int .u8 ((Scr.hexD d2).toNat : Int)] 5)) := ((show Below gl wr wr.drew from below_drewN (k := 1) (Below.refl _ _))).trans ((Below.refl _ _).alloc (Nat.le_of_eq hgl'.symm) _)
      rw [hgl'] at rn
      obtain ⟨wn, hwn⟩ : ∃ y, wr.drew.alloc (.cells #[.int .u8 ((Scr.hexD d1).toNat : Int), .int .u8 ((Scr.hexD d2).toNat : Int)] 5) = y := ⟨_, rfl⟩
      rw [hwn] at rn tl
      have hown := how.below (by rw [hgl]; exact tl)
      have hbn : Below g w wn := hb.trans (tl.mono (by omega))
      have hgn : g ≤ wn.heap.size := hg ▸ hbn.size
      have hxn2 : wn.cell? (a.add k) = some (.int .u8 (xn : Int)) := (tl.cell (p := a.add k) (by rw [addr_add_block]; omega)).trans hx
      go_upto_region 6 with (fail)
      refine CalmP.hideN (fun K0 hQ => ?_)
      refine wp_region_held_drew (S := (fun W : World => W.cell? (a.add k) = some (.int .u8 (xn : Int)))) (by kernel_rfl) hx (fun hHeld => ?_)
      refine wpAnyH_take (i := 0) (v := ?_) rfl (by kernel_rfl) (by kernel_rfl) (by kernel_rfl) CalmP.onlyN_panic (Or.inl ⟨by kernel_rfl, ?_⟩) (by assumption) ?_
      rotate_left
      · (intro w_ hSw; (try dsimp only at hSw); go_simp; try with_reducible rfl)
      try simp only [List.getElem_toArray, List.getElem_cons_succ, List.getElem_cons_zero, Act.put, List.setIfInBounds_toArray, List.set_cons_zero, List.set_cons_succ]
      refine wpAnyH_take (i := 1) (v := ?_) rfl (by kernel_rfl) (by kernel_rfl) (by kernel_rfl) CalmP.onlyN_panic (Or.inl ⟨by kernel_rfl, ?_⟩) (by assumption) ?_
      rotate_left
      · (intro w_ hSw; (try dsimp only at hSw); go_simp; try with_reducible rfl)
      try simp only [List.getElem_toArray, List.getElem_cons_succ, List.getElem_cons_zero, Act.put, List.setIfInBounds_toArray, List.set_cons_zero, List.set_cons_succ]
      refine wpAnyH_take (i := 2) (v := ?_) rfl (by kernel_rfl) (by kernel_rfl) (by kernel_rfl) CalmP.onlyN_panic (Or.inl ⟨by kernel_rfl, ?_⟩) (by assumption) ?_
      rotate_left
      · (intro w_ hSw; (try dsimp only at hSw); go_simp; try with_reducible rfl)
      try simp only [List.getElem_toArray, List.getElem_cons_succ, List.getElem_cons_zero, Act.put, List.setIfInBounds_toArray, List.set_cons_zero, List.set_cons_succ]
      refine wpAnyH_take (i := 3) (v := ?_) rfl (by kernel_rfl) (by kernel_rfl) (by kernel_rfl) CalmP.onlyN_panic (Or.inl ⟨by kernel_rfl, ?_⟩) (by assumption) ?_
      rotate_left
      · (intro w_ hSw; (try dsimp only at hSw); go_simp; try with_reducible rfl)
      try simp only [List.getElem_toArray, List.getElem_cons_succ, List.getElem_cons_zero, Act.put, List.setIfInBounds_toArray, List.set_cons_zero, List.set_cons_succ]
      refine wpAnyH_take (i := 4) (v := ?_) rfl (by kernel_rfl) (by kernel_rfl) (by kernel_rfl) CalmP.onlyN_panic (Or.inl ⟨by kernel_rfl, ?_⟩) (by assumption) ?_
      rotate_left
      · (intro w_ hSw; (try dsimp only at hSw); go_simp; try with_reducible rfl)
      try simp only [List.getElem_toArray, List.getElem_cons_succ, List.getElem_cons_zero, Act.put, List.setIfInBounds_toArray, List.set_cons_zero, List.set_cons_succ]
      refine wpAnyH_take (i := 5) (v := ?_) rfl (by kernel_rfl) (by kernel_rfl) (by kernel_rfl) CalmP.onlyN_panic (Or.inl ⟨by kernel_rfl, ?_⟩) (by assumption) ?_
      rotate_left
      · (intro w_ hSw; (try dsimp only at hSw); go_simp; try with_reducible rfl)
      try simp only [List.getElem_toArray, List.getElem_cons_succ, List.getElem_cons_zero, Act.put, List.setIfInBounds_toArray, List.set_cons_zero, List.set_cons_succ]
      refine wpAnyH_take (i := 6) (v := ?_) rfl (by kernel_rfl) (by kernel_rfl) (by kernel_rfl) CalmP.onlyN_panic (Or.inl ⟨by kernel_rfl, ?_⟩) (by assumption) ?_
      rotate_left
      · (intro w_ hSw; (try dsimp only at hSw); go_simp; try with_reducible rfl)
      try simp only [List.getElem_toArray, List.getElem_cons_succ, List.getElem_cons_zero, Act.put, List.setIfInBounds_toArray, List.set_cons_zero, List.set_cons_succ]
      refine wpAnyH_take (i := 7) (v := .int .u8 ((Scr.hexD d1).toNat : Int)) rfl (by kernel_rfl) (by kernel_rfl) (by kernel_rfl) CalmP.onlyN_panic (Or.inl ⟨by kernel_rfl, ?_⟩) (by assumption) ?_
      · intro w_ hSw
        go_simp
        rw [dif_pos (show (d1 : Int) < 16 by omega), hexS_at]
        rfl
      try simp only [List.getElem_toArray, List.getElem_cons_succ, List.getElem_cons_zero, Act.put, List.setIfInBounds_toArray, List.set_cons_zero, List.set_cons_succ]
      refine wpAnyH_take (i := 8) (v := ?_) rfl (by kernel_rfl) (by kernel_rfl) (by kernel_rfl) CalmP.onlyN_panic (Or.inl ⟨by kernel_rfl, ?_⟩) (by assumption) ?_
      rotate_left
      · (intro w_ hSw; (try dsimp only at hSw); go_simp; try with_reducible rfl)
      try simp only [List.getElem_toArray, List.getElem_cons_succ, List.getElem_cons_zero, Act.put, List.setIfInBounds_toArray, List.set_cons_zero, List.set_cons_succ]
      refine wpAnyH_take (i := 9) (v := ?_) rfl (by kernel_rfl) (by kernel_rfl) (by kernel_rfl) CalmP.onlyN_panic (Or.inl ⟨by kernel_rfl, ?_⟩) (by assumption) ?_
      rotate_left
      · (intro w_ hSw; (try dsimp only at hSw); go_simp; try with_reducible rfl)
      try simp only [List.getElem_toArray, List.getElem_cons_succ, List.getElem_cons_zero, Act.put, List.setIfInBounds_toArray, List.set_cons_zero, List.set_cons_succ]
      refine wpAnyH_take (i := 10) (v := ?_) rfl (by kernel_rfl) (by kernel_rfl) (by kernel_rfl) CalmP.onlyN_panic (Or.inl ⟨by kernel_rfl, ?_⟩) (by assumption) ?_
      rotate_left
      · (intro w_ hSw; (try dsimp only at hSw); go_simp; try with_reducible rfl)
      try simp only [List.getElem_toArray, List.getElem_cons_succ, List.getElem_cons_zero, Act.put, List.setIfInBounds_toArray, List.set_cons_zero, List.set_cons_succ]
      refine wpAnyH_take (i := 11) (v := ?_) rfl (by kernel_rfl) (by kernel_rfl) (by kernel_rfl) CalmP.onlyN_panic (Or.inl ⟨by kernel_rfl, ?_⟩) (by assumption) ?_
      rotate_left
      · (intro w_ hSw; (try dsimp only at hSw); go_simp; try with_reducible rfl)
      try simp only [List.getElem_toArray, List.getElem_cons_succ, List.getElem_cons_zero, Act.put, List.setIfInBounds_toArray, List.set_cons_zero, List.set_cons_succ]
      refine wpAnyH_take (i := 12) (v := ?_) rfl (by kernel_rfl) (by kernel_rfl) (by kernel_rfl) CalmP.onlyN_panic (Or.inl ⟨by kernel_rfl, ?_⟩) (by assumption) ?_
      rotate_left
      · (intro w_ hSw; (try dsimp only at hSw); go_simp; try with_reducible rfl)
      try simp only [List.getElem_toArray, List.getElem_cons_succ, List.getElem_cons_zero, Act.put, List.setIfInBounds_toArray, List.set_cons_zero, List.set_cons_succ]
      refine wpAnyH_take (i := 13) (v := ?_) rfl (by kernel_rfl) (by kernel_rfl) (by kernel_rfl) CalmP.onlyN_panic (Or.inl ⟨by kernel_rfl, ?_⟩) (by assumption) ?_
      rotate_left
      · (intro w_ hSw; (try dsimp only at hSw); go_simp; try with_reducible rfl)
      try simp only [List.getElem_toArray, List.getElem_cons_succ, List.getElem_cons_zero, Act.put, List.setIfInBounds_toArray, List.set_cons_zero, List.set_cons_succ]
      refine wpAnyH_take (i := 14) (v := .int .u8 ((Scr.hexD d2).toNat : Int)) rfl (by kernel_rfl) (by kernel_rfl) (by kernel_rfl) CalmP.onlyN_panic (Or.inl ⟨by kernel_rfl, ?_⟩) (by assumption) ?_
      · intro w_ hSw
        go_simp
        first
          | (rw [dif_pos (show (d2 : Int) < 16 by omega), hexS_at]; rfl)
          | (rw [dif_pos (show 0 ≤ (d2 : Int) ∧ (d2 : Int) < 16 by omega), hexS_at]; rfl)
      try simp only [List.getElem_toArray, List.getElem_cons_succ, List.getElem_cons_zero, Act.put, List.setIfInBounds_toArray, List.set_cons_zero, List.set_cons_succ]
      refine wpAnyH_ready (rs := [15]) (by kernel_rfl) (by simp) ?_
      refine AllReadyH.cons rfl (fun K_ hK => ?_) AllReadyH.nil
      go_simp
      refine hK.out _ _ hxn2 (fun hHeld => ?_)
      clear hK K_
      try simp only [List.getElem_toArray, List.getElem_cons_succ, List.getElem_cons_zero, Act.put, List.setIfInBounds_toArray, List.set_cons_zero, List.set_cons_succ]
      refine wpAnyH_ready (rs := [16]) (by kernel_rfl) (by simp) ?_
      refine AllReadyH.cons rfl (fun K_ hK => ?_) AllReadyH.nil
      refine step_append_ow _ rfl _ _ _ rfl g _ i0 _ 1 1 Tryd.underlying38 hi0 hz0 hz1 hz2 rfl (by omega) (.slice A1 m c1) m _ rfl _ (some ⟨gl, 0, none⟩) 2 _ _ rfl hown rn (by simp [Value.oneCell']) (by unfold maxLen; omega) (by omega) hgn ?_
      intro v6 w6 ow6 z6 g6 f6
      obtain ⟨A6, c6, rfl, -, -⟩ := ow6.shape
      have hx6 : w6.cell? (a.add k) = some (.int .u8 (xn : Int)) := (z6.cell (p := a.add k) (by rw [addr_add_block]; omega)).trans hxn2
      refine hK.out _ _ hx6 (fun hHeld => ?_)
      clear hK K_
      try simp only [List.getElem_toArray, List.getElem_cons_succ, List.getElem_cons_zero, Act.put, List.setIfInBounds_toArray, List.set_cons_zero, List.set_cons_succ]
      refine wpAnyH_take (i := 17) (v := ?_) rfl (by kernel_rfl) (by kernel_rfl) (by kernel_rfl) CalmP.onlyN_panic (Or.inl ⟨by kernel_rfl, ?_⟩) (by assumption) ?_
      rotate_left
      · (intro w_ hSw; (try dsimp only at hSw); go_simp; try with_reducible rfl)
      try simp only [List.getElem_toArray, List.getElem_cons_succ, List.getElem_cons_zero, Act.put, List.setIfInBounds_toArray, List.set_cons_zero, List.set_cons_succ]
      refine wpAnyH_done (by kernel_rfl) ?_ _
      refine CalmP.onlyN_here (hQ.out _ _ ?_)
      clear hQ K0
      have ow7 : Ow w6 g 1 (.slice A6 (m + 2) c6) (m + 2) (bcells (120 :: Scr.hexB (l.take (k + 1)))) := by
        have e : bcells (120 :: Scr.hexB (l.take (k + 1))) = bcells (120 :: Scr.hexB (l.take k)) ++ [.int .u8 ((Scr.hexD d1).toNat : Int), .int .u8 ((Scr.hexD d2).toNat : Int)] := by
          rw [HTK.out, hexB_snoc, HD1.out, HD2.out, HXN.out]
          simp [bcells]
        rw [e]; exact ow6
      have hb7 := hbn.trans z6
      clear ow6 hown rn tl hwn hgl hgl' hx hx6 hxn2 g6 f6 h1d h2d
      go_wp2_with fail
      go_roundw
      case rel => exact ⟨k + 1, m + 2, c6, A6, by omega, by go_num, rfl, by have := HM.out; omega, ow7, hb7⟩
      case measure => simp [intOf]; omega
    · have hlt' : ¬ (k : Int) < (n : Int) := by omega
      have hall : l.take k = l := List.take_of_length_le (by rw [HLN.out]; omega)
      rw [hall] at how
      have hcv := run_string_of (P := Tryd.prog) 38 9 5 Tryd.underlying38 Tryd.underlying5 Tryd.underlying9 wr _ m c1 A1 (120 :: Scr.hexB l) how.rd
      clear hall
      go_wp2_with fail
      go_ret
      exact ⟨rfl, hb⟩
end Go.Proofs.YtbgbggodjhbgbaaDoor
