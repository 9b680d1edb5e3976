/- concertinaref27.Print. (printed by gen/scrrefp.py) -/
import Derived.Test.YtbgbggodjhbgbaaDoorScrPrint
import Derived.Test.YtbgbggodjhbgbaaDoorScrRefHex
import Derived.Test.YtbgbggodjhbgbaaDoorUdec
namespace Go.Proofs.YtbgbggodjhbgbaaDoor
open Go.RowKit
set_option linter.unusedVariables false
set_option linter.unusedSimpArgs false

theorem udig_dec (n : Nat) : udig n = Scr.dec n := by
  unfold Scr.dec
  induction n using Nat.strongRecOn with
  | _ n ih =>
    have e : ∀ d, d < 10 → (48 : UInt8) + UInt8.ofNat d = UInt8.ofNat (48 + d) := fun d hd => by
      apply UInt8.toNat_inj.1
      simp [UInt8.toNat_ofNat']
    rw [udig, Lib.decDigits]
    by_cases h : n < 10
    · rw [dif_pos h, dif_pos h, Nat.mod_eq_of_lt h, e n h]
    · rw [dif_neg h, dif_neg h, ih (n / 10) (by omega), e _ (Nat.mod_lt _ (by decide))]
/-- Dec, its answer named. -/
theorem dec_is (n : Nat) (h : n ≤ Scr.maxI) : ∃ y : ByteArray, y.data.toList = Scr.dec n ∧ y.size ≤ 20 ∧ ∀ w, Calls Tryd.prog 23 #[.int .i64 (n : Nat)] w fun e w' => e = .returned (.string y) ∧ Below w.heap.size w w' :=
  ⟨⟨(udig n).toArray⟩, udig_dec n, by have := dec_len20 h; rw [← udig_dec] at this; simpa [ByteArray.size] using this, fun w => dec_any n (by unfold Scr.maxI at h; omega) w⟩
theorem rd_rise {w : World} {B B' size n : Nat} {A : Option Addr} {xs : List Value} (h : Rd w B size A n xs) (hB : B ≤ B') : Rd w B' size A n xs :=
  ⟨h.1, h.2.imp id fun ⟨a, e, hb, hc⟩ => ⟨a, e, by omega, hc⟩⟩
theorem hex_is (l : List UInt8) (h : l.length ≤ 1000000) : ∃ y : ByteArray, y.data.toList = Scr.hexL l ∧ y.size ≤ 2000001 ∧ ∀ (A : Option Addr) (n c B : Nat) (w : World), Rd w B 1 A n (bcells l) → B ≤ w.heap.size → Calls Tryd.prog 24 #[.slice A n c] w fun e w' => e = .returned (.string y) ∧ Below w.heap.size w w' :=
  ⟨⟨(Scr.hexL l).toArray⟩, rfl, by have := hexL_len l; simp only [ByteArray.size, List.size_toArray]; omega, fun A n c B w hr hB => refhex_any A n c B l w hr hB (by omega)⟩
set_option maxRecDepth 100000 in
set_option maxHeartbeats 6400000 in
theorem scrrefp_any (C : CfgA) (S : ActA) (F : Scr.Fl) (w : World) (B : Nat) (hC : C.In w B) (hS : S.In w B) (hB : B ≤ w.heap.size) (hn : C.nR ≤ 100000 ∧ C.nT ≤ 100000 ∧ S.n ≤ 100000) (ht : totR C.rs + totT C.ts + totA S.al ≤ 1000000) (M : Match C S F) (hfit : ∀ L ∈ F.lines, L.fit) (hlen : (Scr.linesT F.lines).length ≤ 4194304) :
    Calls Tryd.prog 11 #[C.val, S.val] w fun e w' => e = .returned (.string ⟨(Scr.linesT F.lines).toArray⟩) ∧ Below w.heap.size w w' := by
  have t0 : Below w.heap.size w (w.alloc (.cells #[.slice C.AR C.nR C.cR, .slice C.AT C.nT C.cT, .int .i64 C.a, .int .i64 C.b, .int .i64 C.c, .int .i64 C.d, .int .i64 C.e] 25)) := (Below.refl _ _).alloc (Nat.le_refl _) _
  have bx := Box.new w #[.slice C.AR C.nR C.cR, .slice C.AT C.nT C.cT, .int .i64 C.a, .int .i64 C.b, .int .i64 C.c, .int .i64 C.d, .int .i64 C.e] 25
  obtain ⟨g, hg⟩ : ∃ g, w.heap.size = g := ⟨_, rfl⟩
  rw [hg] at bx t0 hB
  have HC := hide (fun W (b : Below g w W) => hC.below (b.mono hB))
  have HS := hide (fun W (b : Below g w W) => hS.below (b.mono hB))
  unfold CfgA.val ActA.val
  obtain ⟨AR, nR, cR, AT, nT, cT, ia, ib, ic, id_, ie, rs, ts⟩ := C
  obtain ⟨AA, nA, cA, al, ps⟩ := S
  obtain ⟨fa, fb, fc, fd, fe, frs, fts, fas⟩ := F
  obtain ⟨m1, m2, m3, m4, m5, m6, m7, m8⟩ := M
  simp only at m1 m2 m3 m4 m5 m6 m7 m8 bx t0 hn ht ⊢
  subst m1 m2 m3 m4 m5 m6 m7 m8
  obtain ⟨n1, n2, n3⟩ := hn
  obtain ⟨u1, u2, u3, u4, u5⟩ := hfit (cfgL ⟨fa, fb, fc, fd, fe, frs, ts, fas⟩) (by simp [lines_is])
  have hfr : Hid (∀ r ∈ frs, (rtL r).fit) := hide fun r hr => hfit (rtL r) (by rw [lines_is]; simp only [List.mem_cons, List.mem_append, List.mem_map]; exact .inr (.inl ⟨r, hr, rfl⟩))
  have hfa : Hid (∀ r ∈ fas, (acL r).fit) := hide fun r hr => hfit (acL r) (by rw [lines_is]; simp only [List.mem_cons, List.mem_append, List.mem_map]; exact .inr (.inr (.inr ⟨r, hr, rfl⟩)))
  obtain ⟨LT, hLT⟩ : ∃ t, t = Scr.linesT (Scr.Fl.lines ⟨fa, fb, fc, fd, fe, frs, ts, fas⟩) := ⟨_, rfl⟩
  rw [← hLT] at hlen ⊢
  have HLT := hide hLT
  clear hC hS hfit hLT
  go_enter Tryd.func11, Tryd.ntmps11
  go_upto_region 1 with (fail)
  generalize w.alloc _ = w1 at bx t0 ⊢
  obtain ⟨k0, -⟩ := bx.2 0 _ rfl
  obtain ⟨k1, -⟩ := bx.2 1 _ rfl
  obtain ⟨k2, -⟩ := bx.2 2 _ rfl
  obtain ⟨k3, -⟩ := bx.2 3 _ rfl
  obtain ⟨k4, -⟩ := bx.2 4 _ rfl
  obtain ⟨k5, -⟩ := bx.2 5 _ rfl
  obtain ⟨k6, -⟩ := bx.2 6 _ rfl
  obtain ⟨ya, da, za, qa⟩ := dec_is fa u1
  obtain ⟨yb, db, zb, qb⟩ := dec_is fb u2
  obtain ⟨yc, dc, zc, qc⟩ := dec_is fc u3
  obtain ⟨yd, dd, zd, qd⟩ := dec_is fd u4
  obtain ⟨ye, de, ze, qe⟩ := dec_is fe u5
  have e0_0 : (⟨#[99, 111, 110, 102, 105, 103, 32]⟩ : ByteArray).size = 7 := rfl
  obtain ⟨s_0, hs_0⟩ : ∃ z : ByteArray, (⟨#[99, 111, 110, 102, 105, 103, 32]⟩ : ByteArray) ++ ya = z := ⟨_, rfl⟩
  have hbs_0 : s_0.size ≤ 30000000 := by rw [← hs_0, ByteArray.size_append]; omega
  have hcs_0 : ¬ (9223372036854775807 < 7 + ya.size) := by omega
  clear e0_0
  have e1_1 : (⟨#[32]⟩ : ByteArray).size = 1 := rfl
  obtain ⟨s_1, hs_1⟩ : ∃ z : ByteArray, (s_0 : ByteArray) ++ ⟨#[32]⟩ = z := ⟨_, rfl⟩
  have hbs_1 : s_1.size ≤ 60000000 := by rw [← hs_1, ByteArray.size_append]; omega
  have hcs_1 : ¬ (9223372036854775807 < s_0.size + 1) := by omega
  clear e1_1
  obtain ⟨s_2, hs_2⟩ : ∃ z : ByteArray, (s_1 : ByteArray) ++ yb = z := ⟨_, rfl⟩
  have hbs_2 : s_2.size ≤ 90000000 := by rw [← hs_2, ByteArray.size_append]; omega
  have hcs_2 : ¬ (9223372036854775807 < s_1.size + yb.size) := by omega
  have e1_3 : (⟨#[32]⟩ : ByteArray).size = 1 := rfl
  obtain ⟨s_3, hs_3⟩ : ∃ z : ByteArray, (s_2 : ByteArray) ++ ⟨#[32]⟩ = z := ⟨_, rfl⟩
  have hbs_3 : s_3.size ≤ 120000000 := by rw [← hs_3, ByteArray.size_append]; omega
  have hcs_3 : ¬ (9223372036854775807 < s_2.size + 1) := by omega
  clear e1_3
  obtain ⟨s_4, hs_4⟩ : ∃ z : ByteArray, (s_3 : ByteArray) ++ yc = z := ⟨_, rfl⟩
  have hbs_4 : s_4.size ≤ 150000000 := by rw [← hs_4, ByteArray.size_append]; omega
  have hcs_4 : ¬ (9223372036854775807 < s_3.size + yc.size) := by omega
  have e1_5 : (⟨#[32]⟩ : ByteArray).size = 1 := rfl
  obtain ⟨s_5, hs_5⟩ : ∃ z : ByteArray, (s_4 : ByteArray) ++ ⟨#[32]⟩ = z := ⟨_, rfl⟩
  have hbs_5 : s_5.size ≤ 180000000 := by rw [← hs_5, ByteArray.size_append]; omega
  have hcs_5 : ¬ (9223372036854775807 < s_4.size + 1) := by omega
  clear e1_5
  obtain ⟨s_6, hs_6⟩ : ∃ z : ByteArray, (s_5 : ByteArray) ++ yd = z := ⟨_, rfl⟩
  have hbs_6 : s_6.size ≤ 210000000 := by rw [← hs_6, ByteArray.size_append]; omega
  have hcs_6 : ¬ (9223372036854775807 < s_5.size + yd.size) := by omega
  have e1_7 : (⟨#[32]⟩ : ByteArray).size = 1 := rfl
  obtain ⟨s_7, hs_7⟩ : ∃ z : ByteArray, (s_6 : ByteArray) ++ ⟨#[32]⟩ = z := ⟨_, rfl⟩
  have hbs_7 : s_7.size ≤ 240000000 := by rw [← hs_7, ByteArray.size_append]; omega
  have hcs_7 : ¬ (9223372036854775807 < s_6.size + 1) := by omega
  clear e1_7
  obtain ⟨s_8, hs_8⟩ : ∃ z : ByteArray, (s_7 : ByteArray) ++ ye = z := ⟨_, rfl⟩
  have hbs_8 : s_8.size ≤ 270000000 := by rw [← hs_8, ByteArray.size_append]; omega
  have hcs_8 : ¬ (9223372036854775807 < s_7.size + ye.size) := by omega
  have e1_9 : (⟨#[10]⟩ : ByteArray).size = 1 := rfl
  obtain ⟨s_9, hs_9⟩ : ∃ z : ByteArray, (s_8 : ByteArray) ++ ⟨#[10]⟩ = z := ⟨_, rfl⟩
  have hbs_9 : s_9.size ≤ 300000000 := by rw [← hs_9, ByteArray.size_append]; omega
  have hcs_9 : ¬ (9223372036854775807 < s_8.size + 1) := by omega
  clear e1_9
  refine CalmP.hideN (fun K0 hQ => ?_)
  refine wp_region_held_drew (S := (fun W : World => Below (g + 1) w1 W)) (by kernel_rfl) (below_drewN (k := 1) (Below.refl _ _)) (fun hHeld => ?_)
  have hg1 : g + 1 ≤ w1.heap.size := bx.1
  refine wpAnyH_take (i := 0) (v := ?_) rfl (by kernel_rfl) (by kernel_rfl) (by kernel_rfl) CalmP.onlyN_panic (Or.inl ⟨by kernel_rfl, ?_⟩) (by assumption) ?_
  rotate_left
  · (intro w_ hSw; have s2 := (hSw.cell (p := ⟨g, 2, none⟩) (Nat.lt_succ_self g)).trans k2; have s3 := (hSw.cell (p := ⟨g, 3, none⟩) (Nat.lt_succ_self g)).trans k3; have s4 := (hSw.cell (p := ⟨g, 4, none⟩) (Nat.lt_succ_self g)).trans k4; have s5 := (hSw.cell (p := ⟨g, 5, none⟩) (Nat.lt_succ_self g)).trans k5; have s6 := (hSw.cell (p := ⟨g, 6, none⟩) (Nat.lt_succ_self g)).trans k6; go_simp; try with_reducible rfl)
  try simp only [List.getElem_toArray, List.getElem_cons_succ, List.getElem_cons_zero, Act.put, List.setIfInBounds_toArray, List.set_cons_zero, List.set_cons_succ]
  refine wpAnyH_take (i := 1) (v := ?_) rfl (by kernel_rfl) (by kernel_rfl) (by kernel_rfl) CalmP.onlyN_panic (Or.inl ⟨by kernel_rfl, ?_⟩) (by assumption) ?_
  rotate_left
  · (intro w_ hSw; have s2 := (hSw.cell (p := ⟨g, 2, none⟩) (Nat.lt_succ_self g)).trans k2; have s3 := (hSw.cell (p := ⟨g, 3, none⟩) (Nat.lt_succ_self g)).trans k3; have s4 := (hSw.cell (p := ⟨g, 4, none⟩) (Nat.lt_succ_self g)).trans k4; have s5 := (hSw.cell (p := ⟨g, 5, none⟩) (Nat.lt_succ_self g)).trans k5; have s6 := (hSw.cell (p := ⟨g, 6, none⟩) (Nat.lt_succ_self g)).trans k6; go_simp; try with_reducible rfl)
  try simp only [List.getElem_toArray, List.getElem_cons_succ, List.getElem_cons_zero, Act.put, List.setIfInBounds_toArray, List.set_cons_zero, List.set_cons_succ]
  refine wpAnyH_take (i := 5) (v := ?_) rfl (by kernel_rfl) (by kernel_rfl) (by kernel_rfl) CalmP.onlyN_panic (Or.inl ⟨by kernel_rfl, ?_⟩) (by assumption) ?_
  rotate_left
  · (intro w_ hSw; have s2 := (hSw.cell (p := ⟨g, 2, none⟩) (Nat.lt_succ_self g)).trans k2; have s3 := (hSw.cell (p := ⟨g, 3, none⟩) (Nat.lt_succ_self g)).trans k3; have s4 := (hSw.cell (p := ⟨g, 4, none⟩) (Nat.lt_succ_self g)).trans k4; have s5 := (hSw.cell (p := ⟨g, 5, none⟩) (Nat.lt_succ_self g)).trans k5; have s6 := (hSw.cell (p := ⟨g, 6, none⟩) (Nat.lt_succ_self g)).trans k6; go_simp; try with_reducible rfl)
  try simp only [List.getElem_toArray, List.getElem_cons_succ, List.getElem_cons_zero, Act.put, List.setIfInBounds_toArray, List.set_cons_zero, List.set_cons_succ]
  refine wpAnyH_take (i := 6) (v := ?_) rfl (by kernel_rfl) (by kernel_rfl) (by kernel_rfl) CalmP.onlyN_panic (Or.inl ⟨by kernel_rfl, ?_⟩) (by assumption) ?_
  rotate_left
  · (intro w_ hSw; have s2 := (hSw.cell (p := ⟨g, 2, none⟩) (Nat.lt_succ_self g)).trans k2; have s3 := (hSw.cell (p := ⟨g, 3, none⟩) (Nat.lt_succ_self g)).trans k3; have s4 := (hSw.cell (p := ⟨g, 4, none⟩) (Nat.lt_succ_self g)).trans k4; have s5 := (hSw.cell (p := ⟨g, 5, none⟩) (Nat.lt_succ_self g)).trans k5; have s6 := (hSw.cell (p := ⟨g, 6, none⟩) (Nat.lt_succ_self g)).trans k6; go_simp; try with_reducible rfl)
  try simp only [List.getElem_toArray, List.getElem_cons_succ, List.getElem_cons_zero, Act.put, List.setIfInBounds_toArray, List.set_cons_zero, List.set_cons_succ]
  refine wpAnyH_take (i := 10) (v := ?_) rfl (by kernel_rfl) (by kernel_rfl) (by kernel_rfl) CalmP.onlyN_panic (Or.inl ⟨by kernel_rfl, ?_⟩) (by assumption) ?_
  rotate_left
  · (intro w_ hSw; have s2 := (hSw.cell (p := ⟨g, 2, none⟩) (Nat.lt_succ_self g)).trans k2; have s3 := (hSw.cell (p := ⟨g, 3, none⟩) (Nat.lt_succ_self g)).trans k3; have s4 := (hSw.cell (p := ⟨g, 4, none⟩) (Nat.lt_succ_self g)).trans k4; have s5 := (hSw.cell (p := ⟨g, 5, none⟩) (Nat.lt_succ_self g)).trans k5; have s6 := (hSw.cell (p := ⟨g, 6, none⟩) (Nat.lt_succ_self g)).trans k6; go_simp; try with_reducible rfl)
  try simp only [List.getElem_toArray, List.getElem_cons_succ, List.getElem_cons_zero, Act.put, List.setIfInBounds_toArray, List.set_cons_zero, List.set_cons_succ]
  refine wpAnyH_take (i := 11) (v := ?_) rfl (by kernel_rfl) (by kernel_rfl) (by kernel_rfl) CalmP.onlyN_panic (Or.inl ⟨by kernel_rfl, ?_⟩) (by assumption) ?_
  rotate_left
  · (intro w_ hSw; have s2 := (hSw.cell (p := ⟨g, 2, none⟩) (Nat.lt_succ_self g)).trans k2; have s3 := (hSw.cell (p := ⟨g, 3, none⟩) (Nat.lt_succ_self g)).trans k3; have s4 := (hSw.cell (p := ⟨g, 4, none⟩) (Nat.lt_succ_self g)).trans k4; have s5 := (hSw.cell (p := ⟨g, 5, none⟩) (Nat.lt_succ_self g)).trans k5; have s6 := (hSw.cell (p := ⟨g, 6, none⟩) (Nat.lt_succ_self g)).trans k6; go_simp; try with_reducible rfl)
  try simp only [List.getElem_toArray, List.getElem_cons_succ, List.getElem_cons_zero, Act.put, List.setIfInBounds_toArray, List.set_cons_zero, List.set_cons_succ]
  refine wpAnyH_take (i := 15) (v := ?_) rfl (by kernel_rfl) (by kernel_rfl) (by kernel_rfl) CalmP.onlyN_panic (Or.inl ⟨by kernel_rfl, ?_⟩) (by assumption) ?_
  rotate_left
  · (intro w_ hSw; have s2 := (hSw.cell (p := ⟨g, 2, none⟩) (Nat.lt_succ_self g)).trans k2; have s3 := (hSw.cell (p := ⟨g, 3, none⟩) (Nat.lt_succ_self g)).trans k3; have s4 := (hSw.cell (p := ⟨g, 4, none⟩) (Nat.lt_succ_self g)).trans k4; have s5 := (hSw.cell (p := ⟨g, 5, none⟩) (Nat.lt_succ_self g)).trans k5; have s6 := (hSw.cell (p := ⟨g, 6, none⟩) (Nat.lt_succ_self g)).trans k6; go_simp; try with_reducible rfl)
  try simp only [List.getElem_toArray, List.getElem_cons_succ, List.getElem_cons_zero, Act.put, List.setIfInBounds_toArray, List.set_cons_zero, List.set_cons_succ]
  refine wpAnyH_take (i := 16) (v := ?_) rfl (by kernel_rfl) (by kernel_rfl) (by kernel_rfl) CalmP.onlyN_panic (Or.inl ⟨by kernel_rfl, ?_⟩) (by assumption) ?_
  rotate_left
  · (intro w_ hSw; have s2 := (hSw.cell (p := ⟨g, 2, none⟩) (Nat.lt_succ_self g)).trans k2; have s3 := (hSw.cell (p := ⟨g, 3, none⟩) (Nat.lt_succ_self g)).trans k3; have s4 := (hSw.cell (p := ⟨g, 4, none⟩) (Nat.lt_succ_self g)).trans k4; have s5 := (hSw.cell (p := ⟨g, 5, none⟩) (Nat.lt_succ_self g)).trans k5; have s6 := (hSw.cell (p := ⟨g, 6, none⟩) (Nat.lt_succ_self g)).trans k6; go_simp; try with_reducible rfl)
  try simp only [List.getElem_toArray, List.getElem_cons_succ, List.getElem_cons_zero, Act.put, List.setIfInBounds_toArray, List.set_cons_zero, List.set_cons_succ]
  refine wpAnyH_take (i := 20) (v := ?_) rfl (by kernel_rfl) (by kernel_rfl) (by kernel_rfl) CalmP.onlyN_panic (Or.inl ⟨by kernel_rfl, ?_⟩) (by assumption) ?_
  rotate_left
  · (intro w_ hSw; have s2 := (hSw.cell (p := ⟨g, 2, none⟩) (Nat.lt_succ_self g)).trans k2; have s3 := (hSw.cell (p := ⟨g, 3, none⟩) (Nat.lt_succ_self g)).trans k3; have s4 := (hSw.cell (p := ⟨g, 4, none⟩) (Nat.lt_succ_self g)).trans k4; have s5 := (hSw.cell (p := ⟨g, 5, none⟩) (Nat.lt_succ_self g)).trans k5; have s6 := (hSw.cell (p := ⟨g, 6, none⟩) (Nat.lt_succ_self g)).trans k6; go_simp; try with_reducible rfl)
  try simp only [List.getElem_toArray, List.getElem_cons_succ, List.getElem_cons_zero, Act.put, List.setIfInBounds_toArray, List.set_cons_zero, List.set_cons_succ]
  refine wpAnyH_take (i := 21) (v := ?_) rfl (by kernel_rfl) (by kernel_rfl) (by kernel_rfl) CalmP.onlyN_panic (Or.inl ⟨by kernel_rfl, ?_⟩) (by assumption) ?_
  rotate_left
  · (intro w_ hSw; have s2 := (hSw.cell (p := ⟨g, 2, none⟩) (Nat.lt_succ_self g)).trans k2; have s3 := (hSw.cell (p := ⟨g, 3, none⟩) (Nat.lt_succ_self g)).trans k3; have s4 := (hSw.cell (p := ⟨g, 4, none⟩) (Nat.lt_succ_self g)).trans k4; have s5 := (hSw.cell (p := ⟨g, 5, none⟩) (Nat.lt_succ_self g)).trans k5; have s6 := (hSw.cell (p := ⟨g, 6, none⟩) (Nat.lt_succ_self g)).trans k6; go_simp; try with_reducible rfl)
  try simp only [List.getElem_toArray, List.getElem_cons_succ, List.getElem_cons_zero, Act.put, List.setIfInBounds_toArray, List.set_cons_zero, List.set_cons_succ]
  refine wpAnyH_ready (rs := [2]) (by kernel_rfl) (by simp) ?_
  refine AllReadyH.cons rfl (fun K_ hK => ?_) AllReadyH.nil
  go_simp
  refine (qa _).mono ?_
  rintro e v0 ⟨rfl, b_v0⟩
  have c_v0 : Below (g + 1) w1 v0 := (show Below (g + 1) w1 w1.drew from below_drewN (k := 1) (Below.refl _ _)).trans (b_v0.mono (by have := (show Below (g + 1) w1 w1.drew from below_drewN (k := 1) (Below.refl _ _)).size; omega))
  refine hK.out _ _ c_v0 (fun hHeld => ?_)
  clear hK K_
  try simp only [List.getElem_toArray, List.getElem_cons_succ, List.getElem_cons_zero, Act.put, List.setIfInBounds_toArray, List.set_cons_zero, List.set_cons_succ]
  refine wpAnyH_take (i := 3) (v := ?_) rfl (by kernel_rfl) (by kernel_rfl) (by kernel_rfl) CalmP.onlyN_panic (Or.inl ⟨by kernel_rfl, ?_⟩) (by assumption) ?_
  rotate_left
  · (intro w_ hSw; have s2 := (hSw.cell (p := ⟨g, 2, none⟩) (Nat.lt_succ_self g)).trans k2; have s3 := (hSw.cell (p := ⟨g, 3, none⟩) (Nat.lt_succ_self g)).trans k3; have s4 := (hSw.cell (p := ⟨g, 4, none⟩) (Nat.lt_succ_self g)).trans k4; have s5 := (hSw.cell (p := ⟨g, 5, none⟩) (Nat.lt_succ_self g)).trans k5; have s6 := (hSw.cell (p := ⟨g, 6, none⟩) (Nat.lt_succ_self g)).trans k6; go_simp; try with_reducible rfl)
  try simp only [List.getElem_toArray, List.getElem_cons_succ, List.getElem_cons_zero, Act.put, List.setIfInBounds_toArray, List.set_cons_zero, List.set_cons_succ]
  refine wpAnyH_take (i := 4) (v := ?_) rfl (by kernel_rfl) (by kernel_rfl) (by kernel_rfl) CalmP.onlyN_panic (Or.inl ⟨by kernel_rfl, ?_⟩) (by assumption) ?_
  rotate_left
  · (intro w_ hSw; have s2 := (hSw.cell (p := ⟨g, 2, none⟩) (Nat.lt_succ_self g)).trans k2; have s3 := (hSw.cell (p := ⟨g, 3, none⟩) (Nat.lt_succ_self g)).trans k3; have s4 := (hSw.cell (p := ⟨g, 4, none⟩) (Nat.lt_succ_self g)).trans k4; have s5 := (hSw.cell (p := ⟨g, 5, none⟩) (Nat.lt_succ_self g)).trans k5; have s6 := (hSw.cell (p := ⟨g, 6, none⟩) (Nat.lt_succ_self g)).trans k6; go_simp; try with_reducible rfl)
  try simp only [List.getElem_toArray, List.getElem_cons_succ, List.getElem_cons_zero, Act.put, List.setIfInBounds_toArray, List.set_cons_zero, List.set_cons_succ]
  refine wpAnyH_ready (rs := [7]) (by kernel_rfl) (by simp) ?_
  refine AllReadyH.cons rfl (fun K_ hK => ?_) AllReadyH.nil
  go_simp
  refine (qb _).mono ?_
  rintro e v1 ⟨rfl, b_v1⟩
  have c_v1 : Below (g + 1) w1 v1 := c_v0.trans (b_v1.mono (by have := c_v0.size; omega))
  refine hK.out _ _ c_v1 (fun hHeld => ?_)
  clear hK K_
  try simp only [List.getElem_toArray, List.getElem_cons_succ, List.getElem_cons_zero, Act.put, List.setIfInBounds_toArray, List.set_cons_zero, List.set_cons_succ]
  refine wpAnyH_take (i := 8) (v := ?_) rfl (by kernel_rfl) (by kernel_rfl) (by kernel_rfl) CalmP.onlyN_panic (Or.inl ⟨by kernel_rfl, ?_⟩) (by assumption) ?_
  rotate_left
  · (intro w_ hSw; have s2 := (hSw.cell (p := ⟨g, 2, none⟩) (Nat.lt_succ_self g)).trans k2; have s3 := (hSw.cell (p := ⟨g, 3, none⟩) (Nat.lt_succ_self g)).trans k3; have s4 := (hSw.cell (p := ⟨g, 4, none⟩) (Nat.lt_succ_self g)).trans k4; have s5 := (hSw.cell (p := ⟨g, 5, none⟩) (Nat.lt_succ_self g)).trans k5; have s6 := (hSw.cell (p := ⟨g, 6, none⟩) (Nat.lt_succ_self g)).trans k6; go_simp; try with_reducible rfl)
  try simp only [List.getElem_toArray, List.getElem_cons_succ, List.getElem_cons_zero, Act.put, List.setIfInBounds_toArray, List.set_cons_zero, List.set_cons_succ]
  refine wpAnyH_take (i := 9) (v := ?_) rfl (by kernel_rfl) (by kernel_rfl) (by kernel_rfl) CalmP.onlyN_panic (Or.inl ⟨by kernel_rfl, ?_⟩) (by assumption) ?_
  rotate_left
  · (intro w_ hSw; have s2 := (hSw.cell (p := ⟨g, 2, none⟩) (Nat.lt_succ_self g)).trans k2; have s3 := (hSw.cell (p := ⟨g, 3, none⟩) (Nat.lt_succ_self g)).trans k3; have s4 := (hSw.cell (p := ⟨g, 4, none⟩) (Nat.lt_succ_self g)).trans k4; have s5 := (hSw.cell (p := ⟨g, 5, none⟩) (Nat.lt_succ_self g)).trans k5; have s6 := (hSw.cell (p := ⟨g, 6, none⟩) (Nat.lt_succ_self g)).trans k6; go_simp; try with_reducible rfl)
  try simp only [List.getElem_toArray, List.getElem_cons_succ, List.getElem_cons_zero, Act.put, List.setIfInBounds_toArray, List.set_cons_zero, List.set_cons_succ]
  refine wpAnyH_ready (rs := [12]) (by kernel_rfl) (by simp) ?_
  refine AllReadyH.cons rfl (fun K_ hK => ?_) AllReadyH.nil
  go_simp
  refine (qc _).mono ?_
  rintro e v2 ⟨rfl, b_v2⟩
  have c_v2 : Below (g + 1) w1 v2 := c_v1.trans (b_v2.mono (by have := c_v1.size; omega))
  refine hK.out _ _ c_v2 (fun hHeld => ?_)
  clear hK K_
  try simp only [List.getElem_toArray, List.getElem_cons_succ, List.getElem_cons_zero, Act.put, List.setIfInBounds_toArray, List.set_cons_zero, List.set_cons_succ]
  refine wpAnyH_take (i := 13) (v := ?_) rfl (by kernel_rfl) (by kernel_rfl) (by kernel_rfl) CalmP.onlyN_panic (Or.inl ⟨by kernel_rfl, ?_⟩) (by assumption) ?_
  rotate_left
  · (intro w_ hSw; have s2 := (hSw.cell (p := ⟨g, 2, none⟩) (Nat.lt_succ_self g)).trans k2; have s3 := (hSw.cell (p := ⟨g, 3, none⟩) (Nat.lt_succ_self g)).trans k3; have s4 := (hSw.cell (p := ⟨g, 4, none⟩) (Nat.lt_succ_self g)).trans k4; have s5 := (hSw.cell (p := ⟨g, 5, none⟩) (Nat.lt_succ_self g)).trans k5; have s6 := (hSw.cell (p := ⟨g, 6, none⟩) (Nat.lt_succ_self g)).trans k6; go_simp; try with_reducible rfl)
  try simp only [List.getElem_toArray, List.getElem_cons_succ, List.getElem_cons_zero, Act.put, List.setIfInBounds_toArray, List.set_cons_zero, List.set_cons_succ]
  refine wpAnyH_take (i := 14) (v := ?_) rfl (by kernel_rfl) (by kernel_rfl) (by kernel_rfl) CalmP.onlyN_panic (Or.inl ⟨by kernel_rfl, ?_⟩) (by assumption) ?_
  rotate_left
  · (intro w_ hSw; have s2 := (hSw.cell (p := ⟨g, 2, none⟩) (Nat.lt_succ_self g)).trans k2; have s3 := (hSw.cell (p := ⟨g, 3, none⟩) (Nat.lt_succ_self g)).trans k3; have s4 := (hSw.cell (p := ⟨g, 4, none⟩) (Nat.lt_succ_self g)).trans k4; have s5 := (hSw.cell (p := ⟨g, 5, none⟩) (Nat.lt_succ_self g)).trans k5; have s6 := (hSw.cell (p := ⟨g, 6, none⟩) (Nat.lt_succ_self g)).trans k6; go_simp; try with_reducible rfl)
  try simp only [List.getElem_toArray, List.getElem_cons_succ, List.getElem_cons_zero, Act.put, List.setIfInBounds_toArray, List.set_cons_zero, List.set_cons_succ]
  refine wpAnyH_ready (rs := [17]) (by kernel_rfl) (by simp) ?_
  refine AllReadyH.cons rfl (fun K_ hK => ?_) AllReadyH.nil
  go_simp
  refine (qd _).mono ?_
  rintro e v3 ⟨rfl, b_v3⟩
  have c_v3 : Below (g + 1) w1 v3 := c_v2.trans (b_v3.mono (by have := c_v2.size; omega))
  refine hK.out _ _ c_v3 (fun hHeld => ?_)
  clear hK K_
  try simp only [List.getElem_toArray, List.getElem_cons_succ, List.getElem_cons_zero, Act.put, List.setIfInBounds_toArray, List.set_cons_zero, List.set_cons_succ]
  refine wpAnyH_take (i := 18) (v := ?_) rfl (by kernel_rfl) (by kernel_rfl) (by kernel_rfl) CalmP.onlyN_panic (Or.inl ⟨by kernel_rfl, ?_⟩) (by assumption) ?_
  rotate_left
  · (intro w_ hSw; have s2 := (hSw.cell (p := ⟨g, 2, none⟩) (Nat.lt_succ_self g)).trans k2; have s3 := (hSw.cell (p := ⟨g, 3, none⟩) (Nat.lt_succ_self g)).trans k3; have s4 := (hSw.cell (p := ⟨g, 4, none⟩) (Nat.lt_succ_self g)).trans k4; have s5 := (hSw.cell (p := ⟨g, 5, none⟩) (Nat.lt_succ_self g)).trans k5; have s6 := (hSw.cell (p := ⟨g, 6, none⟩) (Nat.lt_succ_self g)).trans k6; go_simp; try with_reducible rfl)
  try simp only [List.getElem_toArray, List.getElem_cons_succ, List.getElem_cons_zero, Act.put, List.setIfInBounds_toArray, List.set_cons_zero, List.set_cons_succ]
  refine wpAnyH_take (i := 19) (v := ?_) rfl (by kernel_rfl) (by kernel_rfl) (by kernel_rfl) CalmP.onlyN_panic (Or.inl ⟨by kernel_rfl, ?_⟩) (by assumption) ?_
  rotate_left
  · (intro w_ hSw; have s2 := (hSw.cell (p := ⟨g, 2, none⟩) (Nat.lt_succ_self g)).trans k2; have s3 := (hSw.cell (p := ⟨g, 3, none⟩) (Nat.lt_succ_self g)).trans k3; have s4 := (hSw.cell (p := ⟨g, 4, none⟩) (Nat.lt_succ_self g)).trans k4; have s5 := (hSw.cell (p := ⟨g, 5, none⟩) (Nat.lt_succ_self g)).trans k5; have s6 := (hSw.cell (p := ⟨g, 6, none⟩) (Nat.lt_succ_self g)).trans k6; go_simp; try with_reducible rfl)
  try simp only [List.getElem_toArray, List.getElem_cons_succ, List.getElem_cons_zero, Act.put, List.setIfInBounds_toArray, List.set_cons_zero, List.set_cons_succ]
  refine wpAnyH_ready (rs := [22]) (by kernel_rfl) (by simp) ?_
  refine AllReadyH.cons rfl (fun K_ hK => ?_) AllReadyH.nil
  go_simp
  refine (qe _).mono ?_
  rintro e v4 ⟨rfl, b_v4⟩
  have c_v4 : Below (g + 1) w1 v4 := c_v3.trans (b_v4.mono (by have := c_v3.size; omega))
  refine hK.out _ _ c_v4 (fun hHeld => ?_)
  clear hK K_
  try simp only [List.getElem_toArray, List.getElem_cons_succ, List.getElem_cons_zero, Act.put, List.setIfInBounds_toArray, List.set_cons_zero, List.set_cons_succ]
  refine wpAnyH_take (i := 23) (v := ?_) rfl (by kernel_rfl) (by kernel_rfl) (by kernel_rfl) CalmP.onlyN_panic (Or.inl ⟨by kernel_rfl, ?_⟩) (by assumption) ?_
  rotate_left
  · (intro w_ hSw; have s2 := (hSw.cell (p := ⟨g, 2, none⟩) (Nat.lt_succ_self g)).trans k2; have s3 := (hSw.cell (p := ⟨g, 3, none⟩) (Nat.lt_succ_self g)).trans k3; have s4 := (hSw.cell (p := ⟨g, 4, none⟩) (Nat.lt_succ_self g)).trans k4; have s5 := (hSw.cell (p := ⟨g, 5, none⟩) (Nat.lt_succ_self g)).trans k5; have s6 := (hSw.cell (p := ⟨g, 6, none⟩) (Nat.lt_succ_self g)).trans k6; go_simp; try with_reducible rfl)
  try simp only [List.getElem_toArray, List.getElem_cons_succ, List.getElem_cons_zero, Act.put, List.setIfInBounds_toArray, List.set_cons_zero, List.set_cons_succ]
  refine wpAnyH_take (i := 24) (v := ?_) rfl (by kernel_rfl) (by kernel_rfl) (by kernel_rfl) CalmP.onlyN_panic (Or.inl ⟨by kernel_rfl, ?_⟩) (by assumption) ?_
  rotate_left
  · (intro w_ hSw; have s2 := (hSw.cell (p := ⟨g, 2, none⟩) (Nat.lt_succ_self g)).trans k2; have s3 := (hSw.cell (p := ⟨g, 3, none⟩) (Nat.lt_succ_self g)).trans k3; have s4 := (hSw.cell (p := ⟨g, 4, none⟩) (Nat.lt_succ_self g)).trans k4; have s5 := (hSw.cell (p := ⟨g, 5, none⟩) (Nat.lt_succ_self g)).trans k5; have s6 := (hSw.cell (p := ⟨g, 6, none⟩) (Nat.lt_succ_self g)).trans k6; go_simp; try with_reducible rfl)
  try simp only [List.getElem_toArray, List.getElem_cons_succ, List.getElem_cons_zero, Act.put, List.setIfInBounds_toArray, List.set_cons_zero, List.set_cons_succ]
  refine wpAnyH_take (i := 25) (v := ?_) rfl (by kernel_rfl) (by kernel_rfl) (by kernel_rfl) CalmP.onlyN_panic (Or.inl ⟨by kernel_rfl, ?_⟩) (by assumption) ?_
  rotate_left
  · (intro w_ hSw; have s2 := (hSw.cell (p := ⟨g, 2, none⟩) (Nat.lt_succ_self g)).trans k2; have s3 := (hSw.cell (p := ⟨g, 3, none⟩) (Nat.lt_succ_self g)).trans k3; have s4 := (hSw.cell (p := ⟨g, 4, none⟩) (Nat.lt_succ_self g)).trans k4; have s5 := (hSw.cell (p := ⟨g, 5, none⟩) (Nat.lt_succ_self g)).trans k5; have s6 := (hSw.cell (p := ⟨g, 6, none⟩) (Nat.lt_succ_self g)).trans k6; go_simp; try with_reducible rfl)
  try simp only [List.getElem_toArray, List.getElem_cons_succ, List.getElem_cons_zero, Act.put, List.setIfInBounds_toArray, List.set_cons_zero, List.set_cons_succ]
  refine wpAnyH_done (by kernel_rfl) ?_ _
  refine CalmP.onlyN_here (hQ.out _ _ ?_)
  clear hQ K0
  have bx4 := Box.below3 bx c_v4 (Nat.lt_succ_self g)
  have t4 : Below g w v4 := t0.trans (c_v4.mono (by omega))
  have hs0 : s_9.data.toList = Scr.linesT ([cfgL ⟨fa, fb, fc, fd, fe, frs, ts, fas⟩]) := by
    rw [linesT_one]
    show _ = (Scr.Ln.cfg fa fb fc fd fe).text ++ [10]
    rw [scr_cfgT, ← hs_9, ← hs_8, ← hs_7, ← hs_6, ← hs_5, ← hs_4, ← hs_3, ← hs_2, ← hs_1, ← hs_0]
    simp only [ByteArray.data_append, Array.toList_append, da, db, dc, dd, de]
    simp [numsT, Scr.wCfg]
  clear hs_0 hs_1 hs_2 hs_3 hs_4 hs_5 hs_6 hs_7 hs_8 hs_9 qa qb qc qd qe k0 k1 k2 k3 k4 k5 k6 c_v0 c_v1 c_v2 c_v3 b_v0 b_v1 b_v2 b_v3 b_v4
  clear hcs_0 hcs_1 hcs_2 hcs_3 hcs_4 hcs_5 hcs_6 hcs_7 hcs_8 hcs_9 hbs_0 hbs_1 hbs_2 hbs_3 hbs_4 hbs_5 hbs_6 hbs_7 hbs_8 hbs_9 da db dc dd de
  have hbs : Below (g + 1) v4 v4 := Below.refl _ _
  go_wp2_with fail
  go_loopw [5, 6] (fun sv iv wr => ∃ (k : Nat) (sb : ByteArray), k ≤ nR ∧ iv = .int .i64 k ∧ sv = .string sb ∧ sb.data.toList = Scr.linesT ([cfgL ⟨fa, fb, fc, fd, fe, frs, ts, fas⟩] ++ (frs.take k).map rtL) ∧ Below (g + 1) v4 wr) (fun _ iv _ => nR - (intOf iv).toNat)
  case atStart => exact ⟨0, _, Nat.zero_le _, rfl, rfl, by simpa using hs0, hbs⟩
  case round =>
    clear hs0 hbs
    obtain ⟨k, sb, hk, rfl, rfl, hs0, hbs⟩ := hrel
    have hbx := Box.below3 bx4 hbs (Nat.lt_succ_self g)
    obtain ⟨k0, -⟩ := hbx.2 0 _ rfl
    obtain ⟨k1, -⟩ := hbx.2 1 _ rfl
    have hz : sb.size ≤ 4194304 := by
      have e : sb.size = sb.data.toList.length := by rw [Array.length_toList]; rfl
      rw [e, hs0]
      refine Nat.le_trans ?_ hlen
      rw [HLT.out]
      exact pre_rt _ k
    by_cases hlt : k < nR
    · have hlt' : (k : Int) < (nR : Int) := by omega
      have HS0 := hide hs0
      clear hs0
      obtain ⟨hl, ab, ao, hAA, hab, r0, r1, r2⟩ := (HC.out v4 t4).rt hlt
      simp only [List.getElem_map] at r0 r1 r2
      have hkl : k < frs.length := by simpa using hl
      have hsum := mem_totR (frs.map fun r => (r.1, r.2.1, (r.2.2 : Int))) ((frs[k]).1, (frs[k]).2.1, ((frs[k]).2.2 : Int)) (List.mem_map.2 ⟨frs[k], List.getElem_mem hkl, rfl⟩)
      have hzz := hfr.out frs[k] (List.getElem_mem hkl)
      obtain ⟨x, hx⟩ : ∃ x, x = frs[k] := ⟨_, rfl⟩
      rw [← hx] at r0 r1 r2 hsum hzz
      have HX := hide hx
      change x.2.2 ≤ Scr.maxI at hzz
      simp only at hsum
      obtain ⟨y0, d0, w0_, q0⟩ := hex_is x.1 (by omega)
      obtain ⟨y1, d1, w1_, q1⟩ := hex_is x.2.1 (by omega)
      obtain ⟨y2, d2, w2_, q2⟩ := dec_is x.2.2 hzz
      obtain ⟨z2, hz2⟩ : ∃ y, y = x.2.2 := ⟨_, rfl⟩
      obtain ⟨x0, hx0⟩ : ∃ y : ByteArray, y = ⟨x.1.toArray⟩ := ⟨_, rfl⟩
      obtain ⟨x1, hx1⟩ : ∃ y : ByteArray, y = ⟨x.2.1.toArray⟩ := ⟨_, rfl⟩
      have hx0s : x0.size ≤ 1000000 := by rw [hx0]; simp only [ByteArray.size, List.size_toArray]; omega
      have hx1s : x1.size ≤ 1000000 := by rw [hx1]; simp only [ByteArray.size, List.size_toArray]; omega
      rw [← hz2] at q2 r2
      rw [← hx0] at r0
      rw [← hx1] at r1
      have X0 : x.1 = x0.data.toList := by rw [hx0]
      have X1 : x.2.1 = x1.data.toList := by rw [hx1]
      rw [X0] at q0
      rw [X1] at q1
      have e0 := (hbs.cell (p := ⟨ab, ao + k * 3, none⟩) (show ab < g + 1 by omega)).trans r0
      clear e0 hx hx0 hx1 hz2 hsum X0 X1
      subst hAA
      have hg4 : g + 1 ≤ v4.heap.size := bx4.1
      have hgr : g + 1 ≤ wr.heap.size := by have := hbs.size; omega
      obtain ⟨kv0, -⟩ := bx4.2 0 _ rfl
      have e1_0 : (⟨#[114, 111, 117, 116, 101, 32]⟩ : ByteArray).size = 6 := rfl
      obtain ⟨s_0, hs_0⟩ : ∃ z : ByteArray, (sb : ByteArray) ++ ⟨#[114, 111, 117, 116, 101, 32]⟩ = z := ⟨_, rfl⟩
      have hbs_0 : s_0.size ≤ 30000000 := by rw [← hs_0, ByteArray.size_append]; omega
      have hcs_0 : ¬ (9223372036854775807 < sb.size + 6) := by omega
      clear e1_0
      obtain ⟨s_1, hs_1⟩ : ∃ z : ByteArray, (s_0 : ByteArray) ++ y0 = z := ⟨_, rfl⟩
      have hbs_1 : s_1.size ≤ 60000000 := by rw [← hs_1, ByteArray.size_append]; omega
      have hcs_1 : ¬ (9223372036854775807 < s_0.size + y0.size) := by omega
      have e1_2 : (⟨#[32]⟩ : ByteArray).size = 1 := rfl
      obtain ⟨s_2, hs_2⟩ : ∃ z : ByteArray, (s_1 : ByteArray) ++ ⟨#[32]⟩ = z := ⟨_, rfl⟩
      have hbs_2 : s_2.size ≤ 90000000 := by rw [← hs_2, ByteArray.size_append]; omega
      have hcs_2 : ¬ (9223372036854775807 < s_1.size + 1) := by omega
      clear e1_2
      obtain ⟨s_3, hs_3⟩ : ∃ z : ByteArray, (s_2 : ByteArray) ++ y1 = z := ⟨_, rfl⟩
      have hbs_3 : s_3.size ≤ 120000000 := by rw [← hs_3, ByteArray.size_append]; omega
      have hcs_3 : ¬ (9223372036854775807 < s_2.size + y1.size) := by omega
      have e1_4 : (⟨#[32]⟩ : ByteArray).size = 1 := rfl
      obtain ⟨s_4, hs_4⟩ : ∃ z : ByteArray, (s_3 : ByteArray) ++ ⟨#[32]⟩ = z := ⟨_, rfl⟩
      have hbs_4 : s_4.size ≤ 150000000 := by rw [← hs_4, ByteArray.size_append]; omega
      have hcs_4 : ¬ (9223372036854775807 < s_3.size + 1) := by omega
      clear e1_4
      obtain ⟨s_5, hs_5⟩ : ∃ z : ByteArray, (s_4 : ByteArray) ++ y2 = z := ⟨_, rfl⟩
      have hbs_5 : s_5.size ≤ 180000000 := by rw [← hs_5, ByteArray.size_append]; omega
      have hcs_5 : ¬ (9223372036854775807 < s_4.size + y2.size) := by omega
      have e1_6 : (⟨#[10]⟩ : ByteArray).size = 1 := rfl
      obtain ⟨s_6, hs_6⟩ : ∃ z : ByteArray, (s_5 : ByteArray) ++ ⟨#[10]⟩ = z := ⟨_, rfl⟩
      have hbs_6 : s_6.size ≤ 210000000 := by rw [← hs_6, ByteArray.size_append]; omega
      have hcs_6 : ¬ (9223372036854775807 < s_5.size + 1) := by omega
      clear e1_6
      have hbd : Below (g + 1) v4 wr.drew := hbs.trans (below_drewN (k := 1) (Below.refl _ _))
      go_upto_region 5 with (fail)
      refine CalmP.hideN (fun K0 hQ => ?_)
      refine wp_region_held_drew (S := (fun W : World => Below (g + 1) v4 W)) (by kernel_rfl) hbd (fun hHeld => ?_)
      refine wpAnyH_take (i := 0) (v := ?_) rfl (by kernel_rfl) (by kernel_rfl) (by kernel_rfl) CalmP.onlyN_panic (Or.inl ⟨by kernel_rfl, ?_⟩) (by assumption) ?_
      rotate_left
      · (intro w_ hSw; have s0 := (hSw.cell (p := ⟨g, 0, none⟩) (Nat.lt_succ_self g)).trans kv0; have sr0 := (hSw.cell (p := ⟨ab, ao + k * 3, none⟩) (show ab < g + 1 by omega)).trans r0; have sr1 := (hSw.cell (p := ⟨ab, ao + k * 3 + 1, none⟩) (show ab < g + 1 by omega)).trans r1; have sr2 := (hSw.cell (p := ⟨ab, ao + k * 3 + 2, none⟩) (show ab < g + 1 by omega)).trans r2; go_simp; try with_reducible rfl)
      try simp only [List.getElem_toArray, List.getElem_cons_succ, List.getElem_cons_zero, Act.put, List.setIfInBounds_toArray, List.set_cons_zero, List.set_cons_succ]
      refine wpAnyH_take (i := 1) (v := ?_) rfl (by kernel_rfl) (by kernel_rfl) (by kernel_rfl) CalmP.onlyN_panic (Or.inl ⟨by kernel_rfl, ?_⟩) (by assumption) ?_
      rotate_left
      · (intro w_ hSw; have s0 := (hSw.cell (p := ⟨g, 0, none⟩) (Nat.lt_succ_self g)).trans kv0; have sr0 := (hSw.cell (p := ⟨ab, ao + k * 3, none⟩) (show ab < g + 1 by omega)).trans r0; have sr1 := (hSw.cell (p := ⟨ab, ao + k * 3 + 1, none⟩) (show ab < g + 1 by omega)).trans r1; have sr2 := (hSw.cell (p := ⟨ab, ao + k * 3 + 2, none⟩) (show ab < g + 1 by omega)).trans r2; go_simp; try with_reducible rfl)
      try simp only [List.getElem_toArray, List.getElem_cons_succ, List.getElem_cons_zero, Act.put, List.setIfInBounds_toArray, List.set_cons_zero, List.set_cons_succ]
      refine wpAnyH_take (i := 2) (v := ?_) rfl (by kernel_rfl) (by kernel_rfl) (by kernel_rfl) CalmP.onlyN_panic (Or.inl ⟨by kernel_rfl, ?_⟩) (by assumption) ?_
      rotate_left
      · (intro w_ hSw; have s0 := (hSw.cell (p := ⟨g, 0, none⟩) (Nat.lt_succ_self g)).trans kv0; have sr0 := (hSw.cell (p := ⟨ab, ao + k * 3, none⟩) (show ab < g + 1 by omega)).trans r0; have sr1 := (hSw.cell (p := ⟨ab, ao + k * 3 + 1, none⟩) (show ab < g + 1 by omega)).trans r1; have sr2 := (hSw.cell (p := ⟨ab, ao + k * 3 + 2, none⟩) (show ab < g + 1 by omega)).trans r2; go_simp; try with_reducible rfl)
      try simp only [List.getElem_toArray, List.getElem_cons_succ, List.getElem_cons_zero, Act.put, List.setIfInBounds_toArray, List.set_cons_zero, List.set_cons_succ]
      refine wpAnyH_take (i := 3) (v := ?_) rfl (by kernel_rfl) (by kernel_rfl) (by kernel_rfl) CalmP.onlyN_panic (Or.inl ⟨by kernel_rfl, ?_⟩) (by assumption) ?_
      rotate_left
      · (intro w_ hSw; have s0 := (hSw.cell (p := ⟨g, 0, none⟩) (Nat.lt_succ_self g)).trans kv0; have sr0 := (hSw.cell (p := ⟨ab, ao + k * 3, none⟩) (show ab < g + 1 by omega)).trans r0; have sr1 := (hSw.cell (p := ⟨ab, ao + k * 3 + 1, none⟩) (show ab < g + 1 by omega)).trans r1; have sr2 := (hSw.cell (p := ⟨ab, ao + k * 3 + 2, none⟩) (show ab < g + 1 by omega)).trans r2; go_simp; try with_reducible rfl)
      try simp only [List.getElem_toArray, List.getElem_cons_succ, List.getElem_cons_zero, Act.put, List.setIfInBounds_toArray, List.set_cons_zero, List.set_cons_succ]
      refine wpAnyH_take (i := 4) (v := ?_) rfl (by kernel_rfl) (by kernel_rfl) (by kernel_rfl) CalmP.onlyN_panic (Or.inl ⟨by kernel_rfl, ?_⟩) (by assumption) ?_
      rotate_left
      · (intro w_ hSw; have s0 := (hSw.cell (p := ⟨g, 0, none⟩) (Nat.lt_succ_self g)).trans kv0; have sr0 := (hSw.cell (p := ⟨ab, ao + k * 3, none⟩) (show ab < g + 1 by omega)).trans r0; have sr1 := (hSw.cell (p := ⟨ab, ao + k * 3 + 1, none⟩) (show ab < g + 1 by omega)).trans r1; have sr2 := (hSw.cell (p := ⟨ab, ao + k * 3 + 2, none⟩) (show ab < g + 1 by omega)).trans r2; go_simp; try with_reducible rfl)
      try simp only [List.getElem_toArray, List.getElem_cons_succ, List.getElem_cons_zero, Act.put, List.setIfInBounds_toArray, List.set_cons_zero, List.set_cons_succ]
      refine wpAnyH_take (i := 5) (v := ?_) rfl (by kernel_rfl) (by kernel_rfl) (by kernel_rfl) CalmP.onlyN_panic (Or.inl ⟨by kernel_rfl, ?_⟩) (by assumption) ?_
      rotate_left
      · (intro w_ hSw; have s0 := (hSw.cell (p := ⟨g, 0, none⟩) (Nat.lt_succ_self g)).trans kv0; have sr0 := (hSw.cell (p := ⟨ab, ao + k * 3, none⟩) (show ab < g + 1 by omega)).trans r0; have sr1 := (hSw.cell (p := ⟨ab, ao + k * 3 + 1, none⟩) (show ab < g + 1 by omega)).trans r1; have sr2 := (hSw.cell (p := ⟨ab, ao + k * 3 + 2, none⟩) (show ab < g + 1 by omega)).trans r2; go_simp; try with_reducible rfl)
      try simp only [List.getElem_toArray, List.getElem_cons_succ, List.getElem_cons_zero, Act.put, List.setIfInBounds_toArray, List.set_cons_zero, List.set_cons_succ]
      refine wpAnyH_take (i := 6) (v := ?_) rfl (by kernel_rfl) (by kernel_rfl) (by kernel_rfl) CalmP.onlyN_panic (Or.inl ⟨by kernel_rfl, ?_⟩) (by assumption) ?_
      rotate_left
      · (intro w_ hSw; have s0 := (hSw.cell (p := ⟨g, 0, none⟩) (Nat.lt_succ_self g)).trans kv0; have sr0 := (hSw.cell (p := ⟨ab, ao + k * 3, none⟩) (show ab < g + 1 by omega)).trans r0; have sr1 := (hSw.cell (p := ⟨ab, ao + k * 3 + 1, none⟩) (show ab < g + 1 by omega)).trans r1; have sr2 := (hSw.cell (p := ⟨ab, ao + k * 3 + 2, none⟩) (show ab < g + 1 by omega)).trans r2; go_simp; try with_reducible rfl)
      try simp only [List.getElem_toArray, List.getElem_cons_succ, List.getElem_cons_zero, Act.put, List.setIfInBounds_toArray, List.set_cons_zero, List.set_cons_succ]
      refine wpAnyH_take (i := 7) (v := ?_) rfl (by kernel_rfl) (by kernel_rfl) (by kernel_rfl) CalmP.onlyN_panic (Or.inl ⟨by kernel_rfl, ?_⟩) (by assumption) ?_
      rotate_left
      · (intro w_ hSw; have s0 := (hSw.cell (p := ⟨g, 0, none⟩) (Nat.lt_succ_self g)).trans kv0; have sr0 := (hSw.cell (p := ⟨ab, ao + k * 3, none⟩) (show ab < g + 1 by omega)).trans r0; have sr1 := (hSw.cell (p := ⟨ab, ao + k * 3 + 1, none⟩) (show ab < g + 1 by omega)).trans r1; have sr2 := (hSw.cell (p := ⟨ab, ao + k * 3 + 2, none⟩) (show ab < g + 1 by omega)).trans r2; go_simp; try with_reducible rfl)
      try simp only [List.getElem_toArray, List.getElem_cons_succ, List.getElem_cons_zero, Act.put, List.setIfInBounds_toArray, List.set_cons_zero, List.set_cons_succ]
      refine wpAnyH_take (i := 12) (v := ?_) rfl (by kernel_rfl) (by kernel_rfl) (by kernel_rfl) CalmP.onlyN_panic (Or.inl ⟨by kernel_rfl, ?_⟩) (by assumption) ?_
      rotate_left
      · (intro w_ hSw; have s0 := (hSw.cell (p := ⟨g, 0, none⟩) (Nat.lt_succ_self g)).trans kv0; have sr0 := (hSw.cell (p := ⟨ab, ao + k * 3, none⟩) (show ab < g + 1 by omega)).trans r0; have sr1 := (hSw.cell (p := ⟨ab, ao + k * 3 + 1, none⟩) (show ab < g + 1 by omega)).trans r1; have sr2 := (hSw.cell (p := ⟨ab, ao + k * 3 + 2, none⟩) (show ab < g + 1 by omega)).trans r2; go_simp; try with_reducible rfl)
      try simp only [List.getElem_toArray, List.getElem_cons_succ, List.getElem_cons_zero, Act.put, List.setIfInBounds_toArray, List.set_cons_zero, List.set_cons_succ]
      refine wpAnyH_take (i := 13) (v := ?_) rfl (by kernel_rfl) (by kernel_rfl) (by kernel_rfl) CalmP.onlyN_panic (Or.inl ⟨by kernel_rfl, ?_⟩) (by assumption) ?_
      rotate_left
      · (intro w_ hSw; have s0 := (hSw.cell (p := ⟨g, 0, none⟩) (Nat.lt_succ_self g)).trans kv0; have sr0 := (hSw.cell (p := ⟨ab, ao + k * 3, none⟩) (show ab < g + 1 by omega)).trans r0; have sr1 := (hSw.cell (p := ⟨ab, ao + k * 3 + 1, none⟩) (show ab < g + 1 by omega)).trans r1; have sr2 := (hSw.cell (p := ⟨ab, ao + k * 3 + 2, none⟩) (show ab < g + 1 by omega)).trans r2; go_simp; try with_reducible rfl)
      try simp only [List.getElem_toArray, List.getElem_cons_succ, List.getElem_cons_zero, Act.put, List.setIfInBounds_toArray, List.set_cons_zero, List.set_cons_succ]
      refine wpAnyH_take (i := 14) (v := ?_) rfl (by kernel_rfl) (by kernel_rfl) (by kernel_rfl) CalmP.onlyN_panic (Or.inl ⟨by kernel_rfl, ?_⟩) (by assumption) ?_
      rotate_left
      · (intro w_ hSw; have s0 := (hSw.cell (p := ⟨g, 0, none⟩) (Nat.lt_succ_self g)).trans kv0; have sr0 := (hSw.cell (p := ⟨ab, ao + k * 3, none⟩) (show ab < g + 1 by omega)).trans r0; have sr1 := (hSw.cell (p := ⟨ab, ao + k * 3 + 1, none⟩) (show ab < g + 1 by omega)).trans r1; have sr2 := (hSw.cell (p := ⟨ab, ao + k * 3 + 2, none⟩) (show ab < g + 1 by omega)).trans r2; go_simp; try with_reducible rfl)
      try simp only [List.getElem_toArray, List.getElem_cons_succ, List.getElem_cons_zero, Act.put, List.setIfInBounds_toArray, List.set_cons_zero, List.set_cons_succ]
      refine wpAnyH_take (i := 15) (v := ?_) rfl (by kernel_rfl) (by kernel_rfl) (by kernel_rfl) CalmP.onlyN_panic (Or.inl ⟨by kernel_rfl, ?_⟩) (by assumption) ?_
      rotate_left
      · (intro w_ hSw; have s0 := (hSw.cell (p := ⟨g, 0, none⟩) (Nat.lt_succ_self g)).trans kv0; have sr0 := (hSw.cell (p := ⟨ab, ao + k * 3, none⟩) (show ab < g + 1 by omega)).trans r0; have sr1 := (hSw.cell (p := ⟨ab, ao + k * 3 + 1, none⟩) (show ab < g + 1 by omega)).trans r1; have sr2 := (hSw.cell (p := ⟨ab, ao + k * 3 + 2, none⟩) (show ab < g + 1 by omega)).trans r2; go_simp; try with_reducible rfl)
      try simp only [List.getElem_toArray, List.getElem_cons_succ, List.getElem_cons_zero, Act.put, List.setIfInBounds_toArray, List.set_cons_zero, List.set_cons_succ]
      refine wpAnyH_take (i := 16) (v := ?_) rfl (by kernel_rfl) (by kernel_rfl) (by kernel_rfl) CalmP.onlyN_panic (Or.inl ⟨by kernel_rfl, ?_⟩) (by assumption) ?_
      rotate_left
      · (intro w_ hSw; have s0 := (hSw.cell (p := ⟨g, 0, none⟩) (Nat.lt_succ_self g)).trans kv0; have sr0 := (hSw.cell (p := ⟨ab, ao + k * 3, none⟩) (show ab < g + 1 by omega)).trans r0; have sr1 := (hSw.cell (p := ⟨ab, ao + k * 3 + 1, none⟩) (show ab < g + 1 by omega)).trans r1; have sr2 := (hSw.cell (p := ⟨ab, ao + k * 3 + 2, none⟩) (show ab < g + 1 by omega)).trans r2; go_simp; try with_reducible rfl)
      try simp only [List.getElem_toArray, List.getElem_cons_succ, List.getElem_cons_zero, Act.put, List.setIfInBounds_toArray, List.set_cons_zero, List.set_cons_succ]
      refine wpAnyH_take (i := 17) (v := ?_) rfl (by kernel_rfl) (by kernel_rfl) (by kernel_rfl) CalmP.onlyN_panic (Or.inl ⟨by kernel_rfl, ?_⟩) (by assumption) ?_
      rotate_left
      · (intro w_ hSw; have s0 := (hSw.cell (p := ⟨g, 0, none⟩) (Nat.lt_succ_self g)).trans kv0; have sr0 := (hSw.cell (p := ⟨ab, ao + k * 3, none⟩) (show ab < g + 1 by omega)).trans r0; have sr1 := (hSw.cell (p := ⟨ab, ao + k * 3 + 1, none⟩) (show ab < g + 1 by omega)).trans r1; have sr2 := (hSw.cell (p := ⟨ab, ao + k * 3 + 2, none⟩) (show ab < g + 1 by omega)).trans r2; go_simp; try with_reducible rfl)
      try simp only [List.getElem_toArray, List.getElem_cons_succ, List.getElem_cons_zero, Act.put, List.setIfInBounds_toArray, List.set_cons_zero, List.set_cons_succ]
      refine wpAnyH_take (i := 22) (v := ?_) rfl (by kernel_rfl) (by kernel_rfl) (by kernel_rfl) CalmP.onlyN_panic (Or.inl ⟨by kernel_rfl, ?_⟩) (by assumption) ?_
      rotate_left
      · (intro w_ hSw; have s0 := (hSw.cell (p := ⟨g, 0, none⟩) (Nat.lt_succ_self g)).trans kv0; have sr0 := (hSw.cell (p := ⟨ab, ao + k * 3, none⟩) (show ab < g + 1 by omega)).trans r0; have sr1 := (hSw.cell (p := ⟨ab, ao + k * 3 + 1, none⟩) (show ab < g + 1 by omega)).trans r1; have sr2 := (hSw.cell (p := ⟨ab, ao + k * 3 + 2, none⟩) (show ab < g + 1 by omega)).trans r2; go_simp; try with_reducible rfl)
      try simp only [List.getElem_toArray, List.getElem_cons_succ, List.getElem_cons_zero, Act.put, List.setIfInBounds_toArray, List.set_cons_zero, List.set_cons_succ]
      refine wpAnyH_take (i := 23) (v := ?_) rfl (by kernel_rfl) (by kernel_rfl) (by kernel_rfl) CalmP.onlyN_panic (Or.inl ⟨by kernel_rfl, ?_⟩) (by assumption) ?_
      rotate_left
      · (intro w_ hSw; have s0 := (hSw.cell (p := ⟨g, 0, none⟩) (Nat.lt_succ_self g)).trans kv0; have sr0 := (hSw.cell (p := ⟨ab, ao + k * 3, none⟩) (show ab < g + 1 by omega)).trans r0; have sr1 := (hSw.cell (p := ⟨ab, ao + k * 3 + 1, none⟩) (show ab < g + 1 by omega)).trans r1; have sr2 := (hSw.cell (p := ⟨ab, ao + k * 3 + 2, none⟩) (show ab < g + 1 by omega)).trans r2; go_simp; try with_reducible rfl)
      try simp only [List.getElem_toArray, List.getElem_cons_succ, List.getElem_cons_zero, Act.put, List.setIfInBounds_toArray, List.set_cons_zero, List.set_cons_succ]
      refine wpAnyH_take (i := 24) (v := ?_) rfl (by kernel_rfl) (by kernel_rfl) (by kernel_rfl) CalmP.onlyN_panic (Or.inl ⟨by kernel_rfl, ?_⟩) (by assumption) ?_
      rotate_left
      · (intro w_ hSw; have s0 := (hSw.cell (p := ⟨g, 0, none⟩) (Nat.lt_succ_self g)).trans kv0; have sr0 := (hSw.cell (p := ⟨ab, ao + k * 3, none⟩) (show ab < g + 1 by omega)).trans r0; have sr1 := (hSw.cell (p := ⟨ab, ao + k * 3 + 1, none⟩) (show ab < g + 1 by omega)).trans r1; have sr2 := (hSw.cell (p := ⟨ab, ao + k * 3 + 2, none⟩) (show ab < g + 1 by omega)).trans r2; go_simp; try with_reducible rfl)
      try simp only [List.getElem_toArray, List.getElem_cons_succ, List.getElem_cons_zero, Act.put, List.setIfInBounds_toArray, List.set_cons_zero, List.set_cons_succ]
      refine wpAnyH_take (i := 25) (v := ?_) rfl (by kernel_rfl) (by kernel_rfl) (by kernel_rfl) CalmP.onlyN_panic (Or.inl ⟨by kernel_rfl, ?_⟩) (by assumption) ?_
      rotate_left
      · (intro w_ hSw; have s0 := (hSw.cell (p := ⟨g, 0, none⟩) (Nat.lt_succ_self g)).trans kv0; have sr0 := (hSw.cell (p := ⟨ab, ao + k * 3, none⟩) (show ab < g + 1 by omega)).trans r0; have sr1 := (hSw.cell (p := ⟨ab, ao + k * 3 + 1, none⟩) (show ab < g + 1 by omega)).trans r1; have sr2 := (hSw.cell (p := ⟨ab, ao + k * 3 + 2, none⟩) (show ab < g + 1 by omega)).trans r2; go_simp; try with_reducible rfl)
      try simp only [List.getElem_toArray, List.getElem_cons_succ, List.getElem_cons_zero, Act.put, List.setIfInBounds_toArray, List.set_cons_zero, List.set_cons_succ]
      refine wpAnyH_take (i := 26) (v := ?_) rfl (by kernel_rfl) (by kernel_rfl) (by kernel_rfl) CalmP.onlyN_panic (Or.inl ⟨by kernel_rfl, ?_⟩) (by assumption) ?_
      rotate_left
      · (intro w_ hSw; have s0 := (hSw.cell (p := ⟨g, 0, none⟩) (Nat.lt_succ_self g)).trans kv0; have sr0 := (hSw.cell (p := ⟨ab, ao + k * 3, none⟩) (show ab < g + 1 by omega)).trans r0; have sr1 := (hSw.cell (p := ⟨ab, ao + k * 3 + 1, none⟩) (show ab < g + 1 by omega)).trans r1; have sr2 := (hSw.cell (p := ⟨ab, ao + k * 3 + 2, none⟩) (show ab < g + 1 by omega)).trans r2; go_simp; try with_reducible rfl)
      try simp only [List.getElem_toArray, List.getElem_cons_succ, List.getElem_cons_zero, Act.put, List.setIfInBounds_toArray, List.set_cons_zero, List.set_cons_succ]
      refine wpAnyH_take (i := 27) (v := ?_) rfl (by kernel_rfl) (by kernel_rfl) (by kernel_rfl) CalmP.onlyN_panic (Or.inl ⟨by kernel_rfl, ?_⟩) (by assumption) ?_
      rotate_left
      · (intro w_ hSw; have s0 := (hSw.cell (p := ⟨g, 0, none⟩) (Nat.lt_succ_self g)).trans kv0; have sr0 := (hSw.cell (p := ⟨ab, ao + k * 3, none⟩) (show ab < g + 1 by omega)).trans r0; have sr1 := (hSw.cell (p := ⟨ab, ao + k * 3 + 1, none⟩) (show ab < g + 1 by omega)).trans r1; have sr2 := (hSw.cell (p := ⟨ab, ao + k * 3 + 2, none⟩) (show ab < g + 1 by omega)).trans r2; go_simp; try with_reducible rfl)
      try simp only [List.getElem_toArray, List.getElem_cons_succ, List.getElem_cons_zero, Act.put, List.setIfInBounds_toArray, List.set_cons_zero, List.set_cons_succ]
      refine wpAnyH_ready (rs := [8, 18]) (by kernel_rfl) (by simp) ?_
      refine AllReadyH.cons rfl (fun K_ hK => ?_) (AllReadyH.cons rfl (fun K_ hK => ?_) AllReadyH.nil)
      · obtain ⟨A14, c14, V13, hcv14, ho14, bv14⟩ := conv_ow wr.drew x0 (by omega)
        go_simp
        have rdn14 := ho14.rd
        have bc15 : Below (g + 1) v4 V13 := hbd.trans (bv14.mono (by have := hbd.size; omega))
        refine hK.out _ _ bc15 (fun hHeld => ?_)
        clear hK K_ hcv14
        try simp only [List.getElem_toArray, List.getElem_cons_succ, List.getElem_cons_zero, Act.put, List.setIfInBounds_toArray, List.set_cons_zero, List.set_cons_succ]
        refine wpAnyH_ready (rs := [9, 18]) (by kernel_rfl) (by simp) ?_
        refine AllReadyH.cons rfl (fun K_ hK => ?_) (AllReadyH.cons rfl (fun K_ hK => ?_) AllReadyH.nil)
        · go_simp
          refine (q0 _ _ _ _ V13 rdn14 (Nat.le_refl _)).mono ?_
          rintro e V16 ⟨rfl, bh17⟩
          have bc18 : Below (g + 1) v4 V16 := bc15.trans (bh17.mono (by have := bc15.size; omega))
          refine hK.out _ _ bc18 (fun hHeld => ?_)
          clear hK K_
          try simp only [List.getElem_toArray, List.getElem_cons_succ, List.getElem_cons_zero, Act.put, List.setIfInBounds_toArray, List.set_cons_zero, List.set_cons_succ]
          refine wpAnyH_take (i := 10) (v := ?_) rfl (by kernel_rfl) (by kernel_rfl) (by kernel_rfl) CalmP.onlyN_panic (Or.inl ⟨by kernel_rfl, ?_⟩) (by assumption) ?_
          rotate_left
          · (intro w_ hSw; have s0 := (hSw.cell (p := ⟨g, 0, none⟩) (Nat.lt_succ_self g)).trans kv0; have sr0 := (hSw.cell (p := ⟨ab, ao + k * 3, none⟩) (show ab < g + 1 by omega)).trans r0; have sr1 := (hSw.cell (p := ⟨ab, ao + k * 3 + 1, none⟩) (show ab < g + 1 by omega)).trans r1; have sr2 := (hSw.cell (p := ⟨ab, ao + k * 3 + 2, none⟩) (show ab < g + 1 by omega)).trans r2; go_simp; try with_reducible rfl)
          try simp only [List.getElem_toArray, List.getElem_cons_succ, List.getElem_cons_zero, Act.put, List.setIfInBounds_toArray, List.set_cons_zero, List.set_cons_succ]
          refine wpAnyH_take (i := 11) (v := ?_) rfl (by kernel_rfl) (by kernel_rfl) (by kernel_rfl) CalmP.onlyN_panic (Or.inl ⟨by kernel_rfl, ?_⟩) (by assumption) ?_
          rotate_left
          · (intro w_ hSw; have s0 := (hSw.cell (p := ⟨g, 0, none⟩) (Nat.lt_succ_self g)).trans kv0; have sr0 := (hSw.cell (p := ⟨ab, ao + k * 3, none⟩) (show ab < g + 1 by omega)).trans r0; have sr1 := (hSw.cell (p := ⟨ab, ao + k * 3 + 1, none⟩) (show ab < g + 1 by omega)).trans r1; have sr2 := (hSw.cell (p := ⟨ab, ao + k * 3 + 2, none⟩) (show ab < g + 1 by omega)).trans r2; go_simp; try with_reducible rfl)
          try simp only [List.getElem_toArray, List.getElem_cons_succ, List.getElem_cons_zero, Act.put, List.setIfInBounds_toArray, List.set_cons_zero, List.set_cons_succ]
          refine wpAnyH_ready (rs := [18]) (by kernel_rfl) (by simp) ?_
          refine AllReadyH.cons rfl (fun K_ hK => ?_) AllReadyH.nil
          obtain ⟨A20, c20, V19, hcv20, ho20, bv20⟩ := conv_ow V16 x1 (by omega)
          go_simp
          have rdn20 := ho20.rd
          have bc21 : Below (g + 1) v4 V19 := bc18.trans (bv20.mono (by have := bc18.size; omega))
          refine hK.out _ _ bc21 (fun hHeld => ?_)
          clear hK K_ hcv20
          try simp only [List.getElem_toArray, List.getElem_cons_succ, List.getElem_cons_zero, Act.put, List.setIfInBounds_toArray, List.set_cons_zero, List.set_cons_succ]
          refine wpAnyH_ready (rs := [19]) (by kernel_rfl) (by simp) ?_
          refine AllReadyH.cons rfl (fun K_ hK => ?_) AllReadyH.nil
          go_simp
          refine (q1 _ _ _ _ V19 rdn20 (Nat.le_refl _)).mono ?_
          rintro e V22 ⟨rfl, bh23⟩
          have bc24 : Below (g + 1) v4 V22 := bc21.trans (bh23.mono (by have := bc21.size; omega))
          refine hK.out _ _ bc24 (fun hHeld => ?_)
          clear hK K_
          try simp only [List.getElem_toArray, List.getElem_cons_succ, List.getElem_cons_zero, Act.put, List.setIfInBounds_toArray, List.set_cons_zero, List.set_cons_succ]
          refine wpAnyH_take (i := 20) (v := ?_) rfl (by kernel_rfl) (by kernel_rfl) (by kernel_rfl) CalmP.onlyN_panic (Or.inl ⟨by kernel_rfl, ?_⟩) (by assumption) ?_
          rotate_left
          · (intro w_ hSw; have s0 := (hSw.cell (p := ⟨g, 0, none⟩) (Nat.lt_succ_self g)).trans kv0; have sr0 := (hSw.cell (p := ⟨ab, ao + k * 3, none⟩) (show ab < g + 1 by omega)).trans r0; have sr1 := (hSw.cell (p := ⟨ab, ao + k * 3 + 1, none⟩) (show ab < g + 1 by omega)).trans r1; have sr2 := (hSw.cell (p := ⟨ab, ao + k * 3 + 2, none⟩) (show ab < g + 1 by omega)).trans r2; go_simp; try with_reducible rfl)
          try simp only [List.getElem_toArray, List.getElem_cons_succ, List.getElem_cons_zero, Act.put, List.setIfInBounds_toArray, List.set_cons_zero, List.set_cons_succ]
          refine wpAnyH_take (i := 21) (v := ?_) rfl (by kernel_rfl) (by kernel_rfl) (by kernel_rfl) CalmP.onlyN_panic (Or.inl ⟨by kernel_rfl, ?_⟩) (by assumption) ?_
          rotate_left
          · (intro w_ hSw; have s0 := (hSw.cell (p := ⟨g, 0, none⟩) (Nat.lt_succ_self g)).trans kv0; have sr0 := (hSw.cell (p := ⟨ab, ao + k * 3, none⟩) (show ab < g + 1 by omega)).trans r0; have sr1 := (hSw.cell (p := ⟨ab, ao + k * 3 + 1, none⟩) (show ab < g + 1 by omega)).trans r1; have sr2 := (hSw.cell (p := ⟨ab, ao + k * 3 + 2, none⟩) (show ab < g + 1 by omega)).trans r2; go_simp; try with_reducible rfl)
          try simp only [List.getElem_toArray, List.getElem_cons_succ, List.getElem_cons_zero, Act.put, List.setIfInBounds_toArray, List.set_cons_zero, List.set_cons_succ]
          refine wpAnyH_ready (rs := [28]) (by kernel_rfl) (by simp) ?_
          refine AllReadyH.cons rfl (fun K_ hK => ?_) AllReadyH.nil
          go_simp
          refine (q2 V22).mono ?_
          rintro e V25 ⟨rfl, bh26⟩
          have bc27 : Below (g + 1) v4 V25 := bc24.trans (bh26.mono (by have := bc24.size; omega))
          refine hK.out _ _ bc27 (fun hHeld => ?_)
          clear hK K_
          try simp only [List.getElem_toArray, List.getElem_cons_succ, List.getElem_cons_zero, Act.put, List.setIfInBounds_toArray, List.set_cons_zero, List.set_cons_succ]
          refine wpAnyH_take (i := 29) (v := ?_) rfl (by kernel_rfl) (by kernel_rfl) (by kernel_rfl) CalmP.onlyN_panic (Or.inl ⟨by kernel_rfl, ?_⟩) (by assumption) ?_
          rotate_left
          · (intro w_ hSw; have s0 := (hSw.cell (p := ⟨g, 0, none⟩) (Nat.lt_succ_self g)).trans kv0; have sr0 := (hSw.cell (p := ⟨ab, ao + k * 3, none⟩) (show ab < g + 1 by omega)).trans r0; have sr1 := (hSw.cell (p := ⟨ab, ao + k * 3 + 1, none⟩) (show ab < g + 1 by omega)).trans r1; have sr2 := (hSw.cell (p := ⟨ab, ao + k * 3 + 2, none⟩) (show ab < g + 1 by omega)).trans r2; go_simp; try with_reducible rfl)
          try simp only [List.getElem_toArray, List.getElem_cons_succ, List.getElem_cons_zero, Act.put, List.setIfInBounds_toArray, List.set_cons_zero, List.set_cons_succ]
          refine wpAnyH_take (i := 30) (v := ?_) rfl (by kernel_rfl) (by kernel_rfl) (by kernel_rfl) CalmP.onlyN_panic (Or.inl ⟨by kernel_rfl, ?_⟩) (by assumption) ?_
          rotate_left
          · (intro w_ hSw; have s0 := (hSw.cell (p := ⟨g, 0, none⟩) (Nat.lt_succ_self g)).trans kv0; have sr0 := (hSw.cell (p := ⟨ab, ao + k * 3, none⟩) (show ab < g + 1 by omega)).trans r0; have sr1 := (hSw.cell (p := ⟨ab, ao + k * 3 + 1, none⟩) (show ab < g + 1 by omega)).trans r1; have sr2 := (hSw.cell (p := ⟨ab, ao + k * 3 + 2, none⟩) (show ab < g + 1 by omega)).trans r2; go_simp; try with_reducible rfl)
          try simp only [List.getElem_toArray, List.getElem_cons_succ, List.getElem_cons_zero, Act.put, List.setIfInBounds_toArray, List.set_cons_zero, List.set_cons_succ]
          refine wpAnyH_take (i := 31) (v := ?_) rfl (by kernel_rfl) (by kernel_rfl) (by kernel_rfl) CalmP.onlyN_panic (Or.inl ⟨by kernel_rfl, ?_⟩) (by assumption) ?_
          rotate_left
          · (intro w_ hSw; have s0 := (hSw.cell (p := ⟨g, 0, none⟩) (Nat.lt_succ_self g)).trans kv0; have sr0 := (hSw.cell (p := ⟨ab, ao + k * 3, none⟩) (show ab < g + 1 by omega)).trans r0; have sr1 := (hSw.cell (p := ⟨ab, ao + k * 3 + 1, none⟩) (show ab < g + 1 by omega)).trans r1; have sr2 := (hSw.cell (p := ⟨ab, ao + k * 3 + 2, none⟩) (show ab < g + 1 by omega)).trans r2; go_simp; try with_reducible rfl)
          try simp only [List.getElem_toArray, List.getElem_cons_succ, List.getElem_cons_zero, Act.put, List.setIfInBounds_toArray, List.set_cons_zero, List.set_cons_succ]
          refine wpAnyH_done (by kernel_rfl) ?_ _
          refine CalmP.onlyN_here (hQ.out _ _ ?_)
          clear hQ K0
          have hsn : s_6.data.toList = Scr.linesT ([cfgL ⟨fa, fb, fc, fd, fe, frs, ts, fas⟩] ++ (frs.take (k + 1)).map rtL) := by
            rw [list_take_snoc frs k hkl, List.map_append, ← List.append_assoc, Scr.linesT_app, ← HS0.out]
            simp only [List.map_cons, List.map_nil, linesT_one]
            rw [← HX.out]
            show _ = sb.data.toList ++ ((Scr.Ln.rt x.1 x.2.1 x.2.2).text ++ [10])
            rw [scr_rtT, ← hs_6, ← hs_5, ← hs_4, ← hs_3, ← hs_2, ← hs_1, ← hs_0]
            simp only [ByteArray.data_append, Array.toList_append, d0, d1, d2]
            simp [numsT, Scr.wRt, Scr.wTy, Scr.wAc]
          go_wp2_with fail
          go_roundw
          case rel => exact ⟨k + 1, _, by omega, by go_num, rfl, hsn, bc27⟩
          case measure => simp [intOf]; omega
        · obtain ⟨A29, c29, V28, hcv29, ho29, bv29⟩ := conv_ow V13 x1 (by omega)
          go_simp
          have rdn29 := ho29.rd
          have bc30 : Below (g + 1) v4 V28 := bc15.trans (bv29.mono (by have := bc15.size; omega))
          have rd31 := rd_rise (rdn14.below bv29) bv29.size
          refine hK.out _ _ bc30 (fun hHeld => ?_)
          clear hK K_ hcv29
          try simp only [List.getElem_toArray, List.getElem_cons_succ, List.getElem_cons_zero, Act.put, List.setIfInBounds_toArray, List.set_cons_zero, List.set_cons_succ]
          refine wpAnyH_ready (rs := [9]) (by kernel_rfl) (by simp) ?_
          refine AllReadyH.cons rfl (fun K_ hK => ?_) AllReadyH.nil
          go_simp
          refine (q0 _ _ _ _ V28 rd31 (Nat.le_refl _)).mono ?_
          rintro e V32 ⟨rfl, bh33⟩
          have bc34 : Below (g + 1) v4 V32 := bc30.trans (bh33.mono (by have := bc30.size; omega))
          have rd35 := rd_rise (rdn29.below bh33) bh33.size
          refine hK.out _ _ bc34 (fun hHeld => ?_)
          clear hK K_
          try simp only [List.getElem_toArray, List.getElem_cons_succ, List.getElem_cons_zero, Act.put, List.setIfInBounds_toArray, List.set_cons_zero, List.set_cons_succ]
          refine wpAnyH_take (i := 10) (v := ?_) rfl (by kernel_rfl) (by kernel_rfl) (by kernel_rfl) CalmP.onlyN_panic (Or.inl ⟨by kernel_rfl, ?_⟩) (by assumption) ?_
          rotate_left
          · (intro w_ hSw; have s0 := (hSw.cell (p := ⟨g, 0, none⟩) (Nat.lt_succ_self g)).trans kv0; have sr0 := (hSw.cell (p := ⟨ab, ao + k * 3, none⟩) (show ab < g + 1 by omega)).trans r0; have sr1 := (hSw.cell (p := ⟨ab, ao + k * 3 + 1, none⟩) (show ab < g + 1 by omega)).trans r1; have sr2 := (hSw.cell (p := ⟨ab, ao + k * 3 + 2, none⟩) (show ab < g + 1 by omega)).trans r2; go_simp; try with_reducible rfl)
          try simp only [List.getElem_toArray, List.getElem_cons_succ, List.getElem_cons_zero, Act.put, List.setIfInBounds_toArray, List.set_cons_zero, List.set_cons_succ]
          refine wpAnyH_take (i := 11) (v := ?_) rfl (by kernel_rfl) (by kernel_rfl) (by kernel_rfl) CalmP.onlyN_panic (Or.inl ⟨by kernel_rfl, ?_⟩) (by assumption) ?_
          rotate_left
          · (intro w_ hSw; have s0 := (hSw.cell (p := ⟨g, 0, none⟩) (Nat.lt_succ_self g)).trans kv0; have sr0 := (hSw.cell (p := ⟨ab, ao + k * 3, none⟩) (show ab < g + 1 by omega)).trans r0; have sr1 := (hSw.cell (p := ⟨ab, ao + k * 3 + 1, none⟩) (show ab < g + 1 by omega)).trans r1; have sr2 := (hSw.cell (p := ⟨ab, ao + k * 3 + 2, none⟩) (show ab < g + 1 by omega)).trans r2; go_simp; try with_reducible rfl)
          try simp only [List.getElem_toArray, List.getElem_cons_succ, List.getElem_cons_zero, Act.put, List.setIfInBounds_toArray, List.set_cons_zero, List.set_cons_succ]
          refine wpAnyH_ready (rs := [19]) (by kernel_rfl) (by simp) ?_
          refine AllReadyH.cons rfl (fun K_ hK => ?_) AllReadyH.nil
          go_simp
          refine (q1 _ _ _ _ V32 rd35 (Nat.le_refl _)).mono ?_
          rintro e V36 ⟨rfl, bh37⟩
          have bc38 : Below (g + 1) v4 V36 := bc34.trans (bh37.mono (by have := bc34.size; omega))
          refine hK.out _ _ bc38 (fun hHeld => ?_)
          clear hK K_
          try simp only [List.getElem_toArray, List.getElem_cons_succ, List.getElem_cons_zero, Act.put, List.setIfInBounds_toArray, List.set_cons_zero, List.set_cons_succ]
          refine wpAnyH_take (i := 20) (v := ?_) rfl (by kernel_rfl) (by kernel_rfl) (by kernel_rfl) CalmP.onlyN_panic (Or.inl ⟨by kernel_rfl, ?_⟩) (by assumption) ?_
          rotate_left
          · (intro w_ hSw; have s0 := (hSw.cell (p := ⟨g, 0, none⟩) (Nat.lt_succ_self g)).trans kv0; have sr0 := (hSw.cell (p := ⟨ab, ao + k * 3, none⟩) (show ab < g + 1 by omega)).trans r0; have sr1 := (hSw.cell (p := ⟨ab, ao + k * 3 + 1, none⟩) (show ab < g + 1 by omega)).trans r1; have sr2 := (hSw.cell (p := ⟨ab, ao + k * 3 + 2, none⟩) (show ab < g + 1 by omega)).trans r2; go_simp; try with_reducible rfl)
          try simp only [List.getElem_toArray, List.getElem_cons_succ, List.getElem_cons_zero, Act.put, List.setIfInBounds_toArray, List.set_cons_zero, List.set_cons_succ]
          refine wpAnyH_take (i := 21) (v := ?_) rfl (by kernel_rfl) (by kernel_rfl) (by kernel_rfl) CalmP.onlyN_panic (Or.inl ⟨by kernel_rfl, ?_⟩) (by assumption) ?_
          rotate_left
          · (intro w_ hSw; have s0 := (hSw.cell (p := ⟨g, 0, none⟩) (Nat.lt_succ_self g)).trans kv0; have sr0 := (hSw.cell (p := ⟨ab, ao + k * 3, none⟩) (show ab < g + 1 by omega)).trans r0; have sr1 := (hSw.cell (p := ⟨ab, ao + k * 3 + 1, none⟩) (show ab < g + 1 by omega)).trans r1; have sr2 := (hSw.cell (p := ⟨ab, ao + k * 3 + 2, none⟩) (show ab < g + 1 by omega)).trans r2; go_simp; try with_reducible rfl)
          try simp only [List.getElem_toArray, List.getElem_cons_succ, List.getElem_cons_zero, Act.put, List.setIfInBounds_toArray, List.set_cons_zero, List.set_cons_succ]
          refine wpAnyH_ready (rs := [28]) (by kernel_rfl) (by simp) ?_
          refine AllReadyH.cons rfl (fun K_ hK => ?_) AllReadyH.nil
          go_simp
          refine (q2 V36).mono ?_
          rintro e V39 ⟨rfl, bh40⟩
          have bc41 : Below (g + 1) v4 V39 := bc38.trans (bh40.mono (by have := bc38.size; omega))
          refine hK.out _ _ bc41 (fun hHeld => ?_)
          clear hK K_
          try simp only [List.getElem_toArray, List.getElem_cons_succ, List.getElem_cons_zero, Act.put, List.setIfInBounds_toArray, List.set_cons_zero, List.set_cons_succ]
          refine wpAnyH_take (i := 29) (v := ?_) rfl (by kernel_rfl) (by kernel_rfl) (by kernel_rfl) CalmP.onlyN_panic (Or.inl ⟨by kernel_rfl, ?_⟩) (by assumption) ?_
          rotate_left
          · (intro w_ hSw; have s0 := (hSw.cell (p := ⟨g, 0, none⟩) (Nat.lt_succ_self g)).trans kv0; have sr0 := (hSw.cell (p := ⟨ab, ao + k * 3, none⟩) (show ab < g + 1 by omega)).trans r0; have sr1 := (hSw.cell (p := ⟨ab, ao + k * 3 + 1, none⟩) (show ab < g + 1 by omega)).trans r1; have sr2 := (hSw.cell (p := ⟨ab, ao + k * 3 + 2, none⟩) (show ab < g + 1 by omega)).trans r2; go_simp; try with_reducible rfl)
          try simp only [List.getElem_toArray, List.getElem_cons_succ, List.getElem_cons_zero, Act.put, List.setIfInBounds_toArray, List.set_cons_zero, List.set_cons_succ]
          refine wpAnyH_take (i := 30) (v := ?_) rfl (by kernel_rfl) (by kernel_rfl) (by kernel_rfl) CalmP.onlyN_panic (Or.inl ⟨by kernel_rfl, ?_⟩) (by assumption) ?_
          rotate_left
          · (intro w_ hSw; have s0 := (hSw.cell (p := ⟨g, 0, none⟩) (Nat.lt_succ_self g)).trans kv0; have sr0 := (hSw.cell (p := ⟨ab, ao + k * 3, none⟩) (show ab < g + 1 by omega)).trans r0; have sr1 := (hSw.cell (p := ⟨ab, ao + k * 3 + 1, none⟩) (show ab < g + 1 by omega)).trans r1; have sr2 := (hSw.cell (p := ⟨ab, ao + k * 3 + 2, none⟩) (show ab < g + 1 by omega)).trans r2; go_simp; try with_reducible rfl)
          try simp only [List.getElem_toArray, List.getElem_cons_succ, List.getElem_cons_zero, Act.put, List.setIfInBounds_toArray, List.set_cons_zero, List.set_cons_succ]
          refine wpAnyH_take (i := 31) (v := ?_) rfl (by kernel_rfl) (by kernel_rfl) (by kernel_rfl) CalmP.onlyN_panic (Or.inl ⟨by kernel_rfl, ?_⟩) (by assumption) ?_
          rotate_left
          · (intro w_ hSw; have s0 := (hSw.cell (p := ⟨g, 0, none⟩) (Nat.lt_succ_self g)).trans kv0; have sr0 := (hSw.cell (p := ⟨ab, ao + k * 3, none⟩) (show ab < g + 1 by omega)).trans r0; have sr1 := (hSw.cell (p := ⟨ab, ao + k * 3 + 1, none⟩) (show ab < g + 1 by omega)).trans r1; have sr2 := (hSw.cell (p := ⟨ab, ao + k * 3 + 2, none⟩) (show ab < g + 1 by omega)).trans r2; go_simp; try with_reducible rfl)
          try simp only [List.getElem_toArray, List.getElem_cons_succ, List.getElem_cons_zero, Act.put, List.setIfInBounds_toArray, List.set_cons_zero, List.set_cons_succ]
          refine wpAnyH_done (by kernel_rfl) ?_ _
          refine CalmP.onlyN_here (hQ.out _ _ ?_)
          clear hQ K0
          have hsn : s_6.data.toList = Scr.linesT ([cfgL ⟨fa, fb, fc, fd, fe, frs, ts, fas⟩] ++ (frs.take (k + 1)).map rtL) := by
            rw [list_take_snoc frs k hkl, List.map_append, ← List.append_assoc, Scr.linesT_app, ← HS0.out]
            simp only [List.map_cons, List.map_nil, linesT_one]
            rw [← HX.out]
            show _ = sb.data.toList ++ ((Scr.Ln.rt x.1 x.2.1 x.2.2).text ++ [10])
            rw [scr_rtT, ← hs_6, ← hs_5, ← hs_4, ← hs_3, ← hs_2, ← hs_1, ← hs_0]
            simp only [ByteArray.data_append, Array.toList_append, d0, d1, d2]
            simp [numsT, Scr.wRt, Scr.wTy, Scr.wAc]
          go_wp2_with fail
          go_roundw
          case rel => exact ⟨k + 1, _, by omega, by go_num, rfl, hsn, bc41⟩
          case measure => simp [intOf]; omega
      · obtain ⟨A43, c43, V42, hcv43, ho43, bv43⟩ := conv_ow wr.drew x1 (by omega)
        go_simp
        have rdn43 := ho43.rd
        have bc44 : Below (g + 1) v4 V42 := hbd.trans (bv43.mono (by have := hbd.size; omega))
        refine hK.out _ _ bc44 (fun hHeld => ?_)
        clear hK K_ hcv43
        try simp only [List.getElem_toArray, List.getElem_cons_succ, List.getElem_cons_zero, Act.put, List.setIfInBounds_toArray, List.set_cons_zero, List.set_cons_succ]
        refine wpAnyH_ready (rs := [8]) (by kernel_rfl) (by simp) ?_
        refine AllReadyH.cons rfl (fun K_ hK => ?_) AllReadyH.nil
        obtain ⟨A46, c46, V45, hcv46, ho46, bv46⟩ := conv_ow V42 x0 (by omega)
        go_simp
        have rdn46 := ho46.rd
        have bc47 : Below (g + 1) v4 V45 := bc44.trans (bv46.mono (by have := bc44.size; omega))
        have rd48 := rd_rise (rdn43.below bv46) bv46.size
        refine hK.out _ _ bc47 (fun hHeld => ?_)
        clear hK K_ hcv46
        try simp only [List.getElem_toArray, List.getElem_cons_succ, List.getElem_cons_zero, Act.put, List.setIfInBounds_toArray, List.set_cons_zero, List.set_cons_succ]
        refine wpAnyH_ready (rs := [9]) (by kernel_rfl) (by simp) ?_
        refine AllReadyH.cons rfl (fun K_ hK => ?_) AllReadyH.nil
        go_simp
        refine (q0 _ _ _ _ V45 rdn46 (Nat.le_refl _)).mono ?_
        rintro e V49 ⟨rfl, bh50⟩
        have bc51 : Below (g + 1) v4 V49 := bc47.trans (bh50.mono (by have := bc47.size; omega))
        have rd52 := rd_rise (rd48.below bh50) bh50.size
        refine hK.out _ _ bc51 (fun hHeld => ?_)
        clear hK K_
        try simp only [List.getElem_toArray, List.getElem_cons_succ, List.getElem_cons_zero, Act.put, List.setIfInBounds_toArray, List.set_cons_zero, List.set_cons_succ]
        refine wpAnyH_take (i := 10) (v := ?_) rfl (by kernel_rfl) (by kernel_rfl) (by kernel_rfl) CalmP.onlyN_panic (Or.inl ⟨by kernel_rfl, ?_⟩) (by assumption) ?_
        rotate_left
        · (intro w_ hSw; have s0 := (hSw.cell (p := ⟨g, 0, none⟩) (Nat.lt_succ_self g)).trans kv0; have sr0 := (hSw.cell (p := ⟨ab, ao + k * 3, none⟩) (show ab < g + 1 by omega)).trans r0; have sr1 := (hSw.cell (p := ⟨ab, ao + k * 3 + 1, none⟩) (show ab < g + 1 by omega)).trans r1; have sr2 := (hSw.cell (p := ⟨ab, ao + k * 3 + 2, none⟩) (show ab < g + 1 by omega)).trans r2; go_simp; try with_reducible rfl)
        try simp only [List.getElem_toArray, List.getElem_cons_succ, List.getElem_cons_zero, Act.put, List.setIfInBounds_toArray, List.set_cons_zero, List.set_cons_succ]
        refine wpAnyH_take (i := 11) (v := ?_) rfl (by kernel_rfl) (by kernel_rfl) (by kernel_rfl) CalmP.onlyN_panic (Or.inl ⟨by kernel_rfl, ?_⟩) (by assumption) ?_
        rotate_left
        · (intro w_ hSw; have s0 := (hSw.cell (p := ⟨g, 0, none⟩) (Nat.lt_succ_self g)).trans kv0; have sr0 := (hSw.cell (p := ⟨ab, ao + k * 3, none⟩) (show ab < g + 1 by omega)).trans r0; have sr1 := (hSw.cell (p := ⟨ab, ao + k * 3 + 1, none⟩) (show ab < g + 1 by omega)).trans r1; have sr2 := (hSw.cell (p := ⟨ab, ao + k * 3 + 2, none⟩) (show ab < g + 1 by omega)).trans r2; go_simp; try with_reducible rfl)
        try simp only [List.getElem_toArray, List.getElem_cons_succ, List.getElem_cons_zero, Act.put, List.setIfInBounds_toArray, List.set_cons_zero, List.set_cons_succ]
        refine wpAnyH_ready (rs := [19]) (by kernel_rfl) (by simp) ?_
        refine AllReadyH.cons rfl (fun K_ hK => ?_) AllReadyH.nil
        go_simp
        refine (q1 _ _ _ _ V49 rd52 (Nat.le_refl _)).mono ?_
        rintro e V53 ⟨rfl, bh54⟩
        have bc55 : Below (g + 1) v4 V53 := bc51.trans (bh54.mono (by have := bc51.size; omega))
        refine hK.out _ _ bc55 (fun hHeld => ?_)
        clear hK K_
        try simp only [List.getElem_toArray, List.getElem_cons_succ, List.getElem_cons_zero, Act.put, List.setIfInBounds_toArray, List.set_cons_zero, List.set_cons_succ]
        refine wpAnyH_take (i := 20) (v := ?_) rfl (by kernel_rfl) (by kernel_rfl) (by kernel_rfl) CalmP.onlyN_panic (Or.inl ⟨by kernel_rfl, ?_⟩) (by assumption) ?_
        rotate_left
        · (intro w_ hSw; have s0 := (hSw.cell (p := ⟨g, 0, none⟩) (Nat.lt_succ_self g)).trans kv0; have sr0 := (hSw.cell (p := ⟨ab, ao + k * 3, none⟩) (show ab < g + 1 by omega)).trans r0; have sr1 := (hSw.cell (p := ⟨ab, ao + k * 3 + 1, none⟩) (show ab < g + 1 by omega)).trans r1; have sr2 := (hSw.cell (p := ⟨ab, ao + k * 3 + 2, none⟩) (show ab < g + 1 by omega)).trans r2; go_simp; try with_reducible rfl)
        try simp only [List.getElem_toArray, List.getElem_cons_succ, List.getElem_cons_zero, Act.put, List.setIfInBounds_toArray, List.set_cons_zero, List.set_cons_succ]
        refine wpAnyH_take (i := 21) (v := ?_) rfl (by kernel_rfl) (by kernel_rfl) (by kernel_rfl) CalmP.onlyN_panic (Or.inl ⟨by kernel_rfl, ?_⟩) (by assumption) ?_
        rotate_left
        · (intro w_ hSw; have s0 := (hSw.cell (p := ⟨g, 0, none⟩) (Nat.lt_succ_self g)).trans kv0; have sr0 := (hSw.cell (p := ⟨ab, ao + k * 3, none⟩) (show ab < g + 1 by omega)).trans r0; have sr1 := (hSw.cell (p := ⟨ab, ao + k * 3 + 1, none⟩) (show ab < g + 1 by omega)).trans r1; have sr2 := (hSw.cell (p := ⟨ab, ao + k * 3 + 2, none⟩) (show ab < g + 1 by omega)).trans r2; go_simp; try with_reducible rfl)
        try simp only [List.getElem_toArray, List.getElem_cons_succ, List.getElem_cons_zero, Act.put, List.setIfInBounds_toArray, List.set_cons_zero, List.set_cons_succ]
        refine wpAnyH_ready (rs := [28]) (by kernel_rfl) (by simp) ?_
        refine AllReadyH.cons rfl (fun K_ hK => ?_) AllReadyH.nil
        go_simp
        refine (q2 V53).mono ?_
        rintro e V56 ⟨rfl, bh57⟩
        have bc58 : Below (g + 1) v4 V56 := bc55.trans (bh57.mono (by have := bc55.size; omega))
        refine hK.out _ _ bc58 (fun hHeld => ?_)
        clear hK K_
        try simp only [List.getElem_toArray, List.getElem_cons_succ, List.getElem_cons_zero, Act.put, List.setIfInBounds_toArray, List.set_cons_zero, List.set_cons_succ]
        refine wpAnyH_take (i := 29) (v := ?_) rfl (by kernel_rfl) (by kernel_rfl) (by kernel_rfl) CalmP.onlyN_panic (Or.inl ⟨by kernel_rfl, ?_⟩) (by assumption) ?_
        rotate_left
        · (intro w_ hSw; have s0 := (hSw.cell (p := ⟨g, 0, none⟩) (Nat.lt_succ_self g)).trans kv0; have sr0 := (hSw.cell (p := ⟨ab, ao + k * 3, none⟩) (show ab < g + 1 by omega)).trans r0; have sr1 := (hSw.cell (p := ⟨ab, ao + k * 3 + 1, none⟩) (show ab < g + 1 by omega)).trans r1; have sr2 := (hSw.cell (p := ⟨ab, ao + k * 3 + 2, none⟩) (show ab < g + 1 by omega)).trans r2; go_simp; try with_reducible rfl)
        try simp only [List.getElem_toArray, List.getElem_cons_succ, List.getElem_cons_zero, Act.put, List.setIfInBounds_toArray, List.set_cons_zero, List.set_cons_succ]
        refine wpAnyH_take (i := 30) (v := ?_) rfl (by kernel_rfl) (by kernel_rfl) (by kernel_rfl) CalmP.onlyN_panic (Or.inl ⟨by kernel_rfl, ?_⟩) (by assumption) ?_
        rotate_left
        · (intro w_ hSw; have s0 := (hSw.cell (p := ⟨g, 0, none⟩) (Nat.lt_succ_self g)).trans kv0; have sr0 := (hSw.cell (p := ⟨ab, ao + k * 3, none⟩) (show ab < g + 1 by omega)).trans r0; have sr1 := (hSw.cell (p := ⟨ab, ao + k * 3 + 1, none⟩) (show ab < g + 1 by omega)).trans r1; have sr2 := (hSw.cell (p := ⟨ab, ao + k * 3 + 2, none⟩) (show ab < g + 1 by omega)).trans r2; go_simp; try with_reducible rfl)
        try simp only [List.getElem_toArray, List.getElem_cons_succ, List.getElem_cons_zero, Act.put, List.setIfInBounds_toArray, List.set_cons_zero, List.set_cons_succ]
        refine wpAnyH_take (i := 31) (v := ?_) rfl (by kernel_rfl) (by kernel_rfl) (by kernel_rfl) CalmP.onlyN_panic (Or.inl ⟨by kernel_rfl, ?_⟩) (by assumption) ?_
        rotate_left
        · (intro w_ hSw; have s0 := (hSw.cell (p := ⟨g, 0, none⟩) (Nat.lt_succ_self g)).trans kv0; have sr0 := (hSw.cell (p := ⟨ab, ao + k * 3, none⟩) (show ab < g + 1 by omega)).trans r0; have sr1 := (hSw.cell (p := ⟨ab, ao + k * 3 + 1, none⟩) (show ab < g + 1 by omega)).trans r1; have sr2 := (hSw.cell (p := ⟨ab, ao + k * 3 + 2, none⟩) (show ab < g + 1 by omega)).trans r2; go_simp; try with_reducible rfl)
        try simp only [List.getElem_toArray, List.getElem_cons_succ, List.getElem_cons_zero, Act.put, List.setIfInBounds_toArray, List.set_cons_zero, List.set_cons_succ]
        refine wpAnyH_done (by kernel_rfl) ?_ _
        refine CalmP.onlyN_here (hQ.out _ _ ?_)
        clear hQ K0
        have hsn : s_6.data.toList = Scr.linesT ([cfgL ⟨fa, fb, fc, fd, fe, frs, ts, fas⟩] ++ (frs.take (k + 1)).map rtL) := by
          rw [list_take_snoc frs k hkl, List.map_append, ← List.append_assoc, Scr.linesT_app, ← HS0.out]
          simp only [List.map_cons, List.map_nil, linesT_one]
          rw [← HX.out]
          show _ = sb.data.toList ++ ((Scr.Ln.rt x.1 x.2.1 x.2.2).text ++ [10])
          rw [scr_rtT, ← hs_6, ← hs_5, ← hs_4, ← hs_3, ← hs_2, ← hs_1, ← hs_0]
          simp only [ByteArray.data_append, Array.toList_append, d0, d1, d2]
          simp [numsT, Scr.wRt, Scr.wTy, Scr.wAc]
        go_wp2_with fail
        go_roundw
        case rel => exact ⟨k + 1, _, by omega, by go_num, rfl, hsn, bc58⟩
        case measure => simp [intOf]; omega
    · have hlt' : ¬ (k : Int) < (nR : Int) := by omega
      have hall : frs.take k = frs := List.take_of_length_le (by have := (HC.out v4 t4).nR; simp only [List.length_map] at this; omega)
      rw [hall] at hs0
      clear hall
      go_wp2_with fail
      go_loopw [5, 7] (fun sv iv wr => ∃ (k : Nat) (sb : ByteArray), k ≤ nT ∧ iv = .int .i64 k ∧ sv = .string sb ∧ sb.data.toList = Scr.linesT (([cfgL ⟨fa, fb, fc, fd, fe, frs, ts, fas⟩] ++ frs.map rtL) ++ (ts.take k).map Scr.Ln.ty) ∧ Below (g + 1) v4 wr) (fun _ iv _ => nT - (intOf iv).toNat)
      case atStart => exact ⟨0, _, Nat.zero_le _, rfl, rfl, by simpa using hs0, hbs⟩
      case round =>
        clear hs0 hbs
        obtain ⟨k, sb, hk, rfl, rfl, hs0, hbs⟩ := hrel
        have hbx := Box.below3 bx4 hbs (Nat.lt_succ_self g)
        obtain ⟨k0, -⟩ := hbx.2 0 _ rfl
        obtain ⟨k1, -⟩ := hbx.2 1 _ rfl
        have hz : sb.size ≤ 4194304 := by
          have e : sb.size = sb.data.toList.length := by rw [Array.length_toList]; rfl
          rw [e, hs0]
          refine Nat.le_trans ?_ hlen
          rw [HLT.out]
          exact pre_ty _ k
        by_cases hlt : k < nT
        · have hlt' : (k : Int) < (nT : Int) := by omega
          have HS0 := hide hs0
          clear hs0
          have hkl : k < ts.length := by have := (HC.out v4 t4).nT; simp only at this; omega
          obtain ⟨ax, hAT, hab, r0⟩ := Rd.text (HC.out wr (t4.trans (hbs.mono (by omega)))).2 hlt hkl
          have hsum := mem_totT ts ts[k] (List.getElem_mem hkl)
          simp only at r0 hAT
          obtain ⟨x, hx⟩ : ∃ x, x = ts[k] := ⟨_, rfl⟩
          rw [← hx] at r0 hsum
          have HX := hide hx
          obtain ⟨y0, d0, w0_, q0⟩ := hex_is x (by omega)
          obtain ⟨x0, hx0⟩ : ∃ y : ByteArray, y = ⟨x.toArray⟩ := ⟨_, rfl⟩
          have hx0s : x0.size ≤ 1000000 := by rw [hx0]; simp only [ByteArray.size, List.size_toArray]; omega
          rw [← hx0] at r0
          have X0 : x = x0.data.toList := by rw [hx0]
          rw [X0] at q0
          clear hx hx0 hsum X0
          subst hAT
          obtain ⟨A7, c7, v7, hcv7, ho7, bv7⟩ := conv_ow wr x0 (by omega)
          have q7 := q0 _ _ c7 _ v7 ho7.rd (Nat.le_refl _)
          have hb7 : Below (g + 1) v4 v7 := hbs.trans (bv7.mono (by have := hbs.size; have := bx4.1; omega))
          clear ho7
          have e1_0 : (⟨#[116, 121, 112, 101, 32]⟩ : ByteArray).size = 5 := rfl
          obtain ⟨s_0, hs_0⟩ : ∃ z : ByteArray, (sb : ByteArray) ++ ⟨#[116, 121, 112, 101, 32]⟩ = z := ⟨_, rfl⟩
          have hbs_0 : s_0.size ≤ 30000000 := by rw [← hs_0, ByteArray.size_append]; omega
          have hcs_0 : ¬ (9223372036854775807 < sb.size + 5) := by omega
          clear e1_0
          obtain ⟨s_1, hs_1⟩ : ∃ z : ByteArray, (s_0 : ByteArray) ++ y0 = z := ⟨_, rfl⟩
          have hbs_1 : s_1.size ≤ 60000000 := by rw [← hs_1, ByteArray.size_append]; omega
          have hcs_1 : ¬ (9223372036854775807 < s_0.size + y0.size) := by omega
          have e1_2 : (⟨#[10]⟩ : ByteArray).size = 1 := rfl
          obtain ⟨s_2, hs_2⟩ : ∃ z : ByteArray, (s_1 : ByteArray) ++ ⟨#[10]⟩ = z := ⟨_, rfl⟩
          have hbs_2 : s_2.size ≤ 90000000 := by rw [← hs_2, ByteArray.size_append]; omega
          have hcs_2 : ¬ (9223372036854775807 < s_1.size + 1) := by omega
          clear e1_2
          go_wp2_with fail
          refine q7.mono ?_
          rintro e v8 ⟨rfl, b8⟩
          have hb8 : Below (g + 1) v4 v8 := hb7.trans (b8.mono (by have := hb7.size; have := bx4.1; omega))
          clear q7 hcv7
          have hsn : s_2.data.toList = Scr.linesT (([cfgL ⟨fa, fb, fc, fd, fe, frs, ts, fas⟩] ++ frs.map rtL) ++ (ts.take (k + 1)).map Scr.Ln.ty) := by
            rw [list_take_snoc ts k hkl, List.map_append, ← List.append_assoc, Scr.linesT_app, ← HS0.out]
            simp only [List.map_cons, List.map_nil, linesT_one]
            rw [← HX.out]
            show _ = sb.data.toList ++ ((Scr.Ln.ty x).text ++ [10])
            rw [scr_tyT, ← hs_2, ← hs_1, ← hs_0]
            simp only [ByteArray.data_append, Array.toList_append, d0]
            simp [numsT, Scr.wRt, Scr.wTy, Scr.wAc]
          go_wp2_with fail
          go_roundw
          case rel => exact ⟨k + 1, _, by omega, by go_num, rfl, hsn, hb8⟩
          case measure => simp [intOf]; omega
        · have hlt' : ¬ (k : Int) < (nT : Int) := by omega
          have hall : ts.take k = ts := List.take_of_length_le (by have := (HC.out v4 t4).nT; simp only at this; omega)
          rw [hall] at hs0
          clear hall
          go_wp2_with fail
          go_loopw [5, 8] (fun sv iv wr => ∃ (k : Nat) (sb : ByteArray), k ≤ nA ∧ iv = .int .i64 k ∧ sv = .string sb ∧ sb.data.toList = Scr.linesT (([cfgL ⟨fa, fb, fc, fd, fe, frs, ts, fas⟩] ++ frs.map rtL ++ ts.map Scr.Ln.ty) ++ (fas.take k).map acL) ∧ Below (g + 1) v4 wr) (fun _ iv _ => nA - (intOf iv).toNat)
          case atStart => exact ⟨0, _, Nat.zero_le _, rfl, rfl, by simpa using hs0, hbs⟩
          case round =>
            clear hs0 hbs
            obtain ⟨k, sb, hk, rfl, rfl, hs0, hbs⟩ := hrel
            have hbx := Box.below3 bx4 hbs (Nat.lt_succ_self g)
            obtain ⟨k0, -⟩ := hbx.2 0 _ rfl
            obtain ⟨k1, -⟩ := hbx.2 1 _ rfl
            have hz : sb.size ≤ 4194304 := by
              have e : sb.size = sb.data.toList.length := by rw [Array.length_toList]; rfl
              rw [e, hs0]
              refine Nat.le_trans ?_ hlen
              rw [HLT.out]
              exact pre_ac _ k
            by_cases hlt : k < nA
            · have hlt' : (k : Int) < (nA : Int) := by omega
              have HS0 := hide hs0
              clear hs0
              obtain ⟨hl, hl2, ab, ao, hAA, hab, r0, r1, r2, r3, prd⟩ := (HS.out v4 t4).ac hlt
              simp only [List.getElem_map] at r0 r1 r2 r3 prd
              have hkl : k < fas.length := by simpa using hl
              have hsum := mem_totA (fas.map fun a => ((a.1 : Int), (a.2.1 : Int), (a.2.2.1 : Int), a.2.2.2)) (((fas[k]).1 : Int), ((fas[k]).2.1 : Int), ((fas[k]).2.2.1 : Int), (fas[k]).2.2.2) (List.mem_map.2 ⟨fas[k], List.getElem_mem hkl, rfl⟩)
              have hzz := hfa.out fas[k] (List.getElem_mem hkl)
              obtain ⟨x, hx⟩ : ∃ x, x = fas[k] := ⟨_, rfl⟩
              rw [← hx] at r0 r1 r2 r3 prd hsum hzz
              have HX := hide hx
              change x.1 ≤ Scr.maxI ∧ x.2.1 ≤ Scr.maxI ∧ x.2.2.1 ≤ Scr.maxI at hzz
              simp only at hsum
              obtain ⟨y0, d0, w0_, q0⟩ := dec_is x.1 hzz.1
              obtain ⟨y1, d1, w1_, q1⟩ := dec_is x.2.1 hzz.2.1
              obtain ⟨y2, d2, w2_, q2⟩ := dec_is x.2.2.1 hzz.2.2
              obtain ⟨y3, d3, w3_, q3⟩ := hex_is x.2.2.2 (by omega)
              obtain ⟨z0, hz0⟩ : ∃ y, y = x.1 := ⟨_, rfl⟩
              obtain ⟨z1, hz1⟩ : ∃ y, y = x.2.1 := ⟨_, rfl⟩
              obtain ⟨z2, hz2⟩ : ∃ y, y = x.2.2.1 := ⟨_, rfl⟩
              obtain ⟨pl, hpl⟩ : ∃ y, y = x.2.2.2 := ⟨_, rfl⟩
              rw [← hz0] at r0 q0
              rw [← hz1] at r1 q1
              rw [← hz2] at r2 q2
              rw [← hpl] at r3 prd q3
              obtain ⟨pA, hpA⟩ : ∃ y, y = (ps[k]).1 := ⟨_, rfl⟩
              obtain ⟨pc, hpc⟩ : ∃ y, y = (ps[k]).2 := ⟨_, rfl⟩
              rw [← hpA] at prd
              rw [← hpA, ← hpc] at r3
              clear hx hz0 hz1 hz2 hpl hpA hpc hsum
              subst hAA
              have hg4 : g + 1 ≤ v4.heap.size := bx4.1
              have hgr : g + 1 ≤ wr.heap.size := by have := hbs.size; omega
              have e1_0 : (⟨#[97, 99, 116, 32]⟩ : ByteArray).size = 4 := rfl
              obtain ⟨s_0, hs_0⟩ : ∃ z : ByteArray, (sb : ByteArray) ++ ⟨#[97, 99, 116, 32]⟩ = z := ⟨_, rfl⟩
              have hbs_0 : s_0.size ≤ 30000000 := by rw [← hs_0, ByteArray.size_append]; omega
              have hcs_0 : ¬ (9223372036854775807 < sb.size + 4) := by omega
              clear e1_0
              obtain ⟨s_1, hs_1⟩ : ∃ z : ByteArray, (s_0 : ByteArray) ++ y0 = z := ⟨_, rfl⟩
              have hbs_1 : s_1.size ≤ 60000000 := by rw [← hs_1, ByteArray.size_append]; omega
              have hcs_1 : ¬ (9223372036854775807 < s_0.size + y0.size) := by omega
              have e1_2 : (⟨#[32]⟩ : ByteArray).size = 1 := rfl
              obtain ⟨s_2, hs_2⟩ : ∃ z : ByteArray, (s_1 : ByteArray) ++ ⟨#[32]⟩ = z := ⟨_, rfl⟩
              have hbs_2 : s_2.size ≤ 90000000 := by rw [← hs_2, ByteArray.size_append]; omega
              have hcs_2 : ¬ (9223372036854775807 < s_1.size + 1) := by omega
              clear e1_2
              obtain ⟨s_3, hs_3⟩ : ∃ z : ByteArray, (s_2 : ByteArray) ++ y1 = z := ⟨_, rfl⟩
              have hbs_3 : s_3.size ≤ 120000000 := by rw [← hs_3, ByteArray.size_append]; omega
              have hcs_3 : ¬ (9223372036854775807 < s_2.size + y1.size) := by omega
              have e1_4 : (⟨#[32]⟩ : ByteArray).size = 1 := rfl
              obtain ⟨s_4, hs_4⟩ : ∃ z : ByteArray, (s_3 : ByteArray) ++ ⟨#[32]⟩ = z := ⟨_, rfl⟩
              have hbs_4 : s_4.size ≤ 150000000 := by rw [← hs_4, ByteArray.size_append]; omega
              have hcs_4 : ¬ (9223372036854775807 < s_3.size + 1) := by omega
              clear e1_4
              obtain ⟨s_5, hs_5⟩ : ∃ z : ByteArray, (s_4 : ByteArray) ++ y2 = z := ⟨_, rfl⟩
              have hbs_5 : s_5.size ≤ 180000000 := by rw [← hs_5, ByteArray.size_append]; omega
              have hcs_5 : ¬ (9223372036854775807 < s_4.size + y2.size) := by omega
              have e1_6 : (⟨#[32]⟩ : ByteArray).size = 1 := rfl
              obtain ⟨s_6, hs_6⟩ : ∃ z : ByteArray, (s_5 : ByteArray) ++ ⟨#[32]⟩ = z := ⟨_, rfl⟩
              have hbs_6 : s_6.size ≤ 210000000 := by rw [← hs_6, ByteArray.size_append]; omega
              have hcs_6 : ¬ (9223372036854775807 < s_5.size + 1) := by omega
              clear e1_6
              obtain ⟨s_7, hs_7⟩ : ∃ z : ByteArray, (s_6 : ByteArray) ++ y3 = z := ⟨_, rfl⟩
              have hbs_7 : s_7.size ≤ 240000000 := by rw [← hs_7, ByteArray.size_append]; omega
              have hcs_7 : ¬ (9223372036854775807 < s_6.size + y3.size) := by omega
              have e1_8 : (⟨#[10]⟩ : ByteArray).size = 1 := rfl
              obtain ⟨s_8, hs_8⟩ : ∃ z : ByteArray, (s_7 : ByteArray) ++ ⟨#[10]⟩ = z := ⟨_, rfl⟩
              have hbs_8 : s_8.size ≤ 270000000 := by rw [← hs_8, ByteArray.size_append]; omega
              have hcs_8 : ¬ (9223372036854775807 < s_7.size + 1) := by omega
              clear e1_8
              have hbd : Below (g + 1) v4 wr.drew := hbs.trans (below_drewN (k := 1) (Below.refl _ _))
              go_upto_region 13 with (fail)
              refine CalmP.hideN (fun K0 hQ => ?_)
              refine wp_region_held_drew (S := (fun W : World => Below (g + 1) v4 W)) (by kernel_rfl) hbd (fun hHeld => ?_)
              refine wpAnyH_take (i := 0) (v := ?_) rfl (by kernel_rfl) (by kernel_rfl) (by kernel_rfl) CalmP.onlyN_panic (Or.inl ⟨by kernel_rfl, ?_⟩) (by assumption) ?_
              rotate_left
              · (intro w_ hSw; have sr0 := (hSw.cell (p := ⟨ab, ao + k * 4, none⟩) (show ab < g + 1 by omega)).trans r0; have sr1 := (hSw.cell (p := ⟨ab, ao + k * 4 + 1, none⟩) (show ab < g + 1 by omega)).trans r1; have sr2 := (hSw.cell (p := ⟨ab, ao + k * 4 + 2, none⟩) (show ab < g + 1 by omega)).trans r2; have sr3 := (hSw.cell (p := ⟨ab, ao + k * 4 + 3, none⟩) (show ab < g + 1 by omega)).trans r3; go_simp; try with_reducible rfl)
              try simp only [List.getElem_toArray, List.getElem_cons_succ, List.getElem_cons_zero, Act.put, List.setIfInBounds_toArray, List.set_cons_zero, List.set_cons_succ]
              refine wpAnyH_take (i := 1) (v := ?_) rfl (by kernel_rfl) (by kernel_rfl) (by kernel_rfl) CalmP.onlyN_panic (Or.inl ⟨by kernel_rfl, ?_⟩) (by assumption) ?_
              rotate_left
              · (intro w_ hSw; have sr0 := (hSw.cell (p := ⟨ab, ao + k * 4, none⟩) (show ab < g + 1 by omega)).trans r0; have sr1 := (hSw.cell (p := ⟨ab, ao + k * 4 + 1, none⟩) (show ab < g + 1 by omega)).trans r1; have sr2 := (hSw.cell (p := ⟨ab, ao + k * 4 + 2, none⟩) (show ab < g + 1 by omega)).trans r2; have sr3 := (hSw.cell (p := ⟨ab, ao + k * 4 + 3, none⟩) (show ab < g + 1 by omega)).trans r3; go_simp; try with_reducible rfl)
              try simp only [List.getElem_toArray, List.getElem_cons_succ, List.getElem_cons_zero, Act.put, List.setIfInBounds_toArray, List.set_cons_zero, List.set_cons_succ]
              refine wpAnyH_take (i := 2) (v := ?_) rfl (by kernel_rfl) (by kernel_rfl) (by kernel_rfl) CalmP.onlyN_panic (Or.inl ⟨by kernel_rfl, ?_⟩) (by assumption) ?_
              rotate_left
              · (intro w_ hSw; have sr0 := (hSw.cell (p := ⟨ab, ao + k * 4, none⟩) (show ab < g + 1 by omega)).trans r0; have sr1 := (hSw.cell (p := ⟨ab, ao + k * 4 + 1, none⟩) (show ab < g + 1 by omega)).trans r1; have sr2 := (hSw.cell (p := ⟨ab, ao + k * 4 + 2, none⟩) (show ab < g + 1 by omega)).trans r2; have sr3 := (hSw.cell (p := ⟨ab, ao + k * 4 + 3, none⟩) (show ab < g + 1 by omega)).trans r3; go_simp; try with_reducible rfl)
              try simp only [List.getElem_toArray, List.getElem_cons_succ, List.getElem_cons_zero, Act.put, List.setIfInBounds_toArray, List.set_cons_zero, List.set_cons_succ]
              refine wpAnyH_take (i := 3) (v := ?_) rfl (by kernel_rfl) (by kernel_rfl) (by kernel_rfl) CalmP.onlyN_panic (Or.inl ⟨by kernel_rfl, ?_⟩) (by assumption) ?_
              rotate_left
              · (intro w_ hSw; have sr0 := (hSw.cell (p := ⟨ab, ao + k * 4, none⟩) (show ab < g + 1 by omega)).trans r0; have sr1 := (hSw.cell (p := ⟨ab, ao + k * 4 + 1, none⟩) (show ab < g + 1 by omega)).trans r1; have sr2 := (hSw.cell (p := ⟨ab, ao + k * 4 + 2, none⟩) (show ab < g + 1 by omega)).trans r2; have sr3 := (hSw.cell (p := ⟨ab, ao + k * 4 + 3, none⟩) (show ab < g + 1 by omega)).trans r3; go_simp; try with_reducible rfl)
              try simp only [List.getElem_toArray, List.getElem_cons_succ, List.getElem_cons_zero, Act.put, List.setIfInBounds_toArray, List.set_cons_zero, List.set_cons_succ]
              refine wpAnyH_take (i := 4) (v := ?_) rfl (by kernel_rfl) (by kernel_rfl) (by kernel_rfl) CalmP.onlyN_panic (Or.inl ⟨by kernel_rfl, ?_⟩) (by assumption) ?_
              rotate_left
              · (intro w_ hSw; have sr0 := (hSw.cell (p := ⟨ab, ao + k * 4, none⟩) (show ab < g + 1 by omega)).trans r0; have sr1 := (hSw.cell (p := ⟨ab, ao + k * 4 + 1, none⟩) (show ab < g + 1 by omega)).trans r1; have sr2 := (hSw.cell (p := ⟨ab, ao + k * 4 + 2, none⟩) (show ab < g + 1 by omega)).trans r2; have sr3 := (hSw.cell (p := ⟨ab, ao + k * 4 + 3, none⟩) (show ab < g + 1 by omega)).trans r3; go_simp; try with_reducible rfl)
              try simp only [List.getElem_toArray, List.getElem_cons_succ, List.getElem_cons_zero, Act.put, List.setIfInBounds_toArray, List.set_cons_zero, List.set_cons_succ]
              refine wpAnyH_take (i := 5) (v := ?_) rfl (by kernel_rfl) (by kernel_rfl) (by kernel_rfl) CalmP.onlyN_panic (Or.inl ⟨by kernel_rfl, ?_⟩) (by assumption) ?_
              rotate_left
              · (intro w_ hSw; have sr0 := (hSw.cell (p := ⟨ab, ao + k * 4, none⟩) (show ab < g + 1 by omega)).trans r0; have sr1 := (hSw.cell (p := ⟨ab, ao + k * 4 + 1, none⟩) (show ab < g + 1 by omega)).trans r1; have sr2 := (hSw.cell (p := ⟨ab, ao + k * 4 + 2, none⟩) (show ab < g + 1 by omega)).trans r2; have sr3 := (hSw.cell (p := ⟨ab, ao + k * 4 + 3, none⟩) (show ab < g + 1 by omega)).trans r3; go_simp; try with_reducible rfl)
              try simp only [List.getElem_toArray, List.getElem_cons_succ, List.getElem_cons_zero, Act.put, List.setIfInBounds_toArray, List.set_cons_zero, List.set_cons_succ]
              refine wpAnyH_take (i := 6) (v := ?_) rfl (by kernel_rfl) (by kernel_rfl) (by kernel_rfl) CalmP.onlyN_panic (Or.inl ⟨by kernel_rfl, ?_⟩) (by assumption) ?_
              rotate_left
              · (intro w_ hSw; have sr0 := (hSw.cell (p := ⟨ab, ao + k * 4, none⟩) (show ab < g + 1 by omega)).trans r0; have sr1 := (hSw.cell (p := ⟨ab, ao + k * 4 + 1, none⟩) (show ab < g + 1 by omega)).trans r1; have sr2 := (hSw.cell (p := ⟨ab, ao + k * 4 + 2, none⟩) (show ab < g + 1 by omega)).trans r2; have sr3 := (hSw.cell (p := ⟨ab, ao + k * 4 + 3, none⟩) (show ab < g + 1 by omega)).trans r3; go_simp; try with_reducible rfl)
              try simp only [List.getElem_toArray, List.getElem_cons_succ, List.getElem_cons_zero, Act.put, List.setIfInBounds_toArray, List.set_cons_zero, List.set_cons_succ]
              refine wpAnyH_take (i := 10) (v := ?_) rfl (by kernel_rfl) (by kernel_rfl) (by kernel_rfl) CalmP.onlyN_panic (Or.inl ⟨by kernel_rfl, ?_⟩) (by assumption) ?_
              rotate_left
              · (intro w_ hSw; have sr0 := (hSw.cell (p := ⟨ab, ao + k * 4, none⟩) (show ab < g + 1 by omega)).trans r0; have sr1 := (hSw.cell (p := ⟨ab, ao + k * 4 + 1, none⟩) (show ab < g + 1 by omega)).trans r1; have sr2 := (hSw.cell (p := ⟨ab, ao + k * 4 + 2, none⟩) (show ab < g + 1 by omega)).trans r2; have sr3 := (hSw.cell (p := ⟨ab, ao + k * 4 + 3, none⟩) (show ab < g + 1 by omega)).trans r3; go_simp; try with_reducible rfl)
              try simp only [List.getElem_toArray, List.getElem_cons_succ, List.getElem_cons_zero, Act.put, List.setIfInBounds_toArray, List.set_cons_zero, List.set_cons_succ]
              refine wpAnyH_take (i := 11) (v := ?_) rfl (by kernel_rfl) (by kernel_rfl) (by kernel_rfl) CalmP.onlyN_panic (Or.inl ⟨by kernel_rfl, ?_⟩) (by assumption) ?_
              rotate_left
              · (intro w_ hSw; have sr0 := (hSw.cell (p := ⟨ab, ao + k * 4, none⟩) (show ab < g + 1 by omega)).trans r0; have sr1 := (hSw.cell (p := ⟨ab, ao + k * 4 + 1, none⟩) (show ab < g + 1 by omega)).trans r1; have sr2 := (hSw.cell (p := ⟨ab, ao + k * 4 + 2, none⟩) (show ab < g + 1 by omega)).trans r2; have sr3 := (hSw.cell (p := ⟨ab, ao + k * 4 + 3, none⟩) (show ab < g + 1 by omega)).trans r3; go_simp; try with_reducible rfl)
              try simp only [List.getElem_toArray, List.getElem_cons_succ, List.getElem_cons_zero, Act.put, List.setIfInBounds_toArray, List.set_cons_zero, List.set_cons_succ]
              refine wpAnyH_take (i := 12) (v := ?_) rfl (by kernel_rfl) (by kernel_rfl) (by kernel_rfl) CalmP.onlyN_panic (Or.inl ⟨by kernel_rfl, ?_⟩) (by assumption) ?_
              rotate_left
              · (intro w_ hSw; have sr0 := (hSw.cell (p := ⟨ab, ao + k * 4, none⟩) (show ab < g + 1 by omega)).trans r0; have sr1 := (hSw.cell (p := ⟨ab, ao + k * 4 + 1, none⟩) (show ab < g + 1 by omega)).trans r1; have sr2 := (hSw.cell (p := ⟨ab, ao + k * 4 + 2, none⟩) (show ab < g + 1 by omega)).trans r2; have sr3 := (hSw.cell (p := ⟨ab, ao + k * 4 + 3, none⟩) (show ab < g + 1 by omega)).trans r3; go_simp; try with_reducible rfl)
              try simp only [List.getElem_toArray, List.getElem_cons_succ, List.getElem_cons_zero, Act.put, List.setIfInBounds_toArray, List.set_cons_zero, List.set_cons_succ]
              refine wpAnyH_take (i := 13) (v := ?_) rfl (by kernel_rfl) (by kernel_rfl) (by kernel_rfl) CalmP.onlyN_panic (Or.inl ⟨by kernel_rfl, ?_⟩) (by assumption) ?_
              rotate_left
              · (intro w_ hSw; have sr0 := (hSw.cell (p := ⟨ab, ao + k * 4, none⟩) (show ab < g + 1 by omega)).trans r0; have sr1 := (hSw.cell (p := ⟨ab, ao + k * 4 + 1, none⟩) (show ab < g + 1 by omega)).trans r1; have sr2 := (hSw.cell (p := ⟨ab, ao + k * 4 + 2, none⟩) (show ab < g + 1 by omega)).trans r2; have sr3 := (hSw.cell (p := ⟨ab, ao + k * 4 + 3, none⟩) (show ab < g + 1 by omega)).trans r3; go_simp; try with_reducible rfl)
              try simp only [List.getElem_toArray, List.getElem_cons_succ, List.getElem_cons_zero, Act.put, List.setIfInBounds_toArray, List.set_cons_zero, List.set_cons_succ]
              refine wpAnyH_take (i := 14) (v := ?_) rfl (by kernel_rfl) (by kernel_rfl) (by kernel_rfl) CalmP.onlyN_panic (Or.inl ⟨by kernel_rfl, ?_⟩) (by assumption) ?_
              rotate_left
              · (intro w_ hSw; have sr0 := (hSw.cell (p := ⟨ab, ao + k * 4, none⟩) (show ab < g + 1 by omega)).trans r0; have sr1 := (hSw.cell (p := ⟨ab, ao + k * 4 + 1, none⟩) (show ab < g + 1 by omega)).trans r1; have sr2 := (hSw.cell (p := ⟨ab, ao + k * 4 + 2, none⟩) (show ab < g + 1 by omega)).trans r2; have sr3 := (hSw.cell (p := ⟨ab, ao + k * 4 + 3, none⟩) (show ab < g + 1 by omega)).trans r3; go_simp; try with_reducible rfl)
              try simp only [List.getElem_toArray, List.getElem_cons_succ, List.getElem_cons_zero, Act.put, List.setIfInBounds_toArray, List.set_cons_zero, List.set_cons_succ]
              refine wpAnyH_take (i := 18) (v := ?_) rfl (by kernel_rfl) (by kernel_rfl) (by kernel_rfl) CalmP.onlyN_panic (Or.inl ⟨by kernel_rfl, ?_⟩) (by assumption) ?_
              rotate_left
              · (intro w_ hSw; have sr0 := (hSw.cell (p := ⟨ab, ao + k * 4, none⟩) (show ab < g + 1 by omega)).trans r0; have sr1 := (hSw.cell (p := ⟨ab, ao + k * 4 + 1, none⟩) (show ab < g + 1 by omega)).trans r1; have sr2 := (hSw.cell (p := ⟨ab, ao + k * 4 + 2, none⟩) (show ab < g + 1 by omega)).trans r2; have sr3 := (hSw.cell (p := ⟨ab, ao + k * 4 + 3, none⟩) (show ab < g + 1 by omega)).trans r3; go_simp; try with_reducible rfl)
              try simp only [List.getElem_toArray, List.getElem_cons_succ, List.getElem_cons_zero, Act.put, List.setIfInBounds_toArray, List.set_cons_zero, List.set_cons_succ]
              refine wpAnyH_take (i := 19) (v := ?_) rfl (by kernel_rfl) (by kernel_rfl) (by kernel_rfl) CalmP.onlyN_panic (Or.inl ⟨by kernel_rfl, ?_⟩) (by assumption) ?_
              rotate_left
              · (intro w_ hSw; have sr0 := (hSw.cell (p := ⟨ab, ao + k * 4, none⟩) (show ab < g + 1 by omega)).trans r0; have sr1 := (hSw.cell (p := ⟨ab, ao + k * 4 + 1, none⟩) (show ab < g + 1 by omega)).trans r1; have sr2 := (hSw.cell (p := ⟨ab, ao + k * 4 + 2, none⟩) (show ab < g + 1 by omega)).trans r2; have sr3 := (hSw.cell (p := ⟨ab, ao + k * 4 + 3, none⟩) (show ab < g + 1 by omega)).trans r3; go_simp; try with_reducible rfl)
              try simp only [List.getElem_toArray, List.getElem_cons_succ, List.getElem_cons_zero, Act.put, List.setIfInBounds_toArray, List.set_cons_zero, List.set_cons_succ]
              refine wpAnyH_take (i := 20) (v := ?_) rfl (by kernel_rfl) (by kernel_rfl) (by kernel_rfl) CalmP.onlyN_panic (Or.inl ⟨by kernel_rfl, ?_⟩) (by assumption) ?_
              rotate_left
              · (intro w_ hSw; have sr0 := (hSw.cell (p := ⟨ab, ao + k * 4, none⟩) (show ab < g + 1 by omega)).trans r0; have sr1 := (hSw.cell (p := ⟨ab, ao + k * 4 + 1, none⟩) (show ab < g + 1 by omega)).trans r1; have sr2 := (hSw.cell (p := ⟨ab, ao + k * 4 + 2, none⟩) (show ab < g + 1 by omega)).trans r2; have sr3 := (hSw.cell (p := ⟨ab, ao + k * 4 + 3, none⟩) (show ab < g + 1 by omega)).trans r3; go_simp; try with_reducible rfl)
              try simp only [List.getElem_toArray, List.getElem_cons_succ, List.getElem_cons_zero, Act.put, List.setIfInBounds_toArray, List.set_cons_zero, List.set_cons_succ]
              refine wpAnyH_take (i := 21) (v := ?_) rfl (by kernel_rfl) (by kernel_rfl) (by kernel_rfl) CalmP.onlyN_panic (Or.inl ⟨by kernel_rfl, ?_⟩) (by assumption) ?_
              rotate_left
              · (intro w_ hSw; have sr0 := (hSw.cell (p := ⟨ab, ao + k * 4, none⟩) (show ab < g + 1 by omega)).trans r0; have sr1 := (hSw.cell (p := ⟨ab, ao + k * 4 + 1, none⟩) (show ab < g + 1 by omega)).trans r1; have sr2 := (hSw.cell (p := ⟨ab, ao + k * 4 + 2, none⟩) (show ab < g + 1 by omega)).trans r2; have sr3 := (hSw.cell (p := ⟨ab, ao + k * 4 + 3, none⟩) (show ab < g + 1 by omega)).trans r3; go_simp; try with_reducible rfl)
              try simp only [List.getElem_toArray, List.getElem_cons_succ, List.getElem_cons_zero, Act.put, List.setIfInBounds_toArray, List.set_cons_zero, List.set_cons_succ]
              refine wpAnyH_take (i := 22) (v := ?_) rfl (by kernel_rfl) (by kernel_rfl) (by kernel_rfl) CalmP.onlyN_panic (Or.inl ⟨by kernel_rfl, ?_⟩) (by assumption) ?_
              rotate_left
              · (intro w_ hSw; have sr0 := (hSw.cell (p := ⟨ab, ao + k * 4, none⟩) (show ab < g + 1 by omega)).trans r0; have sr1 := (hSw.cell (p := ⟨ab, ao + k * 4 + 1, none⟩) (show ab < g + 1 by omega)).trans r1; have sr2 := (hSw.cell (p := ⟨ab, ao + k * 4 + 2, none⟩) (show ab < g + 1 by omega)).trans r2; have sr3 := (hSw.cell (p := ⟨ab, ao + k * 4 + 3, none⟩) (show ab < g + 1 by omega)).trans r3; go_simp; try with_reducible rfl)
              try simp only [List.getElem_toArray, List.getElem_cons_succ, List.getElem_cons_zero, Act.put, List.setIfInBounds_toArray, List.set_cons_zero, List.set_cons_succ]
              refine wpAnyH_take (i := 26) (v := ?_) rfl (by kernel_rfl) (by kernel_rfl) (by kernel_rfl) CalmP.onlyN_panic (Or.inl ⟨by kernel_rfl, ?_⟩) (by assumption) ?_
              rotate_left
              · (intro w_ hSw; have sr0 := (hSw.cell (p := ⟨ab, ao + k * 4, none⟩) (show ab < g + 1 by omega)).trans r0; have sr1 := (hSw.cell (p := ⟨ab, ao + k * 4 + 1, none⟩) (show ab < g + 1 by omega)).trans r1; have sr2 := (hSw.cell (p := ⟨ab, ao + k * 4 + 2, none⟩) (show ab < g + 1 by omega)).trans r2; have sr3 := (hSw.cell (p := ⟨ab, ao + k * 4 + 3, none⟩) (show ab < g + 1 by omega)).trans r3; go_simp; try with_reducible rfl)
              try simp only [List.getElem_toArray, List.getElem_cons_succ, List.getElem_cons_zero, Act.put, List.setIfInBounds_toArray, List.set_cons_zero, List.set_cons_succ]
              refine wpAnyH_take (i := 27) (v := ?_) rfl (by kernel_rfl) (by kernel_rfl) (by kernel_rfl) CalmP.onlyN_panic (Or.inl ⟨by kernel_rfl, ?_⟩) (by assumption) ?_
              rotate_left
              · (intro w_ hSw; have sr0 := (hSw.cell (p := ⟨ab, ao + k * 4, none⟩) (show ab < g + 1 by omega)).trans r0; have sr1 := (hSw.cell (p := ⟨ab, ao + k * 4 + 1, none⟩) (show ab < g + 1 by omega)).trans r1; have sr2 := (hSw.cell (p := ⟨ab, ao + k * 4 + 2, none⟩) (show ab < g + 1 by omega)).trans r2; have sr3 := (hSw.cell (p := ⟨ab, ao + k * 4 + 3, none⟩) (show ab < g + 1 by omega)).trans r3; go_simp; try with_reducible rfl)
              try simp only [List.getElem_toArray, List.getElem_cons_succ, List.getElem_cons_zero, Act.put, List.setIfInBounds_toArray, List.set_cons_zero, List.set_cons_succ]
              refine wpAnyH_take (i := 28) (v := ?_) rfl (by kernel_rfl) (by kernel_rfl) (by kernel_rfl) CalmP.onlyN_panic (Or.inl ⟨by kernel_rfl, ?_⟩) (by assumption) ?_
              rotate_left
              · (intro w_ hSw; have sr0 := (hSw.cell (p := ⟨ab, ao + k * 4, none⟩) (show ab < g + 1 by omega)).trans r0; have sr1 := (hSw.cell (p := ⟨ab, ao + k * 4 + 1, none⟩) (show ab < g + 1 by omega)).trans r1; have sr2 := (hSw.cell (p := ⟨ab, ao + k * 4 + 2, none⟩) (show ab < g + 1 by omega)).trans r2; have sr3 := (hSw.cell (p := ⟨ab, ao + k * 4 + 3, none⟩) (show ab < g + 1 by omega)).trans r3; go_simp; try with_reducible rfl)
              try simp only [List.getElem_toArray, List.getElem_cons_succ, List.getElem_cons_zero, Act.put, List.setIfInBounds_toArray, List.set_cons_zero, List.set_cons_succ]
              refine wpAnyH_take (i := 29) (v := ?_) rfl (by kernel_rfl) (by kernel_rfl) (by kernel_rfl) CalmP.onlyN_panic (Or.inl ⟨by kernel_rfl, ?_⟩) (by assumption) ?_
              rotate_left
              · (intro w_ hSw; have sr0 := (hSw.cell (p := ⟨ab, ao + k * 4, none⟩) (show ab < g + 1 by omega)).trans r0; have sr1 := (hSw.cell (p := ⟨ab, ao + k * 4 + 1, none⟩) (show ab < g + 1 by omega)).trans r1; have sr2 := (hSw.cell (p := ⟨ab, ao + k * 4 + 2, none⟩) (show ab < g + 1 by omega)).trans r2; have sr3 := (hSw.cell (p := ⟨ab, ao + k * 4 + 3, none⟩) (show ab < g + 1 by omega)).trans r3; go_simp; try with_reducible rfl)
              try simp only [List.getElem_toArray, List.getElem_cons_succ, List.getElem_cons_zero, Act.put, List.setIfInBounds_toArray, List.set_cons_zero, List.set_cons_succ]
              refine wpAnyH_take (i := 30) (v := ?_) rfl (by kernel_rfl) (by kernel_rfl) (by kernel_rfl) CalmP.onlyN_panic (Or.inl ⟨by kernel_rfl, ?_⟩) (by assumption) ?_
              rotate_left
              · (intro w_ hSw; have sr0 := (hSw.cell (p := ⟨ab, ao + k * 4, none⟩) (show ab < g + 1 by omega)).trans r0; have sr1 := (hSw.cell (p := ⟨ab, ao + k * 4 + 1, none⟩) (show ab < g + 1 by omega)).trans r1; have sr2 := (hSw.cell (p := ⟨ab, ao + k * 4 + 2, none⟩) (show ab < g + 1 by omega)).trans r2; have sr3 := (hSw.cell (p := ⟨ab, ao + k * 4 + 3, none⟩) (show ab < g + 1 by omega)).trans r3; go_simp; try with_reducible rfl)
              try simp only [List.getElem_toArray, List.getElem_cons_succ, List.getElem_cons_zero, Act.put, List.setIfInBounds_toArray, List.set_cons_zero, List.set_cons_succ]
              refine wpAnyH_ready (rs := [7]) (by kernel_rfl) (by simp) ?_
              refine AllReadyH.cons rfl (fun K_ hK => ?_) AllReadyH.nil
              go_simp
              refine (q0 wr.drew).mono ?_
              rintro e V1 ⟨rfl, bh2⟩
              have bc3 : Below (g + 1) v4 V1 := hbd.trans (bh2.mono (by have := hbd.size; omega))
              refine hK.out _ _ bc3 (fun hHeld => ?_)
              clear hK K_
              try simp only [List.getElem_toArray, List.getElem_cons_succ, List.getElem_cons_zero, Act.put, List.setIfInBounds_toArray, List.set_cons_zero, List.set_cons_succ]
              refine wpAnyH_take (i := 8) (v := ?_) rfl (by kernel_rfl) (by kernel_rfl) (by kernel_rfl) CalmP.onlyN_panic (Or.inl ⟨by kernel_rfl, ?_⟩) (by assumption) ?_
              rotate_left
              · (intro w_ hSw; have sr0 := (hSw.cell (p := ⟨ab, ao + k * 4, none⟩) (show ab < g + 1 by omega)).trans r0; have sr1 := (hSw.cell (p := ⟨ab, ao + k * 4 + 1, none⟩) (show ab < g + 1 by omega)).trans r1; have sr2 := (hSw.cell (p := ⟨ab, ao + k * 4 + 2, none⟩) (show ab < g + 1 by omega)).trans r2; have sr3 := (hSw.cell (p := ⟨ab, ao + k * 4 + 3, none⟩) (show ab < g + 1 by omega)).trans r3; go_simp; try with_reducible rfl)
              try simp only [List.getElem_toArray, List.getElem_cons_succ, List.getElem_cons_zero, Act.put, List.setIfInBounds_toArray, List.set_cons_zero, List.set_cons_succ]
              refine wpAnyH_take (i := 9) (v := ?_) rfl (by kernel_rfl) (by kernel_rfl) (by kernel_rfl) CalmP.onlyN_panic (Or.inl ⟨by kernel_rfl, ?_⟩) (by assumption) ?_
              rotate_left
              · (intro w_ hSw; have sr0 := (hSw.cell (p := ⟨ab, ao + k * 4, none⟩) (show ab < g + 1 by omega)).trans r0; have sr1 := (hSw.cell (p := ⟨ab, ao + k * 4 + 1, none⟩) (show ab < g + 1 by omega)).trans r1; have sr2 := (hSw.cell (p := ⟨ab, ao + k * 4 + 2, none⟩) (show ab < g + 1 by omega)).trans r2; have sr3 := (hSw.cell (p := ⟨ab, ao + k * 4 + 3, none⟩) (show ab < g + 1 by omega)).trans r3; go_simp; try with_reducible rfl)
              try simp only [List.getElem_toArray, List.getElem_cons_succ, List.getElem_cons_zero, Act.put, List.setIfInBounds_toArray, List.set_cons_zero, List.set_cons_succ]
              refine wpAnyH_ready (rs := [15]) (by kernel_rfl) (by simp) ?_
              refine AllReadyH.cons rfl (fun K_ hK => ?_) AllReadyH.nil
              go_simp
              refine (q1 V1).mono ?_
              rintro e V4 ⟨rfl, bh5⟩
              have bc6 : Below (g + 1) v4 V4 := bc3.trans (bh5.mono (by have := bc3.size; omega))
              refine hK.out _ _ bc6 (fun hHeld => ?_)
              clear hK K_
              try simp only [List.getElem_toArray, List.getElem_cons_succ, List.getElem_cons_zero, Act.put, List.setIfInBounds_toArray, List.set_cons_zero, List.set_cons_succ]
              refine wpAnyH_take (i := 16) (v := ?_) rfl (by kernel_rfl) (by kernel_rfl) (by kernel_rfl) CalmP.onlyN_panic (Or.inl ⟨by kernel_rfl, ?_⟩) (by assumption) ?_
              rotate_left
              · (intro w_ hSw; have sr0 := (hSw.cell (p := ⟨ab, ao + k * 4, none⟩) (show ab < g + 1 by omega)).trans r0; have sr1 := (hSw.cell (p := ⟨ab, ao + k * 4 + 1, none⟩) (show ab < g + 1 by omega)).trans r1; have sr2 := (hSw.cell (p := ⟨ab, ao + k * 4 + 2, none⟩) (show ab < g + 1 by omega)).trans r2; have sr3 := (hSw.cell (p := ⟨ab, ao + k * 4 + 3, none⟩) (show ab < g + 1 by omega)).trans r3; go_simp; try with_reducible rfl)
              try simp only [List.getElem_toArray, List.getElem_cons_succ, List.getElem_cons_zero, Act.put, List.setIfInBounds_toArray, List.set_cons_zero, List.set_cons_succ]
              refine wpAnyH_take (i := 17) (v := ?_) rfl (by kernel_rfl) (by kernel_rfl) (by kernel_rfl) CalmP.onlyN_panic (Or.inl ⟨by kernel_rfl, ?_⟩) (by assumption) ?_
              rotate_left
              · (intro w_ hSw; have sr0 := (hSw.cell (p := ⟨ab, ao + k * 4, none⟩) (show ab < g + 1 by omega)).trans r0; have sr1 := (hSw.cell (p := ⟨ab, ao + k * 4 + 1, none⟩) (show ab < g + 1 by omega)).trans r1; have sr2 := (hSw.cell (p := ⟨ab, ao + k * 4 + 2, none⟩) (show ab < g + 1 by omega)).trans r2; have sr3 := (hSw.cell (p := ⟨ab, ao + k * 4 + 3, none⟩) (show ab < g + 1 by omega)).trans r3; go_simp; try with_reducible rfl)
              try simp only [List.getElem_toArray, List.getElem_cons_succ, List.getElem_cons_zero, Act.put, List.setIfInBounds_toArray, List.set_cons_zero, List.set_cons_succ]
              refine wpAnyH_ready (rs := [23]) (by kernel_rfl) (by simp) ?_
              refine AllReadyH.cons rfl (fun K_ hK => ?_) AllReadyH.nil
              go_simp
              refine (q2 V4).mono ?_
              rintro e V7 ⟨rfl, bh8⟩
              have bc9 : Below (g + 1) v4 V7 := bc6.trans (bh8.mono (by have := bc6.size; omega))
              refine hK.out _ _ bc9 (fun hHeld => ?_)
              clear hK K_
              try simp only [List.getElem_toArray, List.getElem_cons_succ, List.getElem_cons_zero, Act.put, List.setIfInBounds_toArray, List.set_cons_zero, List.set_cons_succ]
              refine wpAnyH_take (i := 24) (v := ?_) rfl (by kernel_rfl) (by kernel_rfl) (by kernel_rfl) CalmP.onlyN_panic (Or.inl ⟨by kernel_rfl, ?_⟩) (by assumption) ?_
              rotate_left
              · (intro w_ hSw; have sr0 := (hSw.cell (p := ⟨ab, ao + k * 4, none⟩) (show ab < g + 1 by omega)).trans r0; have sr1 := (hSw.cell (p := ⟨ab, ao + k * 4 + 1, none⟩) (show ab < g + 1 by omega)).trans r1; have sr2 := (hSw.cell (p := ⟨ab, ao + k * 4 + 2, none⟩) (show ab < g + 1 by omega)).trans r2; have sr3 := (hSw.cell (p := ⟨ab, ao + k * 4 + 3, none⟩) (show ab < g + 1 by omega)).trans r3; go_simp; try with_reducible rfl)
              try simp only [List.getElem_toArray, List.getElem_cons_succ, List.getElem_cons_zero, Act.put, List.setIfInBounds_toArray, List.set_cons_zero, List.set_cons_succ]
              refine wpAnyH_take (i := 25) (v := ?_) rfl (by kernel_rfl) (by kernel_rfl) (by kernel_rfl) CalmP.onlyN_panic (Or.inl ⟨by kernel_rfl, ?_⟩) (by assumption) ?_
              rotate_left
              · (intro w_ hSw; have sr0 := (hSw.cell (p := ⟨ab, ao + k * 4, none⟩) (show ab < g + 1 by omega)).trans r0; have sr1 := (hSw.cell (p := ⟨ab, ao + k * 4 + 1, none⟩) (show ab < g + 1 by omega)).trans r1; have sr2 := (hSw.cell (p := ⟨ab, ao + k * 4 + 2, none⟩) (show ab < g + 1 by omega)).trans r2; have sr3 := (hSw.cell (p := ⟨ab, ao + k * 4 + 3, none⟩) (show ab < g + 1 by omega)).trans r3; go_simp; try with_reducible rfl)
              try simp only [List.getElem_toArray, List.getElem_cons_succ, List.getElem_cons_zero, Act.put, List.setIfInBounds_toArray, List.set_cons_zero, List.set_cons_succ]
              refine wpAnyH_ready (rs := [31]) (by kernel_rfl) (by simp) ?_
              refine AllReadyH.cons rfl (fun K_ hK => ?_) AllReadyH.nil
              go_simp
              refine (q3 _ _ _ B V7 (prd.below (bc9.mono (by omega))) (by have := bc9.size; omega)).mono ?_
              rintro e V10 ⟨rfl, bh11⟩
              have bc12 : Below (g + 1) v4 V10 := bc9.trans (bh11.mono (by have := bc9.size; omega))
              refine hK.out _ _ bc12 (fun hHeld => ?_)
              clear hK K_
              try simp only [List.getElem_toArray, List.getElem_cons_succ, List.getElem_cons_zero, Act.put, List.setIfInBounds_toArray, List.set_cons_zero, List.set_cons_succ]
              refine wpAnyH_take (i := 32) (v := ?_) rfl (by kernel_rfl) (by kernel_rfl) (by kernel_rfl) CalmP.onlyN_panic (Or.inl ⟨by kernel_rfl, ?_⟩) (by assumption) ?_
              rotate_left
              · (intro w_ hSw; have sr0 := (hSw.cell (p := ⟨ab, ao + k * 4, none⟩) (show ab < g + 1 by omega)).trans r0; have sr1 := (hSw.cell (p := ⟨ab, ao + k * 4 + 1, none⟩) (show ab < g + 1 by omega)).trans r1; have sr2 := (hSw.cell (p := ⟨ab, ao + k * 4 + 2, none⟩) (show ab < g + 1 by omega)).trans r2; have sr3 := (hSw.cell (p := ⟨ab, ao + k * 4 + 3, none⟩) (show ab < g + 1 by omega)).trans r3; go_simp; try with_reducible rfl)
              try simp only [List.getElem_toArray, List.getElem_cons_succ, List.getElem_cons_zero, Act.put, List.setIfInBounds_toArray, List.set_cons_zero, List.set_cons_succ]
              refine wpAnyH_take (i := 33) (v := ?_) rfl (by kernel_rfl) (by kernel_rfl) (by kernel_rfl) CalmP.onlyN_panic (Or.inl ⟨by kernel_rfl, ?_⟩) (by assumption) ?_
              rotate_left
              · (intro w_ hSw; have sr0 := (hSw.cell (p := ⟨ab, ao + k * 4, none⟩) (show ab < g + 1 by omega)).trans r0; have sr1 := (hSw.cell (p := ⟨ab, ao + k * 4 + 1, none⟩) (show ab < g + 1 by omega)).trans r1; have sr2 := (hSw.cell (p := ⟨ab, ao + k * 4 + 2, none⟩) (show ab < g + 1 by omega)).trans r2; have sr3 := (hSw.cell (p := ⟨ab, ao + k * 4 + 3, none⟩) (show ab < g + 1 by omega)).trans r3; go_simp; try with_reducible rfl)
              try simp only [List.getElem_toArray, List.getElem_cons_succ, List.getElem_cons_zero, Act.put, List.setIfInBounds_toArray, List.set_cons_zero, List.set_cons_succ]
              refine wpAnyH_take (i := 34) (v := ?_) rfl (by kernel_rfl) (by kernel_rfl) (by kernel_rfl) CalmP.onlyN_panic (Or.inl ⟨by kernel_rfl, ?_⟩) (by assumption) ?_
              rotate_left
              · (intro w_ hSw; have sr0 := (hSw.cell (p := ⟨ab, ao + k * 4, none⟩) (show ab < g + 1 by omega)).trans r0; have sr1 := (hSw.cell (p := ⟨ab, ao + k * 4 + 1, none⟩) (show ab < g + 1 by omega)).trans r1; have sr2 := (hSw.cell (p := ⟨ab, ao + k * 4 + 2, none⟩) (show ab < g + 1 by omega)).trans r2; have sr3 := (hSw.cell (p := ⟨ab, ao + k * 4 + 3, none⟩) (show ab < g + 1 by omega)).trans r3; go_simp; try with_reducible rfl)
              try simp only [List.getElem_toArray, List.getElem_cons_succ, List.getElem_cons_zero, Act.put, List.setIfInBounds_toArray, List.set_cons_zero, List.set_cons_succ]
              refine wpAnyH_done (by kernel_rfl) ?_ _
              refine CalmP.onlyN_here (hQ.out _ _ ?_)
              clear hQ K0
              have hsn : s_8.data.toList = Scr.linesT (([cfgL ⟨fa, fb, fc, fd, fe, frs, ts, fas⟩] ++ frs.map rtL ++ ts.map Scr.Ln.ty) ++ (fas.take (k + 1)).map acL) := by
                rw [list_take_snoc fas k hkl, List.map_append, ← List.append_assoc, Scr.linesT_app, ← HS0.out]
                simp only [List.map_cons, List.map_nil, linesT_one]
                rw [← HX.out]
                show _ = sb.data.toList ++ ((Scr.Ln.ac x.1 x.2.1 x.2.2.1 x.2.2.2).text ++ [10])
                rw [scr_acT, ← hs_8, ← hs_7, ← hs_6, ← hs_5, ← hs_4, ← hs_3, ← hs_2, ← hs_1, ← hs_0]
                simp only [ByteArray.data_append, Array.toList_append, d0, d1, d2, d3]
                simp [numsT, Scr.wRt, Scr.wTy, Scr.wAc]
              go_wp2_with fail
              go_roundw
              case rel => exact ⟨k + 1, _, by omega, by go_num, rfl, hsn, bc12⟩
              case measure => simp [intOf]; omega
            · have hlt' : ¬ (k : Int) < (nA : Int) := by omega
              have hall : fas.take k = fas := List.take_of_length_le (by have := (HS.out v4 t4).nA; simp only [List.length_map] at this; omega)
              rw [hall] at hs0
              clear hall
              have hfinal : sb.data.toList = LT := by
                rw [hs0, HLT.out, lines_is]; simp only [List.singleton_append, List.cons_append, List.append_assoc, List.nil_append]
              have hLB : sb = ⟨LT.toArray⟩ := bytes_ext (by rw [hfinal])
              have HLB := hide hLB
              clear hLB hs0
              go_wp2_with fail
              go_ret
              exact ⟨by rw [← HLB.out]; rfl, t4.trans (hbs.mono (by omega))⟩
end Go.Proofs.YtbgbggodjhbgbaaDoor
