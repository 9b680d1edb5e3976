/- concertinalaw26.GateTimes: the walk. -/
import Derived.Test.YtijlaclngibekaaGreatDoorKGtLaw
import Derived.Test.YtijlaclngibekaaGreatDoorKConfigG
import Derived.Test.YtijlaclngibekaaGreatDoorKGtNew
import Derived.Test.YtijlaclngibekaaGreatDoorKGtDo
import Derived.Test.YtijlaclngibekaaGreatDoorKRefRead
import Derived.Test.YtijlaclngibekaaGreatDoorKGateWork
import Derived.Test.YtijlaclngibekaaGreatDoorKLaid8
namespace Go.Proofs.YtijlaclngibekaaGreatDoor.GateTimesP
open Go.RowKit
set_option linter.unusedVariables false
set_option linter.unusedSimpArgs false

theorem cfgz_of {C : CfgA} (h : CfgB C) : CfgZ C := by
  obtain ⟨h1, h2, h3, h4, -⟩ := h
  have e2 : reachBytes ≤ 140737488355328 := by decide
  exact ⟨by omega, by omega, fun r hr => ⟨by have := h3 r hr; omega, by have := h3 r hr; omega⟩, fun t ht => by have := h4 t ht; omega⟩
theorem gtwork_still (g0 p mb c s r2 Bf : Nat) (T idle turn : Int) (os : List UInt8) (w : World) (hG : GateC w g0 p mb c Bf T) (h : ConnC w p c s r2 Bf os idle turn) :
    Calls Tryz.prog 16 #[.pointer (some ⟨p, 0, none⟩)] w fun e w' => e = .returned (.tuple #[]) ∧ w = w' := by
  refine (gtwork_st (fun i W => i = 0 ∧ W = w) p mb c g0 Bf T 0 w (fun i W h1 => by rw [h1.2]; exact hG) ?_ ⟨rfl, rfl⟩).mono ?_
  · rintro i W ⟨rfl, rfl⟩
    exact ⟨true, (h.box.2 3 _ rfl).1, by simp, by simp⟩
  · rintro e w' ⟨rfl, ⟨-, h1⟩, -⟩
    exact ⟨rfl, h1.symm⟩
theorem conv_bytesG (W : World) (s : ByteArray) (hs : s.size ≤ 1000000) :
    ∃ A c w', (convert 9 35 (.string s)).run Tryz.prog W = .ok (.slice (some A) s.size c) w' ∧ Rd w' w'.heap.size 1 (some A) s.size (bcells s.data.toList) ∧ s.size ≤ c ∧ Below W.heap.size W w' := by
  have hcv := run_bytes_of_string (P := Tryz.prog) W 9 35 5 s Tryz.underlying9 Tryz.underlying35 Tryz.underlying5
  obtain ⟨c, hc⟩ : ∃ c, c = grownCap W s.size 0 5 := ⟨_, rfl⟩
  have hc1 : s.size ≤ c := by rw [hc]; exact grownCap_ge _ _ _ _
  have hc2 : c ≤ maxLen := by rw [hc]; exact grownCap_le_maxLen _ _ _ _ (by simp [maxLen]; omega)
  rw [← hc] at hcv
  have ho := ow_of_string W 5 s c hc1 hc2
  exact ⟨_, _, _, hcv, ho.rd, hc1, (Below.refl _ _).drew.alloc (Nat.le_refl _) _⟩
theorem ConnA.keep0 {w w' : World} {p c s r1 r2 Bf : Nat} {bs os : List UInt8} {sh : Bool} {idle turn : Int} (h : ConnA w p c s r1 r2 Bf bs os sh idle turn) (hs : Stay w w' []) : ConnA w' p c s r1 r2 Bf bs os sh idle turn := by
  obtain ⟨hx, ⟨d1, hs1, hd1⟩, ⟨d2, hr, hd2⟩, ho⟩ := h
  exact ⟨hx.stay hs (by simp), ⟨d1, side_kept hs1 hs (by simp) (by simp) (by simp), hd1⟩, ⟨d2, ring_kept hr hs (by simp) (by simp), hd2⟩, ho⟩
theorem ConnC.keep0 {w w' : World} {p c s r2 Bf : Nat} {os : List UInt8} {idle turn : Int} (h : ConnC w p c s r2 Bf os idle turn) (hs : Stay w w' []) : ConnC w' p c s r2 Bf os idle turn := by
  obtain ⟨hx, ⟨d2, hr, hd2⟩, ho⟩ := h
  exact ⟨hx.stay hs (by simp), ⟨d2, ring_kept hr hs (by simp) (by simp), hd2⟩, ho⟩
theorem ConnB.keep0 {w w' : World} {p c s r1 r2 x s3 r3 r4 b Bf : Nat} {idle turn : Int} (h : ConnB w p c s r1 r2 x s3 r3 r4 b Bf true idle turn) (hs : Stay w w' []) : ConnB w' p c s r1 r2 x s3 r3 r4 b Bf true idle turn := by
  obtain ⟨hx, hside, ⟨d2, hr2, hd2⟩, ⟨vf, vk, vl, v12, v13, hex⟩, ⟨d3, hs3⟩, ⟨n, d4, xs, hr, hnn, hd4⟩, ho, ho2⟩ := h
  obtain ⟨d1, hs1⟩ : ∃ d, IsSide w s r1 Bf false d [] := by simpa [SideS] using hside
  exact ⟨hx.stay hs (by simp), ⟨d1, side_stay hs1 hs (by simp) (by simp)⟩, ⟨d2, ring_stay hr2 hs (by simp), hd2⟩, ⟨vf, vk, vl, v12, v13, hex.stay hs (by simp)⟩, ⟨d3, side_stay hs3 hs (by simp) (by simp)⟩, ⟨n, d4, xs, ring_kept hr hs (by simp) (by simp), hnn, hd4⟩, ho, ho2⟩
set_option maxRecDepth 100000 in
set_option maxHeartbeats 6400000 in
theorem walk (C : CfgA) (hd : Bool) (ti mo : Int) (w : World) (hC : C.In w w.heap.size) (cb : CfgB C) (hti : (Lit.int .u16 ti).wf = true) (hmo : (Lit.int .u16 mo).wf = true) (mx : Int) (hm : w.cell? ⟨1, 0, none⟩ = some (.int .i64 mx)) (htab : PowTab w) :
    Calls Tryz.prog 3 #[C.val, .bool hd, .int .u16 ti, .int .u16 mo] w fun e w' => e = .returned (.bool true) ∧ Below w.heap.size w w' := by
  have hti' : 0 ≤ ti ∧ ti < 65536 := by simp [Lit.wf, IntKind.min, IntKind.max, IntKind.signed, IntKind.bits] at hti; omega
  have hmo' : 0 ≤ mo ∧ mo < 65536 := by simp [Lit.wf, IntKind.min, IntKind.max, IntKind.signed, IntKind.bits] at hmo; omega
  have hz := cfgz_of cb
  clear hti hmo cb
  obtain ⟨g, hg⟩ : ∃ g, w.heap.size = g := ⟨_, rfl⟩
  have hmb := World.block_lt_of_cell? w _ hm
  have HM := hide (show ∀ W, Below g w W → W.cell? ⟨1, 0, none⟩ = some (.int .i64 mx) from fun W b => (b.cell (p := ⟨1, 0, none⟩) (hg ▸ hmb)).trans hm)
  have HT := hide (show ∀ W, Below g w W → PowTab W from fun W b => htab.on (hg.symm ▸ b))
  have HC := hide (show ∀ W, Below g w W → C.In W g from fun W b => (hg ▸ hC).below b)
  have HZ := hide hz
  clear hm htab hC hz hmb
  have bx := Box.new w #[.slice C.AR C.nR C.cR, .slice C.AT C.nT C.cT, .int .i64 C.a, .int .i64 C.b, .int .i64 C.c, .int .i64 C.d, .int .i64 C.e] 25
  have t0 : Below g w (w.alloc (.cells #[.slice C.AR C.nR C.cR, .slice C.AT C.nT C.cT, .int .i64 C.a, .int .i64 C.b, .int .i64 C.c, .int .i64 C.d, .int .i64 C.e] 25)) := (Below.refl _ _).alloc (Nat.le_of_eq hg.symm) _
  rw [hg] at bx
  obtain ⟨AR, nR, cR, AT, nT, cT, a, b, d, Bi, T, rs, ts⟩ := C
  simp only [CfgA.val] at *
  go_enter Tryz.func3, Tryz.ntmps3
  go_upto_region 1 with (fail)
  generalize w.alloc _ = w1 at bx t0 ⊢
  have z1 : g ≤ w1.heap.size := Nat.le_of_lt bx.1
  obtain ⟨g1, hg1⟩ : ∃ x, w1.heap.size = x := ⟨_, rfl⟩
  have q1 := gateans_any g1 mx w1 hg1 (fun W b => HM.out W (t0.trans (b.mono (hg1 ▸ z1))))
  rw [hg1] at z1
  go_wp2_with fail
  refine q1.mono ?_
  rintro e w2 ⟨rfl, b2⟩
  have bx2 := bx.below (hg1.symm ▸ b2)
  have t2 := t0.trans (b2.mono z1)
  have z2 : g ≤ w2.heap.size := Nat.le_of_lt bx2.1
  have q2 := lawsmall_any _ w2 g (HC.out w2 t2) z2 HZ.out
  simp only [CfgA.val] at q2
  clear q1 bx
  obtain ⟨k0, -⟩ := bx2.2 0 _ rfl
  obtain ⟨k1, -⟩ := bx2.2 1 _ rfl
  obtain ⟨k2, -⟩ := bx2.2 2 _ rfl
  obtain ⟨k3, -⟩ := bx2.2 3 _ rfl
  obtain ⟨k4, -⟩ := bx2.2 4 _ rfl
  obtain ⟨k5, -⟩ := bx2.2 5 _ rfl
  obtain ⟨k6, -⟩ := bx2.2 6 _ rfl
  go_wp2_with fail
  refine q2.mono ?_
  rintro e w3 ⟨⟨sb, rfl⟩, b3⟩
  have bx3 := bx2.below b3
  have t3 := t2.trans (b3.mono z2)
  have z3 : g ≤ w3.heap.size := Nat.le_of_lt bx3.1
  clear q2 k0 k1 k2 k3 k4 k5 k6 bx2
  rcases sb with _ | _
  · obtain ⟨g2, hg2⟩ : ∃ x, w3.heap.size = x := ⟨_, rfl⟩
    have q3 := gateans_any g2 mx w3 hg2 (fun W b => HM.out W (t3.trans (b.mono (hg2 ▸ z3))))
    rw [hg2] at z3
    go_wp2_with fail
    refine q3.mono ?_
    rintro e w4 ⟨rfl, b4⟩
    go_wp2_with fail
    go_ret
    rw [hg]
    exact ⟨rfl, t3.trans (b4.mono z3)⟩
  have q3 := lawsound_any _ w3 g (HC.out w3 t3) z3 HZ.out
  simp only [CfgA.val] at q3
  obtain ⟨k0, -⟩ := bx3.2 0 _ rfl
  obtain ⟨k1, -⟩ := bx3.2 1 _ rfl
  obtain ⟨k2, -⟩ := bx3.2 2 _ rfl
  obtain ⟨k3, -⟩ := bx3.2 3 _ rfl
  obtain ⟨k4, -⟩ := bx3.2 4 _ rfl
  obtain ⟨k5, -⟩ := bx3.2 5 _ rfl
  obtain ⟨k6, -⟩ := bx3.2 6 _ rfl
  go_wp2_with fail
  refine q3.mono ?_
  rintro e w4 ⟨⟨sb, rfl, hsb⟩, b4⟩
  have bx4 := bx3.below b4
  have t4 := t3.trans (b4.mono z3)
  have z4 : g ≤ w4.heap.size := Nat.le_of_lt bx4.1
  clear q3 k0 k1 k2 k3 k4 k5 k6 bx3
  rcases sb with _ | _
  · clear hsb
    obtain ⟨g2, hg2⟩ : ∃ x, w4.heap.size = x := ⟨_, rfl⟩
    have q3 := gateans_any g2 mx w4 hg2 (fun W b => HM.out W (t4.trans (b.mono (hg2 ▸ z4))))
    rw [hg2] at z4
    go_wp2_with fail
    refine q3.mono ?_
    rintro e w5 ⟨rfl, b5⟩
    go_wp2_with fail
    go_ret
    rw [hg]
    exact ⟨rfl, t4.trans (b5.mono z4)⟩
  obtain ⟨j1, j2, j3, j4, j5, j6, j7, j8, j9, j10⟩ := hsb rfl
  simp only at j1 j2 j3 j4 j5 j6 j7 j8 j9 j10
  clear hsb j9
  obtain ⟨Bf, rfl⟩ : ∃ n : Nat, Bi = (n : Int) := ⟨Bi.toNat, by omega⟩
  have hok : CfgOk nT a b d T Bf := ⟨⟨by omega, by omega⟩, ⟨j3, j4⟩, j5, j6, ⟨j7, j8⟩, j10⟩
  have hts4 := (HC.out w4 t4).2
  simp only at hts4
  clear j1 j2 j3 j4 j5 j6 j8 j10
  -- the one route
  obtain ⟨k0, f0⟩ := bx4.2 0 _ rfl
  have hgl := bx4.1
  have a5 : Below w4.heap.size w4 (w4.alloc (.cells #[.string ⟨#[]⟩, .string ⟨#[47]⟩, .int .i64 1] 30)) := (Below.refl _ _).alloc (Nat.le_refl _) _
  have bx5 := bx4.below a5
  obtain ⟨k0', f0'⟩ := bx5.2 0 _ rfl
  have hgl5 := bx5.1
  obtain ⟨ra, hra⟩ : ∃ x, w4.heap.size = x := ⟨_, rfl⟩
  have hgra : g < ra := hra ▸ hgl
  go_upto_region 4 with (fail)
  have hs4 : (w4.setCell ⟨g, 0, none⟩ (.slice (some ⟨ra, 0, none⟩) 1 1)).heap.size = ra := by simp [World.setCell, hra]
  have bxs := bx4.set (k := 0) (x := .slice (some ⟨ra, 0, none⟩) 1 1) (by simp)
  simp only [List.set_cons_zero] at bxs
  have ts4 : Below g w (w4.setCell ⟨g, 0, none⟩ (.slice (some ⟨ra, 0, none⟩) 1 1)) := t4.setCell (Nat.le_refl g) _
  have hts5 : Rd (w4.setCell ⟨g, 0, none⟩ (.slice (some ⟨ra, 0, none⟩) 1 1)) g 1 AT nT (scells ts) := hts4.below ((Below.refl _ _).setCell (Nat.le_refl g) _)
  clear a5 bx5 k0' f0' hgl5 k0 f0 bx4 t4 z4 hgl hra hts4 b4 b3 t3 z3 b2 t2 z2
  generalize w4.setCell ⟨g, 0, none⟩ (.slice (some ⟨ra, 0, none⟩) 1 1) = v4 at bxs ts4 hts5 hs4 ⊢
  have hsr := rd_new v4 #[.string ⟨#[]⟩, .string ⟨#[47]⟩, .int .i64 1] 30 3 1 rfl
  have a5 : Below v4.heap.size v4 (v4.alloc (.cells #[.string ⟨#[]⟩, .string ⟨#[47]⟩, .int .i64 1] 30)) := (Below.refl _ _).alloc (Nat.le_refl _) _
  have bx5 := bxs.below a5
  have t5 := ts4.trans (a5.mono (by omega))
  have hts6 := hts5.below (a5.mono (by omega))
  have hz5 : (v4.alloc (.cells #[.string ⟨#[]⟩, .string ⟨#[47]⟩, .int .i64 1] 30)).heap.size = ra + 1 := by simp [hs4]
  rw [hs4] at hsr
  generalize v4.alloc (.cells #[.string ⟨#[]⟩, .string ⟨#[47]⟩, .int .i64 1] 30) = w5 at hsr bx5 t5 hts6 hz5 ⊢
  clear a5 bxs ts4 hts5 hs4 v4
  obtain ⟨k0, -⟩ := bx5.2 0 _ rfl
  obtain ⟨k1, -⟩ := bx5.2 1 _ rfl
  obtain ⟨k2, -⟩ := bx5.2 2 _ rfl
  obtain ⟨k3, -⟩ := bx5.2 3 _ rfl
  obtain ⟨k4, -⟩ := bx5.2 4 _ rfl
  obtain ⟨k5, -⟩ := bx5.2 5 _ rfl
  obtain ⟨k6, -⟩ := bx5.2 6 _ rfl
  have q5 := gtnew_one ra 1 AT nT cT a b d T Bf ts w5 (by rw [hz5]; exact hsr) (hts6.mono (by omega)) hok
  go_wp2_with fail
  refine q5.mono ?_
  rintro e w6 ⟨p, rfl, mb, hGN, hmbz, b6⟩
  have bx6 := bx5.below b6
  have t6 := t5.trans (b6.mono (by omega))
  have hgmb : g + 1 ≤ mb := by omega
  clear k0 k1 k2 k3 k4 k5 k6 q5 bx5 hsr hts6
  have q6 := gtdo_open p mb Bf T mx w6 hGN (fun W b => HM.out W (t6.trans (b.mono (by omega))))
  go_wp2_with fail
  refine q6.mono ?_
  rintro e w7 ⟨rfl, c, s, r1, r2, hG7, hA7, b7⟩
  have bx7 := bx6.low b7 (by omega)
  have t7 := t6.trans (b7.mono (by omega))
  have hpl := hG7.lt
  have hmp := hG7.o2
  clear q6 bx6 b6 b7 hGN t6 t5 hok
  have HML := hide (show ∀ W, Below (p + 1) w7 W → ∀ W', Below (p + 1) W W' → W'.cell? ⟨1, 0, none⟩ = some (.int .i64 mx) from fun W b W' b' => HM.out W' (t7.trans ((b.trans b').mono (by omega))))
  have HTL := hide (show ∀ W, Below (p + 1) w7 W → ∀ W', Below (p + 1) W W' → PowTab W' from fun W b W' b' => HT.out W' (t7.trans ((b.trans b').mono (by omega))))
  have HTT := hide (show ∀ W, Below (p + 1) w7 W → Below g w W ∧ W.cell? ⟨g, 6, none⟩ = some (.int .i64 T) from fun W b => ⟨t7.trans (b.mono (by omega)), ((bx7.low b (by omega)).2 6 _ rfl).1⟩)
  clear HM HT HC HZ t0 t7 bx7
  go_upto_region 7 with (fail)
  rcases hd with _ | _
  · obtain ⟨A, cap, w8, hcv, hrd, hcap, b8⟩ := conv_bytesG w7 ⟨#[71, 69, 84, 32, 47, 32, 72, 84, 84, 80, 47, 49, 46, 49, 13, 10, 72, 111, 115, 116, 58, 32, 97, 13, 10, 13, 10]⟩ (by decide)
    rw [show (⟨#[71, 69, 84, 32, 47, 32, 72, 84, 84, 80, 47, 49, 46, 49, 13, 10, 72, 111, 115, 116, 58, 32, 97, 13, 10, 13, 10]⟩ : ByteArray).size = 27 from rfl] at hcv hrd hcap
    have hrd : Rd w8 w8.heap.size 1 (some A) 27 (bcells b27) := hrd
    have q8 := gtdo_act p 2 0 (some A) 27 cap w8
      (fun _ _ _ W => GateC W mb p mb c Bf T ∧ ConnA W p c s r1 r2 Bf b27 [] false 0 0 ∧ Below (p + 1) w7 W)
      (fun _ _ _ W => GateC W mb p mb c Bf T ∧ (∃ x s3 r3 r4 b, ConnB W p c s r1 r2 x s3 r3 r4 b Bf true 0 1) ∧ Below (p + 1) w7 W) (by decide) (by decide) (by omega)
      (fun W bW => by
        have b78 := b8.trans (bW.mono b8.size)
        have b78' : Below (p + 1) w7 W := b78.mono hpl
        refine (gtact_client mb p mb c s r1 r2 Bf T 0 0 (some A) 27 cap w8.heap.size b27 W (hG7.below b78') (ConnA.keep0 hA7 (Stay.of_below [] b78)) (hrd.below bW) bW.size (by omega) hcap).mono ?_
        rintro e w' ⟨rfl, hA, bA⟩
        exact ⟨_, _, _, rfl, (hG7.below b78').below bA, hA, b78'.trans bA⟩)
      (fun v0 v1 v2 W ⟨h1, h2, h3⟩ => by
        refine (gtwork_27 mb p mb c s r1 r2 Bf T 0 0 mx W h1 h2 (by omega) (HML.out W h3)).mono ?_
        rintro e w' ⟨rfl, hB, bB⟩
        exact ⟨rfl, h1.below bB, hB, h3.trans bB⟩)
    clear hrd hcap
    go_wp2_with fail
    refine q8.mono ?_
    rintro e w9 ⟨v0, v1, v2, rfl, hG9, ⟨x, s3, r3, r4, b9, hB9⟩, b79⟩
    obtain ⟨tg9, kT⟩ := HTT.out w9 b79
    clear q8 hcv b8
    by_cases hT : 1000 < T
    · go_wp2_with fail
      go_ret
      rw [hg]
      exact ⟨rfl, tg9⟩
    have hT0 : ¬ T = 0 := by omega
    go_upto_region 14 with (fail)
    obtain ⟨n, hn, hn0, hnT⟩ : ∃ n, n = ti % T ∧ 0 ≤ n ∧ n < T := ⟨_, rfl, Int.emod_nonneg _ hT0, Int.emod_lt_of_pos _ (by omega)⟩
    rw [← hn]
    clear hn kT
    have hBf := hG7.o4
    have hpc := hG7.o3
    have hcl9 := hB9.box.1
    have ho9 := hB9.o
    have q9 := gtdo_tick mb p mb c Bf T n w9
      (fun W => GateC W mb p mb c Bf T ∧ ConnB W p c s r1 r2 x s3 r3 r4 b9 Bf true n 1 ∧ Below (p + 1) w7 W)
      (fun W => GateC W mb p mb c Bf T ∧ ConnB W p c s r1 r2 x s3 r3 r4 b9 Bf true n 1 ∧ Below (p + 1) w7 W) hG9 hn0
      (fun W bW => by
        have b7W : Below (p + 1) w7 W := b79.trans (bW.mono hG9.lt)
        have gW := hG9.below (bW.mono hG9.lt)
        refine (gttickB_low p c s r1 r2 x s3 r3 r4 b9 Bf 0 1 (min n 1073741824) T W gW.lt (ConnB.keep0 hB9 (Stay.of_below [] bW)) (by omega) (by omega) hpc (by omega)).mono ?_
        rintro e w' ⟨rfl, hB, bB, st⟩
        rw [show (0 : Int) + min n 1073741824 = n by omega] at hB
        exact ⟨rfl, ⟨gW.below bB, hB, b7W.trans bB⟩, gW.below bB, fun g' cs hg' hb => hb.stay st (by simp; omega)⟩)
      (fun W ⟨h1, h2, h3⟩ => by
        refine (gtwork_rest mb p mb c s r1 r2 x s3 r3 r4 b9 Bf T n 1 mx W h1 h2 (HML.out W h3)).mono ?_
        rintro e w' ⟨rfl, hB, bB⟩
        exact ⟨rfl, h1.below bB, hB, h3.trans bB⟩)
    go_wp2_with fail
    refine q9.mono ?_
    rintro e w10 ⟨rfl, hG10, hB10, b710⟩
    clear q9 hB9 hG9 b79 tg9
    have q10 := gtopened_any mb p mb c Bf T false w10 hG10 (hB10.box.2 3 _ rfl).1
    go_wp2_with fail
    refine q10.mono ?_
    rintro e w11 ⟨rfl, rfl⟩
    have e1 : IntKind.i64.wrap (T - n) = T - n := by rw [IntKind.wrap_i64]; omega
    have e2 : IntKind.i64.wrap (T - n + mo) = T - n + mo := by rw [IntKind.wrap_i64]; omega
    have hcl10 := hB10.box.1
    have q11 := gtdo_tick mb p mb c Bf T (T - n + mo) w10
      (fun W => GateC W mb p mb c Bf T ∧ (∃ id, ConnC W p c s r2 Bf (h504 ++ b504) id 1) ∧ Below (p + 1) w7 W)
      (fun W => GateC W mb p mb c Bf T ∧ (∃ id, ConnC W p c s r2 Bf (h504 ++ b504) id 1) ∧ Below (p + 1) w7 W) hG10 (by omega)
      (fun W bW => by
        have b7W : Below (p + 1) w7 W := b710.trans (bW.mono hG10.lt)
        have gW := hG10.below (bW.mono hG10.lt)
        refine (gttickB_own p c s r1 r2 x s3 r3 r4 b9 Bf n 1 (min (T - n + mo) 1073741824) T W gW.lt hBf (ConnB.keep0 hB10 (Stay.of_below [] bW)) (by omega) (by omega) hpc (by omega) (HTL.out W b7W)).mono ?_
        rintro e w' ⟨rfl, hC, bB, st⟩
        exact ⟨rfl, ⟨gW.below bB, ⟨_, hC⟩, b7W.trans bB⟩, gW.below bB, fun g' cs hg' hb => hb.stay st (by simp; omega)⟩)
      (fun W ⟨h1, ⟨id, h2⟩, h3⟩ => by
        refine (gtwork_still mb p mb c s r2 Bf T id 1 _ W h1 h2).mono ?_
        rintro e w' ⟨rfl, rfl⟩
        exact ⟨rfl, h1, ⟨id, h2⟩, h3⟩)
    clear q10
    go_wp2_with fail
    refine q11.mono ?_
    rintro e w12 ⟨rfl, hG12, ⟨id, hC12⟩, b712⟩
    clear q11 e1 e2 hB10 hG10 b710
    have hl113 : (h504 ++ b504).length = 113 := by rw [List.length_append, h504_len]; rfl
    obtain ⟨OS, hOS⟩ : ∃ OS, OS = h504 ++ b504 := ⟨_, rfl⟩
    rw [← hOS] at hC12 hl113
    have q12 := gtdo_act p 6 1000 none 0 0 w12
      (fun _ v1 _ W => ∃ ob cap, v1 = .slice (some ⟨ob, 0, none⟩) 113 cap ∧ 113 ≤ cap ∧ Rd W W.heap.size 1 (some ⟨ob, 0, none⟩) 113 (bcells OS) ∧ GateC W mb p mb c Bf T ∧ (∃ id, ConnC W p c s r2 Bf [] id 1) ∧ Below (p + 1) w7 W)
      (fun _ v1 _ W => ∃ ob cap, v1 = .slice (some ⟨ob, 0, none⟩) 113 cap ∧ 113 ≤ cap ∧ Rd W W.heap.size 1 (some ⟨ob, 0, none⟩) 113 (bcells OS) ∧ GateC W mb p mb c Bf T ∧ (∃ id, ConnC W p c s r2 Bf [] id 1) ∧ Below (p + 1) w7 W) (by decide) (by decide) (by omega)
      (fun W bW => by
        have b7W : Below (p + 1) w7 W := b712.trans (bW.mono hG12.lt)
        have gW := hG12.below (bW.mono hG12.lt)
        have q := gtact_drain mb p mb c s r2 Bf T id 1 OS W gW (ConnC.keep0 hC12 (Stay.of_below [] bW)) (by omega)
        rw [hl113] at q
        refine q.mono ?_
        rintro e w' ⟨A, cap', rfl, ho, hcap, hC, bB⟩
        rcases ho.2 with ⟨_, hh⟩ | ⟨ob, _, _, hh, -⟩
        · simp at hh
        · have hA : A = some ⟨ob, 0, none⟩ := by simp at hh; exact hh.1
          subst hA
          exact ⟨_, _, _, rfl, ob, cap', rfl, hcap, Rd.of_own ho, gW.below bB, hC, b7W.trans bB⟩)
      (fun v0 v1 v2 W ⟨ob, cap', h0, h1, h2, h3, ⟨id', h4⟩, h5⟩ => by
        refine (gtwork_still mb p mb c s r2 Bf T id' 1 _ W h3 h4).mono ?_
        rintro e w' ⟨rfl, rfl⟩
        exact ⟨rfl, ob, cap', h0, h1, h2, h3, ⟨id', h4⟩, h5⟩)
    go_wp2_with fail
    refine q12.mono ?_
    rintro e w13 ⟨v0', v1', v2', rfl, ob, cap', rfl, hcap', hrd, hG13, ⟨id', hC13⟩, b713⟩
    clear q12 hC12 hG12 b712
    have q13 := gtopened_any mb p mb c Bf T true w13 hG13 (hC13.box.2 3 _ rfl).1
    go_wp2_with fail
    refine q13.mono ?_
    rintro e w14 ⟨rfl, rfl⟩
    have t13 := (HTT.out w13 b713).1
    have z13 : g ≤ w13.heap.size := by have := hG13.lt; omega
    have a14 : Below w13.heap.size w13 (w13.alloc (.cells #[.string ⟨#[71, 69, 84]⟩] 9)) := (Below.refl _ _).alloc (Nat.le_refl _) _
    have hrd14 := (hrd.below a14).mono a14.size
    have bn := Box.new w13 #[.string ⟨#[71, 69, 84]⟩] 9
    have t14 := t13.trans (a14.mono z13)
    have z14 := Nat.le_trans z13 a14.size
    obtain ⟨gm, hgm⟩ : ∃ x, w13.heap.size = x := ⟨_, rfl⟩
    rw [hgm] at bn
    clear q13
    go_upto_region 23 with fail
    generalize w13.alloc (.cells #[.string ⟨#[71, 69, 84]⟩] 9) = w14 at a14 hrd14 bn t14 z14 ⊢
    rw [hOS] at hrd14
    have q14 := refread504 gm ob cap' 1 w14 hrd14 (bn.2 0 _ rfl).1 bn.1 hcap'
    clear hrd hG13 hC13 b713 t13 z13 a14 hOS hl113
    refine q14.mono ?_
    rintro e w15 ⟨o, co, RR, cr, rfl, h1, h2, b15⟩
    have t15 := t14.trans (b15.mono z14)
    clear q14 hrd14 bn t14
    go_wp2_with fail
    go_ret
    rw [hg]
    exact ⟨rfl, t15⟩
  · obtain ⟨S20, hS20⟩ : ∃ S : ByteArray, S = (⟨#[71, 69, 84, 32, 47, 32, 72, 84, 84, 80, 47, 49, 46, 49, 13, 10, 72, 111, 115, 116, 58, 32, 97, 13, 10, 13, 10]⟩ : ByteArray).extract 0 20 := ⟨_, rfl⟩
    have hsz : S20.size = 20 := by rw [hS20]; rfl
    have hbs : S20.data.toList = b27.take 20 := by rw [hS20]; rfl
    obtain ⟨A, cap, w8, hcv, hrd, hcap, b8⟩ := conv_bytesG w7 S20 (by omega)
    rw [hbs] at hrd
    rw [hsz] at hcv hrd hcap
    rw [hS20] at hcv
    clear hS20 hsz hbs
    have q8 := gtdo_act p 2 0 (some A) 20 cap w8
      (fun _ _ _ W => GateC W mb p mb c Bf T ∧ ConnA W p c s r1 r2 Bf (b27.take 20) [] false 0 0 ∧ Below (p + 1) w7 W)
      (fun _ _ _ W => GateC W mb p mb c Bf T ∧ ConnA W p c s r1 r2 Bf (b27.take 20) [] false 0 0 ∧ Below (p + 1) w7 W) (by decide) (by decide) (by omega)
      (fun W bW => by
        have b78 := b8.trans (bW.mono b8.size)
        have b78' : Below (p + 1) w7 W := b78.mono hpl
        refine (gtact_client mb p mb c s r1 r2 Bf T 0 0 (some A) 20 cap w8.heap.size (b27.take 20) W (hG7.below b78') (ConnA.keep0 hA7 (Stay.of_below [] b78)) (hrd.below bW) bW.size (by omega) hcap).mono ?_
        rintro e w' ⟨rfl, hA, bA⟩
        exact ⟨_, _, _, rfl, (hG7.below b78').below bA, hA, b78'.trans bA⟩)
      (fun v0 v1 v2 W ⟨h1, h2, h3⟩ => by
        refine (gtwork_wait mb p mb c s r1 r2 Bf T 0 0 mx (b27.take 20) W h1 h2 hd20 (HML.out W h3)).mono ?_
        rintro e w' ⟨rfl, hB, bB⟩
        exact ⟨rfl, h1.below bB, hB, h3.trans bB⟩)
    clear hrd hcap
    go_wp2_with fail
    refine q8.mono ?_
    rintro e w9 ⟨v0, v1, v2, rfl, hG9, hA9, b79⟩
    obtain ⟨tg9, kT⟩ := HTT.out w9 b79
    clear q8 hcv b8
    by_cases hT : 1000 < T
    · go_wp2_with fail
      go_ret
      rw [hg]
      exact ⟨rfl, tg9⟩
    have hT0 : ¬ T = 0 := by omega
    go_upto_region 14 with (fail)
    obtain ⟨n, hn, hn0, hnT⟩ : ∃ n, n = ti % T ∧ 0 ≤ n ∧ n < T := ⟨_, rfl, Int.emod_nonneg _ hT0, Int.emod_lt_of_pos _ (by omega)⟩
    rw [← hn]
    clear hn kT
    have hpc := hG7.o3
    have hcl9 := hA9.box.1
    have ho9 := hA9.o
    have q9 := gtdo_tick mb p mb c Bf T n w9
      (fun W => GateC W mb p mb c Bf T ∧ ConnA W p c s r1 r2 Bf (b27.take 20) [] false n 0 ∧ Below (p + 1) w7 W)
      (fun W => GateC W mb p mb c Bf T ∧ ConnA W p c s r1 r2 Bf (b27.take 20) [] false n 0 ∧ Below (p + 1) w7 W) hG9 hn0
      (fun W bW => by
        have b7W : Below (p + 1) w7 W := b79.trans (bW.mono hG9.lt)
        have gW := hG9.below (bW.mono hG9.lt)
        refine (gttickA p c s r1 r2 Bf (b27.take 20) [] 0 0 (min n 1073741824) T false W gW.lt (ConnA.keep0 hA9 (Stay.of_below [] bW)) hpc (by decide) (by omega) (by omega) (decide_eq_false (by omega)).symm).mono ?_
        rintro e w' ⟨rfl, hB, bB, st⟩
        rw [show (0 : Int) + min n 1073741824 = n by omega] at hB
        exact ⟨rfl, ⟨gW.below bB, hB, b7W.trans bB⟩, gW.below bB, fun g' cs hg' hb => hb.stay st (by simp; omega)⟩)
      (fun W ⟨h1, h2, h3⟩ => by
        refine (gtwork_wait mb p mb c s r1 r2 Bf T n 0 mx (b27.take 20) W h1 h2 hd20 (HML.out W h3)).mono ?_
        rintro e w' ⟨rfl, hB, bB⟩
        exact ⟨rfl, h1.below bB, hB, h3.trans bB⟩)
    go_wp2_with fail
    refine q9.mono ?_
    rintro e w10 ⟨rfl, hG10, hA10, b710⟩
    clear q9 hA9 hG9 b79 tg9
    have q10 := gtopened_any mb p mb c Bf T false w10 hG10 (hA10.box.2 3 _ rfl).1
    go_wp2_with fail
    refine q10.mono ?_
    rintro e w11 ⟨rfl, rfl⟩
    have e1 : IntKind.i64.wrap (T - n) = T - n := by rw [IntKind.wrap_i64]; omega
    have e2 : IntKind.i64.wrap (T - n + mo) = T - n + mo := by rw [IntKind.wrap_i64]; omega
    have hcl10 := hA10.box.1
    have q11 := gtdo_tick mb p mb c Bf T (T - n + mo) w10
      (fun W => GateC W mb p mb c Bf T ∧ (∃ id, ConnC W p c s r2 Bf [] id 0) ∧ Below (p + 1) w7 W)
      (fun W => GateC W mb p mb c Bf T ∧ (∃ id, ConnC W p c s r2 Bf [] id 0) ∧ Below (p + 1) w7 W) hG10 (by omega)
      (fun W bW => by
        have b7W : Below (p + 1) w7 W := b710.trans (bW.mono hG10.lt)
        have gW := hG10.below (bW.mono hG10.lt)
        refine (gttickA p c s r1 r2 Bf (b27.take 20) [] n 0 (min (T - n + mo) 1073741824) T true W gW.lt (ConnA.keep0 hA10 (Stay.of_below [] bW)) hpc (by decide) (by omega) (by omega) (decide_eq_true (by omega)).symm).mono ?_
        rintro e w' ⟨rfl, hC, bB, st⟩
        exact ⟨rfl, ⟨gW.below bB, ⟨_, hC.shut⟩, b7W.trans bB⟩, gW.below bB, fun g' cs hg' hb => hb.stay st (by simp; omega)⟩)
      (fun W ⟨h1, ⟨id, h2⟩, h3⟩ => by
        refine (gtwork_still mb p mb c s r2 Bf T id 0 _ W h1 h2).mono ?_
        rintro e w' ⟨rfl, rfl⟩
        exact ⟨rfl, h1, ⟨id, h2⟩, h3⟩)
    clear q10
    go_wp2_with fail
    refine q11.mono ?_
    rintro e w12 ⟨rfl, hG12, ⟨id, hC12⟩, b712⟩
    clear q11 e1 e2 hA10 hG10 b710
    have q12 := gtdo_act p 6 1000 none 0 0 w12
      (fun _ v1 _ W => ∃ A cap, v1 = .slice A 0 cap ∧ GateC W mb p mb c Bf T ∧ (∃ id, ConnC W p c s r2 Bf [] id 0) ∧ Below (p + 1) w7 W)
      (fun _ v1 _ W => ∃ A cap, v1 = .slice A 0 cap ∧ GateC W mb p mb c Bf T ∧ (∃ id, ConnC W p c s r2 Bf [] id 0) ∧ Below (p + 1) w7 W) (by decide) (by decide) (by omega)
      (fun W bW => by
        have b7W : Below (p + 1) w7 W := b712.trans (bW.mono hG12.lt)
        have gW := hG12.below (bW.mono hG12.lt)
        have q := gtact_drain mb p mb c s r2 Bf T id 0 [] W gW (ConnC.keep0 hC12 (Stay.of_below [] bW)) (by simp)
        refine q.mono ?_
        rintro e w' ⟨A, cap', rfl, ho, hcap, hC, bB⟩
        exact ⟨_, _, _, rfl, A, cap', rfl, gW.below bB, hC, b7W.trans bB⟩)
      (fun v0 v1 v2 W ⟨A, cap', h0, h3, ⟨id', h4⟩, h5⟩ => by
        refine (gtwork_still mb p mb c s r2 Bf T id' 0 _ W h3 h4).mono ?_
        rintro e w' ⟨rfl, rfl⟩
        exact ⟨rfl, A, cap', h0, h3, ⟨id', h4⟩, h5⟩)
    go_wp2_with fail
    refine q12.mono ?_
    rintro e w13 ⟨v0', v1', v2', rfl, A', cap', rfl, hG13, ⟨id', hC13⟩, b713⟩
    clear q12 hC12 hG12 b712
    have q13 := gtopened_any mb p mb c Bf T true w13 hG13 (hC13.box.2 3 _ rfl).1
    have t13 := (HTT.out w13 b713).1
    go_wp2_with fail
    refine q13.mono ?_
    rintro e w14 ⟨rfl, rfl⟩
    go_wp2_with fail
    go_ret
    rw [hg]
    exact ⟨rfl, t13⟩
/-- The settled world that the card begins from. -/
noncomputable def laidWorld (os : Os) : World := laidWorld8 os
end Go.Proofs.YtijlaclngibekaaGreatDoor.GateTimesP
