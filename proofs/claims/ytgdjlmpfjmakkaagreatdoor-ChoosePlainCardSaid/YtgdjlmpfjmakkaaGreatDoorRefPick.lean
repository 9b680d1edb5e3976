/- The reference's Pick: which coding is sent. -/
import Derived.Test.YtgdjlmpfjmakkaaGreatDoorPickSpec
import Derived.Test.YtgdjlmpfjmakkaaGreatDoorChoose3
import Derived.Test.YtgdjlmpfjmakkaaGreatDoorRefElig
import Derived.Deep.CutBlock
import Derived.Test.YtgdjlmpfjmakkaaGreatDoorCalm
namespace Go.Proofs.YtgdjlmpfjmakkaaGreatDoor
open Go.RowKit
open FrameLengthsP (step_)
theorem results4 {fn : Func} {t u v x : Tmp} (h : fn.results = #[.tmp t, .tmp u, .tmp v, .tmp x]) (tmps : Array Value) (P : Program) (w : World) :
    (results fn tmps).run P w = .ok (.tuple #[tmps.getD t undef, tmps.getD u undef, tmps.getD v undef, tmps.getD x undef]) w := by
  simp [results, h]
def p4 (p : (Bool × Nat × Nat) × Bool) : Value := .tuple #[.bool p.1.1, .int .i64 p.1.2.1, .int .i64 p.1.2.2, .bool p.2]

set_option maxRecDepth 100000 in
set_option maxHeartbeats 12800000 in
set_option linter.unusedSimpArgs false in
theorem refpick_any (A0 A1 : Option Addr) (n0 c0 n1 c1 : Nat) (lv least cp bf tm qminor minor status : Int) (m tg s_ : ByteArray) (Aq : Option Addr) (nq cq : Nat) (A : Option Addr) (n c B : Nat) (fs : List (List UInt8 × List UInt8)) (ts : List (List UInt8)) (qs : List (List UInt8 × List UInt8)) (w : World) (h : Rd w B 2 A n (fcells fs)) (h1 : Rd w B 1 A1 n1 (scells ts)) (hq : Rd w B 2 Aq nq (fcells qs)) (hB : B ≤ w.heap.size) (hn : n ≤ 1000) (hn1 : n1 ≤ 1000) (hnq : nq ≤ 1000) (hok : fsOk fs) (hts : ∀ t ∈ ts, t.length ≤ 1000000) (hqs : fsOk qs) :
    Calls Tryz.prog 10 #[.agg #[.slice A0 n0 c0, .slice A1 n1 c1, .int .i64 lv, .int .i64 least, .int .i64 cp, .int .i64 bf, .int .i64 tm], .agg #[.string m, .string tg, .int .i64 qminor, .slice Aq nq cq], .agg #[.int .i64 minor, .int .i64 status, .string s_, .slice A n c]] w fun e w' => e = .returned (p4 (pickL least ts m qs status fs)) ∧ Below w.heap.size w w' := by
  obtain ⟨w1, hw1⟩ : ∃ w1, ((w.alloc (.cells #[.slice A0 n0 c0, .slice A1 n1 c1, .int .i64 lv, .int .i64 least, .int .i64 cp, .int .i64 bf, .int .i64 tm] 25)).alloc (.cells #[.string m, .string tg, .int .i64 qminor, .slice Aq nq cq] 28)).alloc (.cells #[.int .i64 minor, .int .i64 status, .string s_, .slice A n c] 30) = w1 := ⟨_, rfl⟩
  obtain ⟨bC, bQ, bR, tW⟩ := three_boxes w #[.slice A0 n0 c0, .slice A1 n1 c1, .int .i64 lv, .int .i64 least, .int .i64 cp, .int .i64 bf, .int .i64 tm] #[.string m, .string tg, .int .i64 qminor, .slice Aq nq cq] #[.int .i64 minor, .int .i64 status, .string s_, .slice A n c] 25 28 30
  rw [hw1] at bC bQ bR tW
  obtain ⟨gc, hgc⟩ : ∃ g, w.heap.size = g := ⟨_, rfl⟩
  obtain ⟨gq, hgq⟩ : ∃ g, gc + 1 = g := ⟨_, rfl⟩
  obtain ⟨gr, hgr⟩ : ∃ g, gq + 1 = g := ⟨_, rfl⟩
  rw [hgc] at bC bQ bR
  have hgr2 : gc + 2 = gr := by omega
  rw [hgq] at bQ
  rw [hgr2] at bR
  clear hgr2
  have b_ := fun (W : World) (b : Below w1.heap.size w1 W) => tW.trans (b.mono tW.size)
  have mk : ∀ W, Below w1.heap.size w1 W → W.cell? ⟨gc, 0, none⟩ = some (.slice A0 n0 c0) ∧ W.cell? ⟨gc, 1, none⟩ = some (.slice A1 n1 c1) ∧ W.cell? ⟨gc, 2, none⟩ = some (.int .i64 lv) ∧ W.cell? ⟨gc, 3, none⟩ = some (.int .i64 least) ∧ W.cell? ⟨gc, 4, none⟩ = some (.int .i64 cp) ∧ W.cell? ⟨gc, 5, none⟩ = some (.int .i64 bf) ∧ W.cell? ⟨gc, 6, none⟩ = some (.int .i64 tm) ∧ W.cell? ⟨gq, 0, none⟩ = some (.string m) ∧ W.cell? ⟨gq, 1, none⟩ = some (.string tg) ∧ W.cell? ⟨gq, 2, none⟩ = some (.int .i64 qminor) ∧ W.cell? ⟨gq, 3, none⟩ = some (.slice Aq nq cq) ∧ W.cell? ⟨gr, 0, none⟩ = some (.int .i64 minor) ∧ W.cell? ⟨gr, 1, none⟩ = some (.int .i64 status) ∧ W.cell? ⟨gr, 2, none⟩ = some (.string s_) ∧ W.cell? ⟨gr, 3, none⟩ = some (.slice A n c) := fun W b => by
    have b1 := bC.below b
    have b2 := bQ.below b
    have b3 := bR.below b
    exact ⟨(b1.2 0 _ rfl).1, (b1.2 1 _ rfl).1, (b1.2 2 _ rfl).1, (b1.2 3 _ rfl).1, (b1.2 4 _ rfl).1, (b1.2 5 _ rfl).1, (b1.2 6 _ rfl).1, (b2.2 0 _ rfl).1, (b2.2 1 _ rfl).1, (b2.2 2 _ rfl).1, (b2.2 3 _ rfl).1, (b3.2 0 _ rfl).1, (b3.2 1 _ rfl).1, (b3.2 2 _ rfl).1, (b3.2 3 _ rfl).1⟩
  have qC := fun (W : World) (b : Below w1.heap.size w1 W) => coding_any minor status s_ A n c B fs W (h.below ((b_ W b).mono hB)) (Nat.le_trans hB (b_ W b).size) hn hok
  have qK := fun (W : World) (b : Below w1.heap.size w1 W) => refpkept_any minor status s_ A n c B fs W (h.below ((b_ W b).mono hB)) (Nat.le_trans hB (b_ W b).size) hn hok
  have qM := fun (W : World) => refempty_any m status W
  have qG := fun (W : World) (b : Below w1.heap.size w1 W) => refget_any Aq nq cq B qs ⟨#[97, 99, 99, 101, 112, 116, 45, 101, 110, 99, 111, 100, 105, 110, 103]⟩ W (hq.below ((b_ W b).mono hB)) (Nat.le_trans hB (b_ W b).size) (by omega) hqs (by decide)
  have e1 : getL qs (⟨#[97, 99, 99, 101, 112, 116, 45, 101, 110, 99, 111, 100, 105, 110, 103]⟩ : ByteArray).data.toList = getL qs aeL := getL_congr (by decide) qs
  simp only [e1] at qG
  have qA := fun (W : World) (b : Below w1.heap.size w1 W) => all_any A n c B fs ⟨#[99, 111, 110, 116, 101, 110, 116, 45, 101, 110, 99, 111, 100, 105, 110, 103]⟩ W (h.below ((b_ W b).mono hB)) (Nat.le_trans hB (b_ W b).size) hn hok (by decide)
  have e2 : allL fs (⟨#[99, 111, 110, 116, 101, 110, 116, 45, 101, 110, 99, 111, 100, 105, 110, 103]⟩ : ByteArray).data.toList = allL fs codeL := rfl
  simp only [e2] at qA
  have qE := fun (W : World) (b : Below w1.heap.size w1 W) => refelig_any A0 A1 n0 c0 n1 c1 lv least cp bf tm minor status s_ m A n c B fs ts W (h.below ((b_ W b).mono hB)) (h1.below ((b_ W b).mono hB)) (Nat.le_trans hB (b_ W b).size) hn hn1 hok hts
  have hvs := getL_mem hqs aeL
  have hvl := getL_len qs aeL
  have hql := hq.flen
  have hcf := codingL_le (allL fs codeL)
  have hml := allV_len (getL fs codeL) (getL_mem hok codeL)
  have hmm := allV_mem (getL fs codeL) (getL_mem hok codeL)
  change (allL fs codeL).length ≤ _ at hml
  change ∀ x ∈ allL fs codeL, _ at hmm
  have hgl := getL_len fs codeL
  have hfl := h.flen
  have hml2 : (allL fs codeL).length ≤ 1000 * 1000001 := Nat.le_trans hml (Nat.mul_le_mul_right _ (by omega))
  obtain ⟨f, hf⟩ : ∃ x, x = codingL (allL fs codeL) := ⟨_, rfl⟩
  obtain ⟨vs, hvs'⟩ : ∃ x, x = getL qs aeL := ⟨_, rfl⟩
  obtain ⟨nv, hnv⟩ : ∃ x, x = vs.length := ⟨_, rfl⟩
  simp only [← hvs', ← hnv] at qG
  rw [← hvs'] at hvs hvl
  rw [← hnv] at hvl
  rw [← hf] at hcf
  simp only [← hf] at qC
  have qQ := fun (W : World) (Aw : Option Addr) (cw : Nat) (r : Rd W W.heap.size 1 Aw nv (scells vs)) (s : ByteArray) => refq_any Aw nv cw W.heap.size vs s W r (Nat.le_refl _) (by omega) hvs
  obtain ⟨r, hr⟩ : ∃ r, r = pickL least ts m qs status fs := ⟨_, rfl⟩
  rw [← hr]
  unfold pickL at hr
  rw [← hf, ← hvs'] at hr
  obtain ⟨ms, hms⟩ : ∃ x, x = allL fs codeL := ⟨_, rfl⟩
  obtain ⟨lm, hlm⟩ : ∃ l, l = ms.length := ⟨_, rfl⟩
  rw [← hms] at hmm hml2 hr
  rw [← hlm] at hml2
  simp only [← hms, ← hlm] at qA
  obtain ⟨el, hel⟩ : ∃ x, x = eligL least ts m.data.toList status fs := ⟨_, rfl⟩
  rw [← hel] at hr
  simp only [← hel] at qE
  obtain ⟨K, hK⟩ : ∃ b, b = keptL status fs := ⟨_, rfl⟩
  obtain ⟨M, hM⟩ : ∃ b, b = emptyB m status := ⟨_, rfl⟩
  rw [← hK, ← hM] at hr
  simp only [← hK] at qK
  simp only [← hM] at qM
  obtain ⟨wt, hwt⟩ : ∃ f, f = wtL vs := ⟨_, rfl⟩
  rw [← hwt] at hr
  have q0 := fun (W : World) (Aw : Option Addr) (cw : Nat) (r : Rd W W.heap.size 1 Aw nv (scells vs)) => qQ W Aw cw r ⟨#[105, 100, 101, 110, 116, 105, 116, 121]⟩
  have q1 := fun (W : World) (Aw : Option Addr) (cw : Nat) (r : Rd W W.heap.size 1 Aw nv (scells vs)) => qQ W Aw cw r ⟨#[103, 122, 105, 112]⟩
  have q2 := fun (W : World) (Aw : Option Addr) (cw : Nat) (r : Rd W W.heap.size 1 Aw nv (scells vs)) => qQ W Aw cw r ⟨#[100, 101, 102, 108, 97, 116, 101]⟩
  have e0 : qL vs (⟨#[105, 100, 101, 110, 116, 105, 116, 121]⟩ : ByteArray).data.toList = wt 0 := by rw [hwt]; rfl
  have e1' : qL vs (⟨#[103, 122, 105, 112]⟩ : ByteArray).data.toList = wt 1 := by rw [hwt]; rfl
  have e2' : qL vs (⟨#[100, 101, 102, 108, 97, 116, 101]⟩ : ByteArray).data.toList = wt 2 := by rw [hwt]; rfl
  simp only [e0] at q0
  simp only [e1'] at q1
  simp only [e2'] at q2
  have HR := hide hr
  have HVS := hide hvs
  have HLM := hide hlm
  have HMM := hide hmm
  clear hr hK hM hf hvs' hnv h h1 hq hok hts hqs hvs hvl hql hms hlm hel hml hgl hfl hmm e1 e2 e0 e1' e2' hwt
  have z0 : Below w1.heap.size w1 w1 := Below.refl _ _
  go_enter Tryz.func10, Tryz.ntmps10
  go_upto_region 1 with (fail)
  try rw [hw1]
  try rw [hgc]
  try rw [hgq]
  try rw [hgr]
  clear hw1 hgc hgq hgr
  obtain ⟨d0, d1, d2, d3, d4, d5, d6, d7, d8, d9, d10, d11, d12, d13, d14⟩ := mk _ (Below.refl _ _)
  go_wp2_with fail
  refine (qC w1 z0).mono ?_
  rintro e w2 ⟨rfl, k2⟩
  clear d0 d1 d2 d3 d4 d5 d6 d7 d8 d9 d10 d11 d12 d13 d14
  obtain ⟨d0, d1, d2, d3, d4, d5, d6, d7, d8, d9, d10, d11, d12, d13, d14⟩ := mk _ k2
  rcases K with _ | _
  rotate_left
  · have hr : r = ((true, f, f), true) := HR.out
    subst hr
    go_wp2_with fail
    refine (qK w2 k2).mono ?_
    rintro e w3 ⟨rfl, k⟩
    go_wp2
    refine bodyPost_ret (results4 rfl _ _ _) rfl ?_
    exact ⟨by first | rfl | (simp [p4]; done) | (simp [p4, *]; done), b_ _ (k2.trans (k.mono k2.size))⟩
  rcases M with _ | _
  rotate_left
  · have hr : r = ((true, f, f), true) := HR.out
    subst hr
    go_wp2_with fail
    refine (qK w2 k2).mono ?_
    rintro e w3 ⟨rfl, k⟩
    have k3 := k2.trans (k.mono k2.size)
    clear k d0 d1 d2 d3 d4 d5 d6 d7 d8 d9 d10 d11 d12 d13 d14
    obtain ⟨d0, d1, d2, d3, d4, d5, d6, d7, d8, d9, d10, d11, d12, d13, d14⟩ := mk _ k3
    go_wp2_with fail
    refine (qM w3).mono ?_
    rintro e w4 ⟨rfl, rfl⟩
    go_wp2
    refine bodyPost_ret (results4 rfl _ _ _) rfl ?_
    exact ⟨by first | rfl | (simp [p4]; done) | (simp [p4, *]; done), b_ _ (k3)⟩
  go_wp2_with fail
  refine (qK w2 k2).mono ?_
  rintro e w3 ⟨rfl, k⟩
  have k3 := k2.trans (k.mono k2.size)
  clear k d0 d1 d2 d3 d4 d5 d6 d7 d8 d9 d10 d11 d12 d13 d14
  obtain ⟨d0, d1, d2, d3, d4, d5, d6, d7, d8, d9, d10, d11, d12, d13, d14⟩ := mk _ k3
  go_wp2_with fail
  refine (qM w3).mono ?_
  rintro e w4 ⟨rfl, rfl⟩
  go_wp2_with fail
  refine (qG w3 k3).mono ?_
  rintro e w4 ⟨Aw, cw, rfl, ow, -, k⟩
  have r4 := Rd.of_own ow
  have k4 := k3.trans (k.mono k3.size)
  clear k ow d0 d1 d2 d3 d4 d5 d6 d7 d8 d9 d10 d11 d12 d13 d14
  go_wp2_with fail
  refine (q0 w4 Aw cw r4).mono ?_
  rintro e w5 ⟨rfl, k⟩
  have r5 := step_ r4 k
  have k5 := k4.trans (k.mono k4.size)
  clear k r4
  go_wp2_with fail
  refine (q1 w5 Aw cw r5).mono ?_
  rintro e w6 ⟨rfl, k⟩
  have r6 := step_ r5 k
  have k6 := k5.trans (k.mono k5.size)
  clear k r5
  go_wp2_with fail
  refine (q2 w6 Aw cw r6).mono ?_
  rintro e w7 ⟨rfl, k⟩
  have r7 := step_ r6 k
  have k7 := k6.trans (k.mono k6.size)
  clear k r6
  obtain ⟨x0, hx0⟩ : ∃ x, wt 0 = x := ⟨_, rfl⟩
  obtain ⟨x1, hx1⟩ : ∃ x, wt 1 = x := ⟨_, rfl⟩
  obtain ⟨x2, hx2⟩ : ∃ x, wt 2 = x := ⟨_, rfl⟩
  try rw [hx0]
  try rw [hx1]
  try rw [hx2]
  have bw := Box.new w7 #[.int .i64 (x0 : Nat), .int .i64 (x1 : Nat), .int .i64 (x2 : Nat)] 3
  have ka := (Below.refl w7.heap.size w7).alloc (Nat.le_refl _) (.cells #[.int .i64 (x0 : Nat), .int .i64 (x1 : Nat), .int .i64 (x2 : Nat)] 3)
  have r8 := step_ r7 ka
  have k8 := k7.trans (ka.mono k7.size)
  obtain ⟨gw, hgw⟩ : ∃ g, w7.heap.size = g := ⟨_, rfl⟩
  rw [hgw] at bw
  go_upto_region 6 with (fail)
  try rw [hgw]
  clear hgw ka r7
  generalize w7.alloc _ = wb at bw r8 k8 ⊢
  have hbw : ∀ W, Below wb.heap.size wb W → ∀ k, k ≤ 2 → W.cell? ⟨gw, k, none⟩ = some (.int .i64 (wt k)) := fun W b k hk => by
    have b1 := bw.below b
    have : k = 0 ∨ k = 1 ∨ k = 2 := by omega
    rcases this with rfl | rfl | rfl
    · rw [hx0]; exact (b1.2 0 _ rfl).1
    · rw [hx1]; exact (b1.2 1 _ rfl).1
    · rw [hx2]; exact (b1.2 2 _ rfl).1
  by_cases h3 : f = 3
  · subst h3
    obtain ⟨oth, hoth⟩ : ∃ r, r = othersL vs ms := ⟨_, rfl⟩
    have hr : r = planL false 3 (3, oth) := by
      have := HR.out
      rw [← hoth] at this
      rw [this]
      have ht : toL wt oth el 3 = (3, oth) := by unfold toL; rw [if_pos rfl]
      rw [ht]; rfl
    have HR2 := hide hr
    have HO := hide hoth
    clear hr hoth HR hbw hx0 hx1 hx2 bw
    obtain ⟨d0, d1, d2, d3, d4, d5, d6, d7, d8, d9, d10, d11, d12, d13, d14⟩ := mk _ k8
    go_wp2_with fail
    refine (qA wb k8).mono ?_
    rintro e w9 ⟨Am, cm, rfl, om, -, k⟩
    have rm := Rd.of_own om
    have r9 := step_ r8 k
    have k9 := k8.trans (k.mono k8.size)
    clear k om r8 d0 d1 d2 d3 d4 d5 d6 d7 d8 d9 d10 d11 d12 d13 d14
    have hle : lm ≤ ms.length := by have := HLM.out; omega
    go_wp2_with fail
    go_loopw [14] (fun i wr => ∃ k : Nat, k ≤ lm ∧ i = .int .i64 k ∧ (ms.take k).all (otherB vs) = true ∧ Below w9.heap.size w9 wr) (fun i _ => lm - (intOf i).toNat)
    case atStart => exact ⟨0, Nat.zero_le _, rfl, rfl, Below.refl _ _⟩
    case round =>
      obtain ⟨k, hk, rfl, hall, hb⟩ := hrel
      have kr := k9.trans (hb.mono k9.size)
      by_cases hlt : k < lm
      · have hkl : k < ms.length := by omega
        obtain ⟨a, rfl, -, hcell⟩ := (rm.below hb).text hlt hkl
        have hsn := others_snoc (otherB vs) ms k hkl
        have hof := others_of (otherB vs) ms k hkl
        rw [hall, Bool.true_and] at hsn
        have hxs := HMM.out ms[k] (List.getElem_mem hkl)
        have hbz := hb.size
        have rr := step_ r9 hb
        obtain ⟨x, hx⟩ : ∃ x, x = ms[k] := ⟨_, rfl⟩
        rw [← hx] at hcell hsn hxs hof
        have hl := fun W => reflower_any ⟨x.toArray⟩ W (by rw [mk_size]; omega)
        rw [mk_list] at hl
        have hox : otherB vs x = decide (qL vs (if lowL x = xgzL then kindL 1 else lowL x) ≠ 0) := rfl
        obtain ⟨y, hy⟩ : ∃ y, y = lowL x := ⟨_, rfl⟩
        rw [← hy] at hl hox
        have hqq : ((⟨y.toArray⟩ : ByteArray).toList == [120, 45, 103, 122, 105, 112]) = decide (y = xgzL) := by rw [ByteArray.toList_eq, Bool.eq_iff_iff, decide_eq_true_iff]; simp [xgzL]
        obtain ⟨sx, hsx⟩ : ∃ sx : ByteArray, sx = ⟨x.toArray⟩ := ⟨_, rfl⟩
        obtain ⟨sy, hsy⟩ : ∃ sy : ByteArray, sy = ⟨y.toArray⟩ := ⟨_, rfl⟩
        rw [← hsx] at hcell
        simp only [← hsx, ← hsy] at hl
        rw [← hsy] at hqq
        obtain ⟨sz, hsz, hzq, hcond⟩ : ∃ sz : ByteArray, ∃ bz : Bool, (sy.toList == [120, 45, 103, 122, 105, 112]) = bz ∧ sz = (if bz = true then ⟨#[103, 122, 105, 112]⟩ else sy) := ⟨_, _, rfl, rfl⟩
        have hqz : qL vs sz.data.toList = qL vs (if y = xgzL then kindL 1 else y) := by
          rw [hcond, ← hzq, hqq]
          by_cases hg : y = xgzL
          · rw [if_pos (decide_eq_true hg), if_pos hg]; rfl
          · rw [if_neg (by simpa using hg), if_neg hg, hsy]
        rw [← hqz] at hox
        have qz := fun W (rW : Rd W W.heap.size 1 Aw nv (scells vs)) => qQ W Aw cw rW sz
        obtain ⟨v, hv⟩ : ∃ v, v = qL vs sz.data.toList := ⟨_, rfl⟩
        rw [← hv] at hox
        simp only [← hv] at qz
        rw [hox] at hsn hof
        clear hx hy hsx hsy hv hall hqq hqz hox
        by_cases h0 : v = 0
        · subst h0
          have hF : oth = false := by rw [HO.out]; exact hof rfl
          subst hF
          have hr : r = ((false, 0, 0), false) := HR2.out
          subst hr
          clear hsn hof
          rcases hsz with _ | _
          · rw [if_neg (by decide)] at hcond
            subst hcond
            go_wp2_with fail
            refine (hl wr).mono ?_
            rintro e wx ⟨rfl, k2'⟩
            go_wp2_with fail
            refine (qz wx (step_ rr k2')).mono ?_
            rintro e wy ⟨rfl, k3'⟩
            go_wp2
            refine bodyPost_ret (results4 rfl _ _ _) rfl ?_
            exact ⟨by first | rfl | (simp [p4]; done) | (simp [p4, *]; done), b_ _ ((kr.trans (k2'.mono kr.size)).trans (k3'.mono (kr.trans (k2'.mono kr.size)).size))⟩
          · rw [if_pos rfl] at hcond
            subst hcond
            go_wp2_with fail
            refine (hl wr).mono ?_
            rintro e wx ⟨rfl, k2'⟩
            go_wp2_with fail
            refine (qz wx (step_ rr k2')).mono ?_
            rintro e wy ⟨rfl, k3'⟩
            go_wp2
            refine bodyPost_ret (results4 rfl _ _ _) rfl ?_
            exact ⟨by first | rfl | (simp [p4]; done) | (simp [p4, *]; done), b_ _ ((kr.trans (k2'.mono kr.size)).trans (k3'.mono (kr.trans (k2'.mono kr.size)).size))⟩
        · have e0 : ((v : Int) == 0) = false := by simpa using h0
          rw [decide_eq_true h0] at hsn
          have HS := hide hsn
          clear hsn hof h0
          rcases hsz with _ | _
          · rw [if_neg (by decide)] at hcond
            subst hcond
            go_wp2_with fail
            refine (hl wr).mono ?_
            rintro e wx ⟨rfl, k2'⟩
            go_wp2_with fail
            refine (qz wx (step_ rr k2')).mono ?_
            rintro e wy ⟨rfl, k3'⟩
            go_wp2
            go_roundw
            case rel => exact ⟨k + 1, by omega, by go_num, HS.out, (hb.trans (k2'.mono hbz)).trans (k3'.mono (hb.trans (k2'.mono hbz)).size)⟩
            case measure => simp [intOf]; omega
          · rw [if_pos rfl] at hcond
            subst hcond
            go_wp2_with fail
            refine (hl wr).mono ?_
            rintro e wx ⟨rfl, k2'⟩
            go_wp2_with fail
            refine (qz wx (step_ rr k2')).mono ?_
            rintro e wy ⟨rfl, k3'⟩
            go_wp2
            go_roundw
            case rel => exact ⟨k + 1, by omega, by go_num, HS.out, (hb.trans (k2'.mono hbz)).trans (k3'.mono (hb.trans (k2'.mono hbz)).size)⟩
            case measure => simp [intOf]; omega
      · have hT : oth = true := by rw [HO.out]; rw [List.take_of_length_le (by have := HLM.out; omega)] at hall; exact hall
        subst hT
        have hr : r = ((true, 3, 3), true) := by rw [HR2.out]; rfl
        subst hr
        clear hall
        go_wp2
        refine bodyPost_ret (results4 rfl _ _ _) rfl ?_
        exact ⟨by first | rfl | (simp [p4]; done) | (simp [p4, *]; done), b_ _ (kr)⟩
  · have hf2 : f ≤ 2 := by omega
    have e3 : ((f : Int) == 3) = false := by rw [beq_eq_false_iff_ne]; omega
    have hr : r = planO f (foldO wt (ordL wt el f).2 (ordL wt el f).1) := by
      have := HR.out
      rw [this]
      exact plan_same wt _ el f h3
    have hol := ord_le wt el f hf2
    have hon := ord_len wt el f
    have hos : ordL wt el f = if el = true then ([1, 2, 0], false) else if f = 0 then (if 0 < wt 0 then ([0], false) else ([1, 2], false)) else ([f, 0, 3 - f], true) := rfl
    obtain ⟨⟨os, st⟩, hoo⟩ : ∃ o, o = ordL wt el f := ⟨_, rfl⟩
    rw [← hoo] at hr hol hon hos
    dsimp only at hr hol hon
    have HRO := hide hr
    have HOL := hide hol
    clear hr HR hoo hol HLM HMM HVS qA qC qK qM qG q0 q1 q2 qQ h3 r8
    obtain ⟨no, hno⟩ : ∃ k, k = os.length := ⟨_, rfl⟩
    rw [← hno] at hon
    have w0 := hbw wb (Below.refl _ _) 0 (by omega)
    obtain ⟨d0, d1, d2, d3, d4, d5, d6, d7, d8, d9, d10, d11, d12, d13, d14⟩ := mk _ k8
    go_upto_block 2 with fail
    go_cut [16, 17] from 66 to 90 (fun s s' wx => ∃ Ao co, s = .slice Ao no co ∧ s' = .bool st ∧ Rd wx wx.heap.size 1 Ao no (kcells os) ∧ Below wb.heap.size wb wx)
    case first =>
      rcases el with _ | _
      · rw [if_neg (by decide)] at hos
        by_cases h0 : f = 0
        · subst h0
          rw [if_pos rfl] at hos
          by_cases hw0 : 0 < wt 0
          · rw [if_pos hw0] at hos
            obtain ⟨rfl, rfl⟩ := Prod.mk.inj hos
            subst hno
            rw [hx0] at w0 hw0
            go_wp2_with fail
            refine (qE wb k8).mono ?_
            rintro e w9 ⟨rfl, k9⟩
            have w0' := hbw w9 k9 0 (by omega)
            rw [hx0] at w0'
            have rk := (rd_new w9 #[.int .i64 0] 3 1 1 rfl).mono (B' := (w9.alloc (.cells #[.int .i64 0] 3)).heap.size) (by simp)
            have ka := (Below.refl w9.heap.size w9).alloc (Nat.le_refl _) (.cells #[.int .i64 0] 3)
            go_wp2_with fail
            go_meet
            exact ⟨_, _, rfl, rfl, rk, k9.trans (ka.mono k9.size)⟩
          · rw [if_neg hw0] at hos
            obtain ⟨rfl, rfl⟩ := Prod.mk.inj hos
            subst hno
            rw [hx0] at w0 hw0
            go_wp2_with fail
            refine (qE wb k8).mono ?_
            rintro e w9 ⟨rfl, k9⟩
            have w0' := hbw w9 k9 0 (by omega)
            rw [hx0] at w0'
            have rk := (rd_new w9 #[.int .i64 1, .int .i64 2] 3 1 2 rfl).mono (B' := (w9.alloc (.cells #[.int .i64 1, .int .i64 2] 3)).heap.size) (by simp)
            have ka := (Below.refl w9.heap.size w9).alloc (Nat.le_refl _) (.cells #[.int .i64 1, .int .i64 2] 3)
            go_wp2_with fail
            go_meet
            exact ⟨_, _, rfl, rfl, rk, k9.trans (ka.mono k9.size)⟩
        · rw [if_neg h0] at hos
          obtain ⟨rfl, rfl⟩ := Prod.mk.inj hos
          subst hno
          have hf12 : f = 1 ∨ f = 2 := by omega
          rcases hf12 with rfl | rfl
          · go_wp2_with fail
            refine (qE wb k8).mono ?_
            rintro e w9 ⟨rfl, k9⟩
            have rk := (rd_new w9 #[.int .i64 1, .int .i64 0, .int .i64 2] 3 1 3 rfl).mono (B' := (w9.alloc (.cells #[.int .i64 1, .int .i64 0, .int .i64 2] 3)).heap.size) (by simp)
            have ka := (Below.refl w9.heap.size w9).alloc (Nat.le_refl _) (.cells #[.int .i64 1, .int .i64 0, .int .i64 2] 3)
            go_wp2_with fail
            go_meet
            exact ⟨_, _, rfl, rfl, rk, k9.trans (ka.mono k9.size)⟩
          · go_wp2_with fail
            refine (qE wb k8).mono ?_
            rintro e w9 ⟨rfl, k9⟩
            have rk := (rd_new w9 #[.int .i64 2, .int .i64 0, .int .i64 1] 3 1 3 rfl).mono (B' := (w9.alloc (.cells #[.int .i64 2, .int .i64 0, .int .i64 1] 3)).heap.size) (by simp)
            have ka := (Below.refl w9.heap.size w9).alloc (Nat.le_refl _) (.cells #[.int .i64 2, .int .i64 0, .int .i64 1] 3)
            go_wp2_with fail
            go_meet
            exact ⟨_, _, rfl, rfl, rk, k9.trans (ka.mono k9.size)⟩
      · rw [if_pos rfl] at hos
        obtain ⟨rfl, rfl⟩ := Prod.mk.inj hos
        subst hno
        go_wp2_with fail
        refine (qE wb k8).mono ?_
        rintro e w9 ⟨rfl, k9⟩
        have rk := (rd_new w9 #[.int .i64 1, .int .i64 2, .int .i64 0] 3 1 3 rfl).mono (B' := (w9.alloc (.cells #[.int .i64 1, .int .i64 2, .int .i64 0] 3)).heap.size) (by simp)
        have ka := (Below.refl w9.heap.size w9).alloc (Nat.le_refl _) (.cells #[.int .i64 1, .int .i64 2, .int .i64 0] 3)
        go_wp2_with fail
        go_meet
        exact ⟨_, _, rfl, rfl, rk, k9.trans (ka.mono k9.size)⟩
    case rest =>
      obtain ⟨Ao, co, rfl, rfl, ro, kc⟩ := hcut
      clear w0 d0 d1 d2 d3 d4 d5 d6 d7 d8 d9 d10 d11 d12 d13 d14
      have kz := k8.trans (kc.mono k8.size)
      have hbc : ∀ W, Below wc.heap.size wc W → ∀ k, k ≤ 2 → W.cell? ⟨gw, k, none⟩ = some (.int .i64 (wt k)) := fun W b k hk => hbw W (kc.trans (b.mono kc.size)) k hk
      have HNO := hide hno
      clear hbw hx0 hx1 hx2 bw hno hos qE k7 k6 k5 k4 k3 k2
      have hle : no ≤ os.length := by have := HNO.out; omega
      go_wp2_with fail
      go_loopw [18, 19] (fun b i wr => ∃ k : Nat, k ≤ no ∧ i = .int .i64 k ∧ b = .int .i64 (optI (foldO wt st (os.take k))) ∧ ∃ q, wr = wc.drewN q) (fun _ i _ => no - (intOf i).toNat)
      case atStart => exact ⟨0, Nat.zero_le _, rfl, rfl, 0, rfl⟩
      case round =>
        obtain ⟨k, hk, rfl, rfl, q, rfl⟩ := hrel
        by_cases hlt : k < no
        · have hkl : k < os.length := by omega
          obtain ⟨a, rfl, -, hcell⟩ := (ro.drewN q).kind hlt hkl
          have hsn := foldO_snoc wt st os k hkl
          have hx2 := HOL.out os[k] (List.getElem_mem hkl)
          have hfm : ∀ b, foldO wt st (os.take k) = some b → b ≤ 2 := fun b hb => foldO_mem wt st (· ≤ 2) (os.take k) none (fun _ h => by cases h) (fun x hx => HOL.out x (List.mem_of_mem_take hx)) b hb
          obtain ⟨x, hx⟩ : ∃ x, x = os[k] := ⟨_, rfl⟩
          rw [← hx] at hcell hsn hx2
          obtain ⟨o, ho⟩ : ∃ o, o = foldO wt st (os.take k) := ⟨_, rfl⟩
          rw [← ho] at hsn hfm ⊢
          have c1 := hbc (wc.drewN q) (below_drewN (Below.refl _ _)) x hx2
          have i1 : (0 : Int) ≤ (x : Int) := by omega
          have i2 : (x : Int) < 3 := by omega
          clear hx ho
          rcases o with _ | b0
          · rw [stepO_none] at hsn
            rw [show optI none = (-1 : Int) from rfl]
            obtain ⟨v, hv⟩ : ∃ v, wt x = v := ⟨_, rfl⟩
            rw [hv] at hsn c1
            by_cases h0 : 0 < v
            · rw [if_pos h0] at hsn
              have HS := hide hsn
              clear hsn hv hfm
              go_upto_region 32 with (fail)
              refine CalmP.hideN (fun K0 hQ => ?_)
              refine wp_region_held_drew (S := (fun W : World => W.cell? ⟨gw, x, none⟩ = some (.int .i64 v))) (by kernel_rfl) c1 (fun hHeld => ?_)
              refine wpAnyH_take (i := 0) (v := ?_) rfl (by kernel_rfl) (by kernel_rfl) (by kernel_rfl) CalmP.onlyN_panic (Or.inl ⟨by kernel_rfl, ?_⟩) (by assumption) ?_
              rotate_left
              · (intro w_ hSw; (try dsimp only at hSw); go_simp; try with_reducible rfl)
              try simp only [List.getElem_toArray, List.getElem_cons_succ, List.getElem_cons_zero, Act.put, List.setIfInBounds_toArray, List.set_cons_zero, List.set_cons_succ]
              refine wpAnyH_take (i := 1) (v := ?_) rfl (by kernel_rfl) (by kernel_rfl) (by kernel_rfl) CalmP.onlyN_panic (Or.inl ⟨by kernel_rfl, ?_⟩) (by assumption) ?_
              rotate_left
              · (intro w_ hSw; (try dsimp only at hSw); go_simp; try with_reducible rfl)
              try simp only [List.getElem_toArray, List.getElem_cons_succ, List.getElem_cons_zero, Act.put, List.setIfInBounds_toArray, List.set_cons_zero, List.set_cons_succ]
              refine wpAnyH_take (i := 2) (v := ?_) rfl (by kernel_rfl) (by kernel_rfl) (by kernel_rfl) CalmP.onlyN_panic (Or.inl ⟨by kernel_rfl, ?_⟩) (by assumption) ?_
              rotate_left
              · (intro w_ hSw; (try dsimp only at hSw); go_simp; try with_reducible rfl)
              try simp only [List.getElem_toArray, List.getElem_cons_succ, List.getElem_cons_zero, Act.put, List.setIfInBounds_toArray, List.set_cons_zero, List.set_cons_succ]
              refine wpAnyH_take (i := 3) (v := ?_) rfl (by kernel_rfl) (by kernel_rfl) (by kernel_rfl) CalmP.onlyN_panic (Or.inl ⟨by kernel_rfl, ?_⟩) (by assumption) ?_
              rotate_left
              · (intro w_ hSw; (try dsimp only at hSw); go_simp; try with_reducible rfl)
              try simp only [List.getElem_toArray, List.getElem_cons_succ, List.getElem_cons_zero, Act.put, List.setIfInBounds_toArray, List.set_cons_zero, List.set_cons_succ]
              refine wpAnyH_take (i := 4) (v := ?_) rfl (by kernel_rfl) (by kernel_rfl) (by kernel_rfl) CalmP.onlyN_panic (Or.inl ⟨by kernel_rfl, ?_⟩) (by assumption) ?_
              rotate_left
              · (intro w_ hSw; (try dsimp only at hSw); go_simp; try with_reducible rfl)
              try simp only [List.getElem_toArray, List.getElem_cons_succ, List.getElem_cons_zero, Act.put, List.setIfInBounds_toArray, List.set_cons_zero, List.set_cons_succ]
              refine wpAnyH_take (i := 5) (v := ?_) rfl (by kernel_rfl) (by kernel_rfl) (by kernel_rfl) CalmP.onlyN_panic (Or.inl ⟨by kernel_rfl, ?_⟩) (by assumption) ?_
              rotate_left
              · (intro w_ hSw; (try dsimp only at hSw); go_simp; try with_reducible rfl)
              try simp only [List.getElem_toArray, List.getElem_cons_succ, List.getElem_cons_zero, Act.put, List.setIfInBounds_toArray, List.set_cons_zero, List.set_cons_succ]
              refine wpAnyH_take (i := 6) (v := ?_) rfl (by kernel_rfl) (by kernel_rfl) (by kernel_rfl) CalmP.onlyN_panic (Or.inl ⟨by kernel_rfl, ?_⟩) (by assumption) ?_
              rotate_left
              · (intro w_ hSw; (try dsimp only at hSw); go_simp; try with_reducible rfl)
              try simp only [List.getElem_toArray, List.getElem_cons_succ, List.getElem_cons_zero, Act.put, List.setIfInBounds_toArray, List.set_cons_zero, List.set_cons_succ]
              refine wpAnyH_take (i := 7) (v := ?_) rfl (by kernel_rfl) (by kernel_rfl) (by kernel_rfl) CalmP.onlyN_panic (Or.inl ⟨by kernel_rfl, ?_⟩) (by assumption) ?_
              rotate_left
              · (intro w_ hSw; (try dsimp only at hSw); go_simp; try with_reducible rfl)
              try simp only [List.getElem_toArray, List.getElem_cons_succ, List.getElem_cons_zero, Act.put, List.setIfInBounds_toArray, List.set_cons_zero, List.set_cons_succ]
              refine wpAnyH_take (i := 8) (v := ?_) rfl (by kernel_rfl) (by kernel_rfl) (by kernel_rfl) CalmP.onlyN_panic (Or.inl ⟨by kernel_rfl, ?_⟩) (by assumption) ?_
              rotate_left
              · (intro w_ hSw; (try dsimp only at hSw); go_simp; try with_reducible rfl)
              try simp only [List.getElem_toArray, List.getElem_cons_succ, List.getElem_cons_zero, Act.put, List.setIfInBounds_toArray, List.set_cons_zero, List.set_cons_succ]
              refine wpAnyH_take (i := 9) (v := undef) rfl (by kernel_rfl) (by kernel_rfl) (by kernel_rfl) CalmP.onlyN_panic (Or.inr ⟨by kernel_rfl, rfl⟩) (by assumption) ?_
              try simp only [List.getElem_toArray, List.getElem_cons_succ, List.getElem_cons_zero, Act.put, List.setIfInBounds_toArray, List.set_cons_zero, List.set_cons_succ]
              refine wpAnyH_take (i := 10) (v := undef) rfl (by kernel_rfl) (by kernel_rfl) (by kernel_rfl) CalmP.onlyN_panic (Or.inr ⟨by kernel_rfl, rfl⟩) (by assumption) ?_
              try simp only [List.getElem_toArray, List.getElem_cons_succ, List.getElem_cons_zero, Act.put, List.setIfInBounds_toArray, List.set_cons_zero, List.set_cons_succ]
              refine wpAnyH_take (i := 11) (v := undef) rfl (by kernel_rfl) (by kernel_rfl) (by kernel_rfl) CalmP.onlyN_panic (Or.inr ⟨by kernel_rfl, rfl⟩) (by assumption) ?_
              try simp only [List.getElem_toArray, List.getElem_cons_succ, List.getElem_cons_zero, Act.put, List.setIfInBounds_toArray, List.set_cons_zero, List.set_cons_succ]
              refine wpAnyH_take (i := 12) (v := undef) rfl (by kernel_rfl) (by kernel_rfl) (by kernel_rfl) CalmP.onlyN_panic (Or.inr ⟨by kernel_rfl, rfl⟩) (by assumption) ?_
              try simp only [List.getElem_toArray, List.getElem_cons_succ, List.getElem_cons_zero, Act.put, List.setIfInBounds_toArray, List.set_cons_zero, List.set_cons_succ]
              refine wpAnyH_take (i := 13) (v := undef) rfl (by kernel_rfl) (by kernel_rfl) (by kernel_rfl) CalmP.onlyN_panic (Or.inr ⟨by kernel_rfl, rfl⟩) (by assumption) ?_
              try simp only [List.getElem_toArray, List.getElem_cons_succ, List.getElem_cons_zero, Act.put, List.setIfInBounds_toArray, List.set_cons_zero, List.set_cons_succ]
              refine wpAnyH_take (i := 14) (v := undef) rfl (by kernel_rfl) (by kernel_rfl) (by kernel_rfl) CalmP.onlyN_panic (Or.inr ⟨by kernel_rfl, rfl⟩) (by assumption) ?_
              try simp only [List.getElem_toArray, List.getElem_cons_succ, List.getElem_cons_zero, Act.put, List.setIfInBounds_toArray, List.set_cons_zero, List.set_cons_succ]
              refine wpAnyH_take (i := 15) (v := undef) rfl (by kernel_rfl) (by kernel_rfl) (by kernel_rfl) CalmP.onlyN_panic (Or.inr ⟨by kernel_rfl, rfl⟩) (by assumption) ?_
              try simp only [List.getElem_toArray, List.getElem_cons_succ, List.getElem_cons_zero, Act.put, List.setIfInBounds_toArray, List.set_cons_zero, List.set_cons_succ]
              refine wpAnyH_take (i := 16) (v := undef) rfl (by kernel_rfl) (by kernel_rfl) (by kernel_rfl) CalmP.onlyN_panic (Or.inr ⟨by kernel_rfl, rfl⟩) (by assumption) ?_
              try simp only [List.getElem_toArray, List.getElem_cons_succ, List.getElem_cons_zero, Act.put, List.setIfInBounds_toArray, List.set_cons_zero, List.set_cons_succ]
              refine wpAnyH_take (i := 17) (v := undef) rfl (by kernel_rfl) (by kernel_rfl) (by kernel_rfl) CalmP.onlyN_panic (Or.inr ⟨by kernel_rfl, rfl⟩) (by assumption) ?_
              try simp only [List.getElem_toArray, List.getElem_cons_succ, List.getElem_cons_zero, Act.put, List.setIfInBounds_toArray, List.set_cons_zero, List.set_cons_succ]
              refine wpAnyH_take (i := 18) (v := undef) rfl (by kernel_rfl) (by kernel_rfl) (by kernel_rfl) CalmP.onlyN_panic (Or.inr ⟨by kernel_rfl, rfl⟩) (by assumption) ?_
              try simp only [List.getElem_toArray, List.getElem_cons_succ, List.getElem_cons_zero, Act.put, List.setIfInBounds_toArray, List.set_cons_zero, List.set_cons_succ]
              refine wpAnyH_take (i := 19) (v := undef) rfl (by kernel_rfl) (by kernel_rfl) (by kernel_rfl) CalmP.onlyN_panic (Or.inr ⟨by kernel_rfl, rfl⟩) (by assumption) ?_
              try simp only [List.getElem_toArray, List.getElem_cons_succ, List.getElem_cons_zero, Act.put, List.setIfInBounds_toArray, List.set_cons_zero, List.set_cons_succ]
              refine wpAnyH_take (i := 20) (v := undef) rfl (by kernel_rfl) (by kernel_rfl) (by kernel_rfl) CalmP.onlyN_panic (Or.inr ⟨by kernel_rfl, rfl⟩) (by assumption) ?_
              try simp only [List.getElem_toArray, List.getElem_cons_succ, List.getElem_cons_zero, Act.put, List.setIfInBounds_toArray, List.set_cons_zero, List.set_cons_succ]
              refine wpAnyH_take (i := 21) (v := undef) rfl (by kernel_rfl) (by kernel_rfl) (by kernel_rfl) CalmP.onlyN_panic (Or.inr ⟨by kernel_rfl, rfl⟩) (by assumption) ?_
              try simp only [List.getElem_toArray, List.getElem_cons_succ, List.getElem_cons_zero, Act.put, List.setIfInBounds_toArray, List.set_cons_zero, List.set_cons_succ]
              refine wpAnyH_take (i := 22) (v := ?_) rfl (by kernel_rfl) (by kernel_rfl) (by kernel_rfl) CalmP.onlyN_panic (Or.inl ⟨by kernel_rfl, ?_⟩) (by assumption) ?_
              rotate_left
              · (intro w_ hSw; (try dsimp only at hSw); go_simp; try with_reducible rfl)
              try simp only [List.getElem_toArray, List.getElem_cons_succ, List.getElem_cons_zero, Act.put, List.setIfInBounds_toArray, List.set_cons_zero, List.set_cons_succ]
              refine wpAnyH_take (i := 23) (v := ?_) rfl (by kernel_rfl) (by kernel_rfl) (by kernel_rfl) CalmP.onlyN_panic (Or.inl ⟨by kernel_rfl, ?_⟩) (by assumption) ?_
              rotate_left
              · (intro w_ hSw; (try dsimp only at hSw); go_simp; try with_reducible rfl)
              try simp only [List.getElem_toArray, List.getElem_cons_succ, List.getElem_cons_zero, Act.put, List.setIfInBounds_toArray, List.set_cons_zero, List.set_cons_succ]
              refine wpAnyH_done (by kernel_rfl) ?_ _
              refine CalmP.onlyN_here (hQ.out _ _ ?_)
              clear hQ K0
              go_wp2
              go_roundw
              case rel => exact ⟨k + 1, by omega, by go_num, by rw [HS.out]; rfl, _, World.drewN_drewN wc q 1⟩
              case measure => simp [intOf]; omega
            · rw [if_neg h0] at hsn
              have HS := hide hsn
              clear hsn hv hfm
              go_upto_region 32 with (fail)
              refine CalmP.hideN (fun K0 hQ => ?_)
              refine wp_region_held_drew (S := (fun W : World => W.cell? ⟨gw, x, none⟩ = some (.int .i64 v))) (by kernel_rfl) c1 (fun hHeld => ?_)
              refine wpAnyH_take (i := 0) (v := ?_) rfl (by kernel_rfl) (by kernel_rfl) (by kernel_rfl) CalmP.onlyN_panic (Or.inl ⟨by kernel_rfl, ?_⟩) (by assumption) ?_
              rotate_left
              · (intro w_ hSw; (try dsimp only at hSw); go_simp; try with_reducible rfl)
              try simp only [List.getElem_toArray, List.getElem_cons_succ, List.getElem_cons_zero, Act.put, List.setIfInBounds_toArray, List.set_cons_zero, List.set_cons_succ]
              refine wpAnyH_take (i := 1) (v := ?_) rfl (by kernel_rfl) (by kernel_rfl) (by kernel_rfl) CalmP.onlyN_panic (Or.inl ⟨by kernel_rfl, ?_⟩) (by assumption) ?_
              rotate_left
              · (intro w_ hSw; (try dsimp only at hSw); go_simp; try with_reducible rfl)
              try simp only [List.getElem_toArray, List.getElem_cons_succ, List.getElem_cons_zero, Act.put, List.setIfInBounds_toArray, List.set_cons_zero, List.set_cons_succ]
              refine wpAnyH_take (i := 2) (v := ?_) rfl (by kernel_rfl) (by kernel_rfl) (by kernel_rfl) CalmP.onlyN_panic (Or.inl ⟨by kernel_rfl, ?_⟩) (by assumption) ?_
              rotate_left
              · (intro w_ hSw; (try dsimp only at hSw); go_simp; try with_reducible rfl)
              try simp only [List.getElem_toArray, List.getElem_cons_succ, List.getElem_cons_zero, Act.put, List.setIfInBounds_toArray, List.set_cons_zero, List.set_cons_succ]
              refine wpAnyH_take (i := 3) (v := ?_) rfl (by kernel_rfl) (by kernel_rfl) (by kernel_rfl) CalmP.onlyN_panic (Or.inl ⟨by kernel_rfl, ?_⟩) (by assumption) ?_
              rotate_left
              · (intro w_ hSw; (try dsimp only at hSw); go_simp; try with_reducible rfl)
              try simp only [List.getElem_toArray, List.getElem_cons_succ, List.getElem_cons_zero, Act.put, List.setIfInBounds_toArray, List.set_cons_zero, List.set_cons_succ]
              refine wpAnyH_take (i := 4) (v := ?_) rfl (by kernel_rfl) (by kernel_rfl) (by kernel_rfl) CalmP.onlyN_panic (Or.inl ⟨by kernel_rfl, ?_⟩) (by assumption) ?_
              rotate_left
              · (intro w_ hSw; (try dsimp only at hSw); go_simp; try with_reducible rfl)
              try simp only [List.getElem_toArray, List.getElem_cons_succ, List.getElem_cons_zero, Act.put, List.setIfInBounds_toArray, List.set_cons_zero, List.set_cons_succ]
              refine wpAnyH_take (i := 5) (v := ?_) rfl (by kernel_rfl) (by kernel_rfl) (by kernel_rfl) CalmP.onlyN_panic (Or.inl ⟨by kernel_rfl, ?_⟩) (by assumption) ?_
              rotate_left
              · (intro w_ hSw; (try dsimp only at hSw); go_simp; try with_reducible rfl)
              try simp only [List.getElem_toArray, List.getElem_cons_succ, List.getElem_cons_zero, Act.put, List.setIfInBounds_toArray, List.set_cons_zero, List.set_cons_succ]
              refine wpAnyH_take (i := 6) (v := undef) rfl (by kernel_rfl) (by kernel_rfl) (by kernel_rfl) CalmP.onlyN_panic (Or.inr ⟨by kernel_rfl, rfl⟩) (by assumption) ?_
              try simp only [List.getElem_toArray, List.getElem_cons_succ, List.getElem_cons_zero, Act.put, List.setIfInBounds_toArray, List.set_cons_zero, List.set_cons_succ]
              refine wpAnyH_take (i := 7) (v := undef) rfl (by kernel_rfl) (by kernel_rfl) (by kernel_rfl) CalmP.onlyN_panic (Or.inr ⟨by kernel_rfl, rfl⟩) (by assumption) ?_
              try simp only [List.getElem_toArray, List.getElem_cons_succ, List.getElem_cons_zero, Act.put, List.setIfInBounds_toArray, List.set_cons_zero, List.set_cons_succ]
              refine wpAnyH_take (i := 8) (v := undef) rfl (by kernel_rfl) (by kernel_rfl) (by kernel_rfl) CalmP.onlyN_panic (Or.inr ⟨by kernel_rfl, rfl⟩) (by assumption) ?_
              try simp only [List.getElem_toArray, List.getElem_cons_succ, List.getElem_cons_zero, Act.put, List.setIfInBounds_toArray, List.set_cons_zero, List.set_cons_succ]
              refine wpAnyH_take (i := 9) (v := undef) rfl (by kernel_rfl) (by kernel_rfl) (by kernel_rfl) CalmP.onlyN_panic (Or.inr ⟨by kernel_rfl, rfl⟩) (by assumption) ?_
              try simp only [List.getElem_toArray, List.getElem_cons_succ, List.getElem_cons_zero, Act.put, List.setIfInBounds_toArray, List.set_cons_zero, List.set_cons_succ]
              refine wpAnyH_take (i := 10) (v := undef) rfl (by kernel_rfl) (by kernel_rfl) (by kernel_rfl) CalmP.onlyN_panic (Or.inr ⟨by kernel_rfl, rfl⟩) (by assumption) ?_
              try simp only [List.getElem_toArray, List.getElem_cons_succ, List.getElem_cons_zero, Act.put, List.setIfInBounds_toArray, List.set_cons_zero, List.set_cons_succ]
              refine wpAnyH_take (i := 11) (v := undef) rfl (by kernel_rfl) (by kernel_rfl) (by kernel_rfl) CalmP.onlyN_panic (Or.inr ⟨by kernel_rfl, rfl⟩) (by assumption) ?_
              try simp only [List.getElem_toArray, List.getElem_cons_succ, List.getElem_cons_zero, Act.put, List.setIfInBounds_toArray, List.set_cons_zero, List.set_cons_succ]
              refine wpAnyH_take (i := 12) (v := undef) rfl (by kernel_rfl) (by kernel_rfl) (by kernel_rfl) CalmP.onlyN_panic (Or.inr ⟨by kernel_rfl, rfl⟩) (by assumption) ?_
              try simp only [List.getElem_toArray, List.getElem_cons_succ, List.getElem_cons_zero, Act.put, List.setIfInBounds_toArray, List.set_cons_zero, List.set_cons_succ]
              refine wpAnyH_take (i := 13) (v := undef) rfl (by kernel_rfl) (by kernel_rfl) (by kernel_rfl) CalmP.onlyN_panic (Or.inr ⟨by kernel_rfl, rfl⟩) (by assumption) ?_
              try simp only [List.getElem_toArray, List.getElem_cons_succ, List.getElem_cons_zero, Act.put, List.setIfInBounds_toArray, List.set_cons_zero, List.set_cons_succ]
              refine wpAnyH_take (i := 14) (v := undef) rfl (by kernel_rfl) (by kernel_rfl) (by kernel_rfl) CalmP.onlyN_panic (Or.inr ⟨by kernel_rfl, rfl⟩) (by assumption) ?_
              try simp only [List.getElem_toArray, List.getElem_cons_succ, List.getElem_cons_zero, Act.put, List.setIfInBounds_toArray, List.set_cons_zero, List.set_cons_succ]
              refine wpAnyH_take (i := 15) (v := undef) rfl (by kernel_rfl) (by kernel_rfl) (by kernel_rfl) CalmP.onlyN_panic (Or.inr ⟨by kernel_rfl, rfl⟩) (by assumption) ?_
              try simp only [List.getElem_toArray, List.getElem_cons_succ, List.getElem_cons_zero, Act.put, List.setIfInBounds_toArray, List.set_cons_zero, List.set_cons_succ]
              refine wpAnyH_take (i := 16) (v := undef) rfl (by kernel_rfl) (by kernel_rfl) (by kernel_rfl) CalmP.onlyN_panic (Or.inr ⟨by kernel_rfl, rfl⟩) (by assumption) ?_
              try simp only [List.getElem_toArray, List.getElem_cons_succ, List.getElem_cons_zero, Act.put, List.setIfInBounds_toArray, List.set_cons_zero, List.set_cons_succ]
              refine wpAnyH_take (i := 17) (v := undef) rfl (by kernel_rfl) (by kernel_rfl) (by kernel_rfl) CalmP.onlyN_panic (Or.inr ⟨by kernel_rfl, rfl⟩) (by assumption) ?_
              try simp only [List.getElem_toArray, List.getElem_cons_succ, List.getElem_cons_zero, Act.put, List.setIfInBounds_toArray, List.set_cons_zero, List.set_cons_succ]
              refine wpAnyH_take (i := 18) (v := undef) rfl (by kernel_rfl) (by kernel_rfl) (by kernel_rfl) CalmP.onlyN_panic (Or.inr ⟨by kernel_rfl, rfl⟩) (by assumption) ?_
              try simp only [List.getElem_toArray, List.getElem_cons_succ, List.getElem_cons_zero, Act.put, List.setIfInBounds_toArray, List.set_cons_zero, List.set_cons_succ]
              refine wpAnyH_take (i := 19) (v := undef) rfl (by kernel_rfl) (by kernel_rfl) (by kernel_rfl) CalmP.onlyN_panic (Or.inr ⟨by kernel_rfl, rfl⟩) (by assumption) ?_
              try simp only [List.getElem_toArray, List.getElem_cons_succ, List.getElem_cons_zero, Act.put, List.setIfInBounds_toArray, List.set_cons_zero, List.set_cons_succ]
              refine wpAnyH_take (i := 20) (v := undef) rfl (by kernel_rfl) (by kernel_rfl) (by kernel_rfl) CalmP.onlyN_panic (Or.inr ⟨by kernel_rfl, rfl⟩) (by assumption) ?_
              try simp only [List.getElem_toArray, List.getElem_cons_succ, List.getElem_cons_zero, Act.put, List.setIfInBounds_toArray, List.set_cons_zero, List.set_cons_succ]
              refine wpAnyH_take (i := 21) (v := undef) rfl (by kernel_rfl) (by kernel_rfl) (by kernel_rfl) CalmP.onlyN_panic (Or.inr ⟨by kernel_rfl, rfl⟩) (by assumption) ?_
              try simp only [List.getElem_toArray, List.getElem_cons_succ, List.getElem_cons_zero, Act.put, List.setIfInBounds_toArray, List.set_cons_zero, List.set_cons_succ]
              refine wpAnyH_take (i := 22) (v := undef) rfl (by kernel_rfl) (by kernel_rfl) (by kernel_rfl) CalmP.onlyN_panic (Or.inr ⟨by kernel_rfl, rfl⟩) (by assumption) ?_
              try simp only [List.getElem_toArray, List.getElem_cons_succ, List.getElem_cons_zero, Act.put, List.setIfInBounds_toArray, List.set_cons_zero, List.set_cons_succ]
              refine wpAnyH_take (i := 23) (v := ?_) rfl (by kernel_rfl) (by kernel_rfl) (by kernel_rfl) CalmP.onlyN_panic (Or.inl ⟨by kernel_rfl, ?_⟩) (by assumption) ?_
              rotate_left
              · (intro w_ hSw; (try dsimp only at hSw); go_simp; try with_reducible rfl)
              try simp only [List.getElem_toArray, List.getElem_cons_succ, List.getElem_cons_zero, Act.put, List.setIfInBounds_toArray, List.set_cons_zero, List.set_cons_succ]
              refine wpAnyH_done (by kernel_rfl) ?_ _
              refine CalmP.onlyN_here (hQ.out _ _ ?_)
              clear hQ K0
              go_wp2
              go_roundw
              case rel => exact ⟨k + 1, by omega, by go_num, by rw [HS.out]; rfl, _, World.drewN_drewN wc q 1⟩
              case measure => simp [intOf]; omega
          · rw [stepO_some] at hsn
            have hb2 := hfm b0 rfl
            have c2 := hbc (wc.drewN q) (below_drewN (Below.refl _ _)) b0 hb2
            have i3 : (0 : Int) ≤ (b0 : Int) := by omega
            have i4 : (b0 : Int) < 3 := by omega
            rw [show optI (some b0) = (b0 : Int) from rfl]
            obtain ⟨v, hv⟩ : ∃ v, wt x = v := ⟨_, rfl⟩
            obtain ⟨u, hu⟩ : ∃ v, wt b0 = v := ⟨_, rfl⟩
            rw [hv, hu] at hsn
            rw [hv] at c1
            rw [hu] at c2
            clear hfm hv hu
            by_cases h0 : 0 < v
            · rcases st with _ | _
              · by_cases hgt : u < v
                · rw [if_pos ⟨h0, rfl, hgt⟩] at hsn
                  have HS := hide hsn
                  clear hsn
                  go_upto_region 32 with (fail)
                  refine CalmP.hideN (fun K0 hQ => ?_)
                  refine wp_region_held_drew (S := (fun W : World => W.cell? ⟨gw, x, none⟩ = some (.int .i64 v) ∧ W.cell? ⟨gw, b0, none⟩ = some (.int .i64 u))) (by kernel_rfl) ⟨c1, c2⟩ (fun hHeld => ?_)
                  refine wpAnyH_take (i := 0) (v := ?_) rfl (by kernel_rfl) (by kernel_rfl) (by kernel_rfl) CalmP.onlyN_panic (Or.inl ⟨by kernel_rfl, ?_⟩) (by assumption) ?_
                  rotate_left
                  · (intro w_ hSw; (try dsimp only at hSw); go_simp; try with_reducible rfl)
                  try simp only [List.getElem_toArray, List.getElem_cons_succ, List.getElem_cons_zero, Act.put, List.setIfInBounds_toArray, List.set_cons_zero, List.set_cons_succ]
                  refine wpAnyH_take (i := 1) (v := ?_) rfl (by kernel_rfl) (by kernel_rfl) (by kernel_rfl) CalmP.onlyN_panic (Or.inl ⟨by kernel_rfl, ?_⟩) (by assumption) ?_
                  rotate_left
                  · (intro w_ hSw; (try dsimp only at hSw); go_simp; try with_reducible rfl)
                  try simp only [List.getElem_toArray, List.getElem_cons_succ, List.getElem_cons_zero, Act.put, List.setIfInBounds_toArray, List.set_cons_zero, List.set_cons_succ]
                  refine wpAnyH_take (i := 2) (v := ?_) rfl (by kernel_rfl) (by kernel_rfl) (by kernel_rfl) CalmP.onlyN_panic (Or.inl ⟨by kernel_rfl, ?_⟩) (by assumption) ?_
                  rotate_left
                  · (intro w_ hSw; (try dsimp only at hSw); go_simp; try with_reducible rfl)
                  try simp only [List.getElem_toArray, List.getElem_cons_succ, List.getElem_cons_zero, Act.put, List.setIfInBounds_toArray, List.set_cons_zero, List.set_cons_succ]
                  refine wpAnyH_take (i := 3) (v := ?_) rfl (by kernel_rfl) (by kernel_rfl) (by kernel_rfl) CalmP.onlyN_panic (Or.inl ⟨by kernel_rfl, ?_⟩) (by assumption) ?_
                  rotate_left
                  · (intro w_ hSw; (try dsimp only at hSw); go_simp; try with_reducible rfl)
                  try simp only [List.getElem_toArray, List.getElem_cons_succ, List.getElem_cons_zero, Act.put, List.setIfInBounds_toArray, List.set_cons_zero, List.set_cons_succ]
                  refine wpAnyH_take (i := 4) (v := ?_) rfl (by kernel_rfl) (by kernel_rfl) (by kernel_rfl) CalmP.onlyN_panic (Or.inl ⟨by kernel_rfl, ?_⟩) (by assumption) ?_
                  rotate_left
                  · (intro w_ hSw; (try dsimp only at hSw); go_simp; try with_reducible rfl)
                  try simp only [List.getElem_toArray, List.getElem_cons_succ, List.getElem_cons_zero, Act.put, List.setIfInBounds_toArray, List.set_cons_zero, List.set_cons_succ]
                  refine wpAnyH_take (i := 5) (v := ?_) rfl (by kernel_rfl) (by kernel_rfl) (by kernel_rfl) CalmP.onlyN_panic (Or.inl ⟨by kernel_rfl, ?_⟩) (by assumption) ?_
                  rotate_left
                  · (intro w_ hSw; (try dsimp only at hSw); go_simp; try with_reducible rfl)
                  try simp only [List.getElem_toArray, List.getElem_cons_succ, List.getElem_cons_zero, Act.put, List.setIfInBounds_toArray, List.set_cons_zero, List.set_cons_succ]
                  refine wpAnyH_take (i := 6) (v := ?_) rfl (by kernel_rfl) (by kernel_rfl) (by kernel_rfl) CalmP.onlyN_panic (Or.inl ⟨by kernel_rfl, ?_⟩) (by assumption) ?_
                  rotate_left
                  · (intro w_ hSw; (try dsimp only at hSw); go_simp; try with_reducible rfl)
                  try simp only [List.getElem_toArray, List.getElem_cons_succ, List.getElem_cons_zero, Act.put, List.setIfInBounds_toArray, List.set_cons_zero, List.set_cons_succ]
                  refine wpAnyH_take (i := 7) (v := ?_) rfl (by kernel_rfl) (by kernel_rfl) (by kernel_rfl) CalmP.onlyN_panic (Or.inl ⟨by kernel_rfl, ?_⟩) (by assumption) ?_
                  rotate_left
                  · (intro w_ hSw; (try dsimp only at hSw); go_simp; try with_reducible rfl)
                  try simp only [List.getElem_toArray, List.getElem_cons_succ, List.getElem_cons_zero, Act.put, List.setIfInBounds_toArray, List.set_cons_zero, List.set_cons_succ]
                  refine wpAnyH_take (i := 8) (v := ?_) rfl (by kernel_rfl) (by kernel_rfl) (by kernel_rfl) CalmP.onlyN_panic (Or.inl ⟨by kernel_rfl, ?_⟩) (by assumption) ?_
                  rotate_left
                  · (intro w_ hSw; (try dsimp only at hSw); go_simp; try with_reducible rfl)
                  try simp only [List.getElem_toArray, List.getElem_cons_succ, List.getElem_cons_zero, Act.put, List.setIfInBounds_toArray, List.set_cons_zero, List.set_cons_succ]
                  refine wpAnyH_take (i := 9) (v := ?_) rfl (by kernel_rfl) (by kernel_rfl) (by kernel_rfl) CalmP.onlyN_panic (Or.inl ⟨by kernel_rfl, ?_⟩) (by assumption) ?_
                  rotate_left
                  · (intro w_ hSw; (try dsimp only at hSw); go_simp; try with_reducible rfl)
                  try simp only [List.getElem_toArray, List.getElem_cons_succ, List.getElem_cons_zero, Act.put, List.setIfInBounds_toArray, List.set_cons_zero, List.set_cons_succ]
                  refine wpAnyH_take (i := 10) (v := ?_) rfl (by kernel_rfl) (by kernel_rfl) (by kernel_rfl) CalmP.onlyN_panic (Or.inl ⟨by kernel_rfl, ?_⟩) (by assumption) ?_
                  rotate_left
                  · (intro w_ hSw; (try dsimp only at hSw); go_simp; try with_reducible rfl)
                  try simp only [List.getElem_toArray, List.getElem_cons_succ, List.getElem_cons_zero, Act.put, List.setIfInBounds_toArray, List.set_cons_zero, List.set_cons_succ]
                  refine wpAnyH_take (i := 11) (v := ?_) rfl (by kernel_rfl) (by kernel_rfl) (by kernel_rfl) CalmP.onlyN_panic (Or.inl ⟨by kernel_rfl, ?_⟩) (by assumption) ?_
                  rotate_left
                  · (intro w_ hSw; (try dsimp only at hSw); go_simp; try with_reducible rfl)
                  try simp only [List.getElem_toArray, List.getElem_cons_succ, List.getElem_cons_zero, Act.put, List.setIfInBounds_toArray, List.set_cons_zero, List.set_cons_succ]
                  refine wpAnyH_take (i := 12) (v := ?_) rfl (by kernel_rfl) (by kernel_rfl) (by kernel_rfl) CalmP.onlyN_panic (Or.inl ⟨by kernel_rfl, ?_⟩) (by assumption) ?_
                  rotate_left
                  · (intro w_ hSw; (try dsimp only at hSw); go_simp; try with_reducible rfl)
                  try simp only [List.getElem_toArray, List.getElem_cons_succ, List.getElem_cons_zero, Act.put, List.setIfInBounds_toArray, List.set_cons_zero, List.set_cons_succ]
                  refine wpAnyH_take (i := 13) (v := ?_) rfl (by kernel_rfl) (by kernel_rfl) (by kernel_rfl) CalmP.onlyN_panic (Or.inl ⟨by kernel_rfl, ?_⟩) (by assumption) ?_
                  rotate_left
                  · (intro w_ hSw; (try dsimp only at hSw); go_simp; try with_reducible rfl)
                  try simp only [List.getElem_toArray, List.getElem_cons_succ, List.getElem_cons_zero, Act.put, List.setIfInBounds_toArray, List.set_cons_zero, List.set_cons_succ]
                  refine wpAnyH_take (i := 14) (v := ?_) rfl (by kernel_rfl) (by kernel_rfl) (by kernel_rfl) CalmP.onlyN_panic (Or.inl ⟨by kernel_rfl, ?_⟩) (by assumption) ?_
                  rotate_left
                  · (intro w_ hSw; (try dsimp only at hSw); go_simp; try with_reducible rfl)
                  try simp only [List.getElem_toArray, List.getElem_cons_succ, List.getElem_cons_zero, Act.put, List.setIfInBounds_toArray, List.set_cons_zero, List.set_cons_succ]
                  refine wpAnyH_take (i := 15) (v := ?_) rfl (by kernel_rfl) (by kernel_rfl) (by kernel_rfl) CalmP.onlyN_panic (Or.inl ⟨by kernel_rfl, ?_⟩) (by assumption) ?_
                  rotate_left
                  · (intro w_ hSw; (try dsimp only at hSw); go_simp; try with_reducible rfl)
                  try simp only [List.getElem_toArray, List.getElem_cons_succ, List.getElem_cons_zero, Act.put, List.setIfInBounds_toArray, List.set_cons_zero, List.set_cons_succ]
                  refine wpAnyH_take (i := 16) (v := ?_) rfl (by kernel_rfl) (by kernel_rfl) (by kernel_rfl) CalmP.onlyN_panic (Or.inl ⟨by kernel_rfl, ?_⟩) (by assumption) ?_
                  rotate_left
                  · (intro w_ hSw; (try dsimp only at hSw); go_simp; try with_reducible rfl)
                  try simp only [List.getElem_toArray, List.getElem_cons_succ, List.getElem_cons_zero, Act.put, List.setIfInBounds_toArray, List.set_cons_zero, List.set_cons_succ]
                  refine wpAnyH_take (i := 17) (v := ?_) rfl (by kernel_rfl) (by kernel_rfl) (by kernel_rfl) CalmP.onlyN_panic (Or.inl ⟨by kernel_rfl, ?_⟩) (by assumption) ?_
                  rotate_left
                  · (intro w_ hSw; (try dsimp only at hSw); go_simp; try with_reducible rfl)
                  try simp only [List.getElem_toArray, List.getElem_cons_succ, List.getElem_cons_zero, Act.put, List.setIfInBounds_toArray, List.set_cons_zero, List.set_cons_succ]
                  refine wpAnyH_take (i := 18) (v := ?_) rfl (by kernel_rfl) (by kernel_rfl) (by kernel_rfl) CalmP.onlyN_panic (Or.inl ⟨by kernel_rfl, ?_⟩) (by assumption) ?_
                  rotate_left
                  · (intro w_ hSw; (try dsimp only at hSw); go_simp; try with_reducible rfl)
                  try simp only [List.getElem_toArray, List.getElem_cons_succ, List.getElem_cons_zero, Act.put, List.setIfInBounds_toArray, List.set_cons_zero, List.set_cons_succ]
                  refine wpAnyH_take (i := 19) (v := ?_) rfl (by kernel_rfl) (by kernel_rfl) (by kernel_rfl) CalmP.onlyN_panic (Or.inl ⟨by kernel_rfl, ?_⟩) (by assumption) ?_
                  rotate_left
                  · (intro w_ hSw; (try dsimp only at hSw); go_simp; try with_reducible rfl)
                  try simp only [List.getElem_toArray, List.getElem_cons_succ, List.getElem_cons_zero, Act.put, List.setIfInBounds_toArray, List.set_cons_zero, List.set_cons_succ]
                  refine wpAnyH_take (i := 20) (v := ?_) rfl (by kernel_rfl) (by kernel_rfl) (by kernel_rfl) CalmP.onlyN_panic (Or.inl ⟨by kernel_rfl, ?_⟩) (by assumption) ?_
                  rotate_left
                  · (intro w_ hSw; (try dsimp only at hSw); go_simp; try with_reducible rfl)
                  try simp only [List.getElem_toArray, List.getElem_cons_succ, List.getElem_cons_zero, Act.put, List.setIfInBounds_toArray, List.set_cons_zero, List.set_cons_succ]
                  refine wpAnyH_take (i := 21) (v := ?_) rfl (by kernel_rfl) (by kernel_rfl) (by kernel_rfl) CalmP.onlyN_panic (Or.inl ⟨by kernel_rfl, ?_⟩) (by assumption) ?_
                  rotate_left
                  · (intro w_ hSw; (try dsimp only at hSw); go_simp; try with_reducible rfl)
                  try simp only [List.getElem_toArray, List.getElem_cons_succ, List.getElem_cons_zero, Act.put, List.setIfInBounds_toArray, List.set_cons_zero, List.set_cons_succ]
                  refine wpAnyH_take (i := 22) (v := ?_) rfl (by kernel_rfl) (by kernel_rfl) (by kernel_rfl) CalmP.onlyN_panic (Or.inl ⟨by kernel_rfl, ?_⟩) (by assumption) ?_
                  rotate_left
                  · (intro w_ hSw; (try dsimp only at hSw); go_simp; try with_reducible rfl)
                  try simp only [List.getElem_toArray, List.getElem_cons_succ, List.getElem_cons_zero, Act.put, List.setIfInBounds_toArray, List.set_cons_zero, List.set_cons_succ]
                  refine wpAnyH_take (i := 23) (v := ?_) rfl (by kernel_rfl) (by kernel_rfl) (by kernel_rfl) CalmP.onlyN_panic (Or.inl ⟨by kernel_rfl, ?_⟩) (by assumption) ?_
                  rotate_left
                  · (intro w_ hSw; (try dsimp only at hSw); go_simp; try with_reducible rfl)
                  try simp only [List.getElem_toArray, List.getElem_cons_succ, List.getElem_cons_zero, Act.put, List.setIfInBounds_toArray, List.set_cons_zero, List.set_cons_succ]
                  refine wpAnyH_done (by kernel_rfl) ?_ _
                  refine CalmP.onlyN_here (hQ.out _ _ ?_)
                  clear hQ K0
                  go_wp2
                  go_roundw
                  case rel => exact ⟨k + 1, by omega, by go_num, by rw [HS.out]; rfl, _, World.drewN_drewN wc q 1⟩
                  case measure => simp [intOf]; omega
                · rw [if_neg (fun h => hgt h.2.2)] at hsn
                  have HS := hide hsn
                  clear hsn
                  go_upto_region 32 with (fail)
                  refine CalmP.hideN (fun K0 hQ => ?_)
                  refine wp_region_held_drew (S := (fun W : World => W.cell? ⟨gw, x, none⟩ = some (.int .i64 v) ∧ W.cell? ⟨gw, b0, none⟩ = some (.int .i64 u))) (by kernel_rfl) ⟨c1, c2⟩ (fun hHeld => ?_)
                  refine wpAnyH_take (i := 0) (v := ?_) rfl (by kernel_rfl) (by kernel_rfl) (by kernel_rfl) CalmP.onlyN_panic (Or.inl ⟨by kernel_rfl, ?_⟩) (by assumption) ?_
                  rotate_left
                  · (intro w_ hSw; (try dsimp only at hSw); go_simp; try with_reducible rfl)
                  try simp only [List.getElem_toArray, List.getElem_cons_succ, List.getElem_cons_zero, Act.put, List.setIfInBounds_toArray, List.set_cons_zero, List.set_cons_succ]
                  refine wpAnyH_take (i := 1) (v := ?_) rfl (by kernel_rfl) (by kernel_rfl) (by kernel_rfl) CalmP.onlyN_panic (Or.inl ⟨by kernel_rfl, ?_⟩) (by assumption) ?_
                  rotate_left
                  · (intro w_ hSw; (try dsimp only at hSw); go_simp; try with_reducible rfl)
                  try simp only [List.getElem_toArray, List.getElem_cons_succ, List.getElem_cons_zero, Act.put, List.setIfInBounds_toArray, List.set_cons_zero, List.set_cons_succ]
                  refine wpAnyH_take (i := 2) (v := ?_) rfl (by kernel_rfl) (by kernel_rfl) (by kernel_rfl) CalmP.onlyN_panic (Or.inl ⟨by kernel_rfl, ?_⟩) (by assumption) ?_
                  rotate_left
                  · (intro w_ hSw; (try dsimp only at hSw); go_simp; try with_reducible rfl)
                  try simp only [List.getElem_toArray, List.getElem_cons_succ, List.getElem_cons_zero, Act.put, List.setIfInBounds_toArray, List.set_cons_zero, List.set_cons_succ]
                  refine wpAnyH_take (i := 3) (v := ?_) rfl (by kernel_rfl) (by kernel_rfl) (by kernel_rfl) CalmP.onlyN_panic (Or.inl ⟨by kernel_rfl, ?_⟩) (by assumption) ?_
                  rotate_left
                  · (intro w_ hSw; (try dsimp only at hSw); go_simp; try with_reducible rfl)
                  try simp only [List.getElem_toArray, List.getElem_cons_succ, List.getElem_cons_zero, Act.put, List.setIfInBounds_toArray, List.set_cons_zero, List.set_cons_succ]
                  refine wpAnyH_take (i := 4) (v := ?_) rfl (by kernel_rfl) (by kernel_rfl) (by kernel_rfl) CalmP.onlyN_panic (Or.inl ⟨by kernel_rfl, ?_⟩) (by assumption) ?_
                  rotate_left
                  · (intro w_ hSw; (try dsimp only at hSw); go_simp; try with_reducible rfl)
                  try simp only [List.getElem_toArray, List.getElem_cons_succ, List.getElem_cons_zero, Act.put, List.setIfInBounds_toArray, List.set_cons_zero, List.set_cons_succ]
                  refine wpAnyH_take (i := 5) (v := ?_) rfl (by kernel_rfl) (by kernel_rfl) (by kernel_rfl) CalmP.onlyN_panic (Or.inl ⟨by kernel_rfl, ?_⟩) (by assumption) ?_
                  rotate_left
                  · (intro w_ hSw; (try dsimp only at hSw); go_simp; try with_reducible rfl)
                  try simp only [List.getElem_toArray, List.getElem_cons_succ, List.getElem_cons_zero, Act.put, List.setIfInBounds_toArray, List.set_cons_zero, List.set_cons_succ]
                  refine wpAnyH_take (i := 6) (v := ?_) rfl (by kernel_rfl) (by kernel_rfl) (by kernel_rfl) CalmP.onlyN_panic (Or.inl ⟨by kernel_rfl, ?_⟩) (by assumption) ?_
                  rotate_left
                  · (intro w_ hSw; (try dsimp only at hSw); go_simp; try with_reducible rfl)
                  try simp only [List.getElem_toArray, List.getElem_cons_succ, List.getElem_cons_zero, Act.put, List.setIfInBounds_toArray, List.set_cons_zero, List.set_cons_succ]
                  refine wpAnyH_take (i := 7) (v := ?_) rfl (by kernel_rfl) (by kernel_rfl) (by kernel_rfl) CalmP.onlyN_panic (Or.inl ⟨by kernel_rfl, ?_⟩) (by assumption) ?_
                  rotate_left
                  · (intro w_ hSw; (try dsimp only at hSw); go_simp; try with_reducible rfl)
                  try simp only [List.getElem_toArray, List.getElem_cons_succ, List.getElem_cons_zero, Act.put, List.setIfInBounds_toArray, List.set_cons_zero, List.set_cons_succ]
                  refine wpAnyH_take (i := 8) (v := ?_) rfl (by kernel_rfl) (by kernel_rfl) (by kernel_rfl) CalmP.onlyN_panic (Or.inl ⟨by kernel_rfl, ?_⟩) (by assumption) ?_
                  rotate_left
                  · (intro w_ hSw; (try dsimp only at hSw); go_simp; try with_reducible rfl)
                  try simp only [List.getElem_toArray, List.getElem_cons_succ, List.getElem_cons_zero, Act.put, List.setIfInBounds_toArray, List.set_cons_zero, List.set_cons_succ]
                  refine wpAnyH_take (i := 9) (v := ?_) rfl (by kernel_rfl) (by kernel_rfl) (by kernel_rfl) CalmP.onlyN_panic (Or.inl ⟨by kernel_rfl, ?_⟩) (by assumption) ?_
                  rotate_left
                  · (intro w_ hSw; (try dsimp only at hSw); go_simp; try with_reducible rfl)
                  try simp only [List.getElem_toArray, List.getElem_cons_succ, List.getElem_cons_zero, Act.put, List.setIfInBounds_toArray, List.set_cons_zero, List.set_cons_succ]
                  refine wpAnyH_take (i := 10) (v := ?_) rfl (by kernel_rfl) (by kernel_rfl) (by kernel_rfl) CalmP.onlyN_panic (Or.inl ⟨by kernel_rfl, ?_⟩) (by assumption) ?_
                  rotate_left
                  · (intro w_ hSw; (try dsimp only at hSw); go_simp; try with_reducible rfl)
                  try simp only [List.getElem_toArray, List.getElem_cons_succ, List.getElem_cons_zero, Act.put, List.setIfInBounds_toArray, List.set_cons_zero, List.set_cons_succ]
                  refine wpAnyH_take (i := 11) (v := ?_) rfl (by kernel_rfl) (by kernel_rfl) (by kernel_rfl) CalmP.onlyN_panic (Or.inl ⟨by kernel_rfl, ?_⟩) (by assumption) ?_
                  rotate_left
                  · (intro w_ hSw; (try dsimp only at hSw); go_simp; try with_reducible rfl)
                  try simp only [List.getElem_toArray, List.getElem_cons_succ, List.getElem_cons_zero, Act.put, List.setIfInBounds_toArray, List.set_cons_zero, List.set_cons_succ]
                  refine wpAnyH_take (i := 12) (v := ?_) rfl (by kernel_rfl) (by kernel_rfl) (by kernel_rfl) CalmP.onlyN_panic (Or.inl ⟨by kernel_rfl, ?_⟩) (by assumption) ?_
                  rotate_left
                  · (intro w_ hSw; (try dsimp only at hSw); go_simp; try with_reducible rfl)
                  try simp only [List.getElem_toArray, List.getElem_cons_succ, List.getElem_cons_zero, Act.put, List.setIfInBounds_toArray, List.set_cons_zero, List.set_cons_succ]
                  refine wpAnyH_take (i := 13) (v := ?_) rfl (by kernel_rfl) (by kernel_rfl) (by kernel_rfl) CalmP.onlyN_panic (Or.inl ⟨by kernel_rfl, ?_⟩) (by assumption) ?_
                  rotate_left
                  · (intro w_ hSw; (try dsimp only at hSw); go_simp; try with_reducible rfl)
                  try simp only [List.getElem_toArray, List.getElem_cons_succ, List.getElem_cons_zero, Act.put, List.setIfInBounds_toArray, List.set_cons_zero, List.set_cons_succ]
                  refine wpAnyH_take (i := 14) (v := ?_) rfl (by kernel_rfl) (by kernel_rfl) (by kernel_rfl) CalmP.onlyN_panic (Or.inl ⟨by kernel_rfl, ?_⟩) (by assumption) ?_
                  rotate_left
                  · (intro w_ hSw; (try dsimp only at hSw); go_simp; try with_reducible rfl)
                  try simp only [List.getElem_toArray, List.getElem_cons_succ, List.getElem_cons_zero, Act.put, List.setIfInBounds_toArray, List.set_cons_zero, List.set_cons_succ]
                  refine wpAnyH_take (i := 15) (v := ?_) rfl (by kernel_rfl) (by kernel_rfl) (by kernel_rfl) CalmP.onlyN_panic (Or.inl ⟨by kernel_rfl, ?_⟩) (by assumption) ?_
                  rotate_left
                  · (intro w_ hSw; (try dsimp only at hSw); go_simp; try with_reducible rfl)
                  try simp only [List.getElem_toArray, List.getElem_cons_succ, List.getElem_cons_zero, Act.put, List.setIfInBounds_toArray, List.set_cons_zero, List.set_cons_succ]
                  refine wpAnyH_take (i := 16) (v := ?_) rfl (by kernel_rfl) (by kernel_rfl) (by kernel_rfl) CalmP.onlyN_panic (Or.inl ⟨by kernel_rfl, ?_⟩) (by assumption) ?_
                  rotate_left
                  · (intro w_ hSw; (try dsimp only at hSw); go_simp; try with_reducible rfl)
                  try simp only [List.getElem_toArray, List.getElem_cons_succ, List.getElem_cons_zero, Act.put, List.setIfInBounds_toArray, List.set_cons_zero, List.set_cons_succ]
                  refine wpAnyH_take (i := 17) (v := ?_) rfl (by kernel_rfl) (by kernel_rfl) (by kernel_rfl) CalmP.onlyN_panic (Or.inl ⟨by kernel_rfl, ?_⟩) (by assumption) ?_
                  rotate_left
                  · (intro w_ hSw; (try dsimp only at hSw); go_simp; try with_reducible rfl)
                  try simp only [List.getElem_toArray, List.getElem_cons_succ, List.getElem_cons_zero, Act.put, List.setIfInBounds_toArray, List.set_cons_zero, List.set_cons_succ]
                  refine wpAnyH_take (i := 18) (v := ?_) rfl (by kernel_rfl) (by kernel_rfl) (by kernel_rfl) CalmP.onlyN_panic (Or.inl ⟨by kernel_rfl, ?_⟩) (by assumption) ?_
                  rotate_left
                  · (intro w_ hSw; (try dsimp only at hSw); go_simp; try with_reducible rfl)
                  try simp only [List.getElem_toArray, List.getElem_cons_succ, List.getElem_cons_zero, Act.put, List.setIfInBounds_toArray, List.set_cons_zero, List.set_cons_succ]
                  refine wpAnyH_take (i := 19) (v := ?_) rfl (by kernel_rfl) (by kernel_rfl) (by kernel_rfl) CalmP.onlyN_panic (Or.inl ⟨by kernel_rfl, ?_⟩) (by assumption) ?_
                  rotate_left
                  · (intro w_ hSw; (try dsimp only at hSw); go_simp; try with_reducible rfl)
                  try simp only [List.getElem_toArray, List.getElem_cons_succ, List.getElem_cons_zero, Act.put, List.setIfInBounds_toArray, List.set_cons_zero, List.set_cons_succ]
                  refine wpAnyH_take (i := 20) (v := ?_) rfl (by kernel_rfl) (by kernel_rfl) (by kernel_rfl) CalmP.onlyN_panic (Or.inl ⟨by kernel_rfl, ?_⟩) (by assumption) ?_
                  rotate_left
                  · (intro w_ hSw; (try dsimp only at hSw); go_simp; try with_reducible rfl)
                  try simp only [List.getElem_toArray, List.getElem_cons_succ, List.getElem_cons_zero, Act.put, List.setIfInBounds_toArray, List.set_cons_zero, List.set_cons_succ]
                  refine wpAnyH_take (i := 21) (v := ?_) rfl (by kernel_rfl) (by kernel_rfl) (by kernel_rfl) CalmP.onlyN_panic (Or.inl ⟨by kernel_rfl, ?_⟩) (by assumption) ?_
                  rotate_left
                  · (intro w_ hSw; (try dsimp only at hSw); go_simp; try with_reducible rfl)
                  try simp only [List.getElem_toArray, List.getElem_cons_succ, List.getElem_cons_zero, Act.put, List.setIfInBounds_toArray, List.set_cons_zero, List.set_cons_succ]
                  refine wpAnyH_take (i := 22) (v := ?_) rfl (by kernel_rfl) (by kernel_rfl) (by kernel_rfl) CalmP.onlyN_panic (Or.inl ⟨by kernel_rfl, ?_⟩) (by assumption) ?_
                  rotate_left
                  · (intro w_ hSw; (try dsimp only at hSw); go_simp; try with_reducible rfl)
                  try simp only [List.getElem_toArray, List.getElem_cons_succ, List.getElem_cons_zero, Act.put, List.setIfInBounds_toArray, List.set_cons_zero, List.set_cons_succ]
                  refine wpAnyH_take (i := 23) (v := ?_) rfl (by kernel_rfl) (by kernel_rfl) (by kernel_rfl) CalmP.onlyN_panic (Or.inl ⟨by kernel_rfl, ?_⟩) (by assumption) ?_
                  rotate_left
                  · (intro w_ hSw; (try dsimp only at hSw); go_simp; try with_reducible rfl)
                  try simp only [List.getElem_toArray, List.getElem_cons_succ, List.getElem_cons_zero, Act.put, List.setIfInBounds_toArray, List.set_cons_zero, List.set_cons_succ]
                  refine wpAnyH_done (by kernel_rfl) ?_ _
                  refine CalmP.onlyN_here (hQ.out _ _ ?_)
                  clear hQ K0
                  go_wp2
                  go_roundw
                  case rel => exact ⟨k + 1, by omega, by go_num, by rw [HS.out]; rfl, _, World.drewN_drewN wc q 1⟩
                  case measure => simp [intOf]; omega
              · rw [if_neg (fun h => by cases h.2.1)] at hsn
                have HS := hide hsn
                clear hsn
                go_upto_region 32 with (fail)
                refine CalmP.hideN (fun K0 hQ => ?_)
                refine wp_region_held_drew (S := (fun W : World => W.cell? ⟨gw, x, none⟩ = some (.int .i64 v) ∧ W.cell? ⟨gw, b0, none⟩ = some (.int .i64 u))) (by kernel_rfl) ⟨c1, c2⟩ (fun hHeld => ?_)
                refine wpAnyH_take (i := 0) (v := ?_) rfl (by kernel_rfl) (by kernel_rfl) (by kernel_rfl) CalmP.onlyN_panic (Or.inl ⟨by kernel_rfl, ?_⟩) (by assumption) ?_
                rotate_left
                · (intro w_ hSw; (try dsimp only at hSw); go_simp; try with_reducible rfl)
                try simp only [List.getElem_toArray, List.getElem_cons_succ, List.getElem_cons_zero, Act.put, List.setIfInBounds_toArray, List.set_cons_zero, List.set_cons_succ]
                refine wpAnyH_take (i := 1) (v := ?_) rfl (by kernel_rfl) (by kernel_rfl) (by kernel_rfl) CalmP.onlyN_panic (Or.inl ⟨by kernel_rfl, ?_⟩) (by assumption) ?_
                rotate_left
                · (intro w_ hSw; (try dsimp only at hSw); go_simp; try with_reducible rfl)
                try simp only [List.getElem_toArray, List.getElem_cons_succ, List.getElem_cons_zero, Act.put, List.setIfInBounds_toArray, List.set_cons_zero, List.set_cons_succ]
                refine wpAnyH_take (i := 2) (v := ?_) rfl (by kernel_rfl) (by kernel_rfl) (by kernel_rfl) CalmP.onlyN_panic (Or.inl ⟨by kernel_rfl, ?_⟩) (by assumption) ?_
                rotate_left
                · (intro w_ hSw; (try dsimp only at hSw); go_simp; try with_reducible rfl)
                try simp only [List.getElem_toArray, List.getElem_cons_succ, List.getElem_cons_zero, Act.put, List.setIfInBounds_toArray, List.set_cons_zero, List.set_cons_succ]
                refine wpAnyH_take (i := 3) (v := ?_) rfl (by kernel_rfl) (by kernel_rfl) (by kernel_rfl) CalmP.onlyN_panic (Or.inl ⟨by kernel_rfl, ?_⟩) (by assumption) ?_
                rotate_left
                · (intro w_ hSw; (try dsimp only at hSw); go_simp; try with_reducible rfl)
                try simp only [List.getElem_toArray, List.getElem_cons_succ, List.getElem_cons_zero, Act.put, List.setIfInBounds_toArray, List.set_cons_zero, List.set_cons_succ]
                refine wpAnyH_take (i := 4) (v := ?_) rfl (by kernel_rfl) (by kernel_rfl) (by kernel_rfl) CalmP.onlyN_panic (Or.inl ⟨by kernel_rfl, ?_⟩) (by assumption) ?_
                rotate_left
                · (intro w_ hSw; (try dsimp only at hSw); go_simp; try with_reducible rfl)
                try simp only [List.getElem_toArray, List.getElem_cons_succ, List.getElem_cons_zero, Act.put, List.setIfInBounds_toArray, List.set_cons_zero, List.set_cons_succ]
                refine wpAnyH_take (i := 5) (v := ?_) rfl (by kernel_rfl) (by kernel_rfl) (by kernel_rfl) CalmP.onlyN_panic (Or.inl ⟨by kernel_rfl, ?_⟩) (by assumption) ?_
                rotate_left
                · (intro w_ hSw; (try dsimp only at hSw); go_simp; try with_reducible rfl)
                try simp only [List.getElem_toArray, List.getElem_cons_succ, List.getElem_cons_zero, Act.put, List.setIfInBounds_toArray, List.set_cons_zero, List.set_cons_succ]
                refine wpAnyH_take (i := 6) (v := ?_) rfl (by kernel_rfl) (by kernel_rfl) (by kernel_rfl) CalmP.onlyN_panic (Or.inl ⟨by kernel_rfl, ?_⟩) (by assumption) ?_
                rotate_left
                · (intro w_ hSw; (try dsimp only at hSw); go_simp; try with_reducible rfl)
                try simp only [List.getElem_toArray, List.getElem_cons_succ, List.getElem_cons_zero, Act.put, List.setIfInBounds_toArray, List.set_cons_zero, List.set_cons_succ]
                refine wpAnyH_take (i := 7) (v := ?_) rfl (by kernel_rfl) (by kernel_rfl) (by kernel_rfl) CalmP.onlyN_panic (Or.inl ⟨by kernel_rfl, ?_⟩) (by assumption) ?_
                rotate_left
                · (intro w_ hSw; (try dsimp only at hSw); go_simp; try with_reducible rfl)
                try simp only [List.getElem_toArray, List.getElem_cons_succ, List.getElem_cons_zero, Act.put, List.setIfInBounds_toArray, List.set_cons_zero, List.set_cons_succ]
                refine wpAnyH_take (i := 8) (v := ?_) rfl (by kernel_rfl) (by kernel_rfl) (by kernel_rfl) CalmP.onlyN_panic (Or.inl ⟨by kernel_rfl, ?_⟩) (by assumption) ?_
                rotate_left
                · (intro w_ hSw; (try dsimp only at hSw); go_simp; try with_reducible rfl)
                try simp only [List.getElem_toArray, List.getElem_cons_succ, List.getElem_cons_zero, Act.put, List.setIfInBounds_toArray, List.set_cons_zero, List.set_cons_succ]
                refine wpAnyH_take (i := 9) (v := ?_) rfl (by kernel_rfl) (by kernel_rfl) (by kernel_rfl) CalmP.onlyN_panic (Or.inl ⟨by kernel_rfl, ?_⟩) (by assumption) ?_
                rotate_left
                · (intro w_ hSw; (try dsimp only at hSw); go_simp; try with_reducible rfl)
                try simp only [List.getElem_toArray, List.getElem_cons_succ, List.getElem_cons_zero, Act.put, List.setIfInBounds_toArray, List.set_cons_zero, List.set_cons_succ]
                refine wpAnyH_take (i := 10) (v := ?_) rfl (by kernel_rfl) (by kernel_rfl) (by kernel_rfl) CalmP.onlyN_panic (Or.inl ⟨by kernel_rfl, ?_⟩) (by assumption) ?_
                rotate_left
                · (intro w_ hSw; (try dsimp only at hSw); go_simp; try with_reducible rfl)
                try simp only [List.getElem_toArray, List.getElem_cons_succ, List.getElem_cons_zero, Act.put, List.setIfInBounds_toArray, List.set_cons_zero, List.set_cons_succ]
                refine wpAnyH_take (i := 11) (v := ?_) rfl (by kernel_rfl) (by kernel_rfl) (by kernel_rfl) CalmP.onlyN_panic (Or.inl ⟨by kernel_rfl, ?_⟩) (by assumption) ?_
                rotate_left
                · (intro w_ hSw; (try dsimp only at hSw); go_simp; try with_reducible rfl)
                try simp only [List.getElem_toArray, List.getElem_cons_succ, List.getElem_cons_zero, Act.put, List.setIfInBounds_toArray, List.set_cons_zero, List.set_cons_succ]
                refine wpAnyH_take (i := 12) (v := undef) rfl (by kernel_rfl) (by kernel_rfl) (by kernel_rfl) CalmP.onlyN_panic (Or.inr ⟨by kernel_rfl, rfl⟩) (by assumption) ?_
                try simp only [List.getElem_toArray, List.getElem_cons_succ, List.getElem_cons_zero, Act.put, List.setIfInBounds_toArray, List.set_cons_zero, List.set_cons_succ]
                refine wpAnyH_take (i := 13) (v := undef) rfl (by kernel_rfl) (by kernel_rfl) (by kernel_rfl) CalmP.onlyN_panic (Or.inr ⟨by kernel_rfl, rfl⟩) (by assumption) ?_
                try simp only [List.getElem_toArray, List.getElem_cons_succ, List.getElem_cons_zero, Act.put, List.setIfInBounds_toArray, List.set_cons_zero, List.set_cons_succ]
                refine wpAnyH_take (i := 14) (v := undef) rfl (by kernel_rfl) (by kernel_rfl) (by kernel_rfl) CalmP.onlyN_panic (Or.inr ⟨by kernel_rfl, rfl⟩) (by assumption) ?_
                try simp only [List.getElem_toArray, List.getElem_cons_succ, List.getElem_cons_zero, Act.put, List.setIfInBounds_toArray, List.set_cons_zero, List.set_cons_succ]
                refine wpAnyH_take (i := 15) (v := undef) rfl (by kernel_rfl) (by kernel_rfl) (by kernel_rfl) CalmP.onlyN_panic (Or.inr ⟨by kernel_rfl, rfl⟩) (by assumption) ?_
                try simp only [List.getElem_toArray, List.getElem_cons_succ, List.getElem_cons_zero, Act.put, List.setIfInBounds_toArray, List.set_cons_zero, List.set_cons_succ]
                refine wpAnyH_take (i := 16) (v := undef) rfl (by kernel_rfl) (by kernel_rfl) (by kernel_rfl) CalmP.onlyN_panic (Or.inr ⟨by kernel_rfl, rfl⟩) (by assumption) ?_
                try simp only [List.getElem_toArray, List.getElem_cons_succ, List.getElem_cons_zero, Act.put, List.setIfInBounds_toArray, List.set_cons_zero, List.set_cons_succ]
                refine wpAnyH_take (i := 17) (v := undef) rfl (by kernel_rfl) (by kernel_rfl) (by kernel_rfl) CalmP.onlyN_panic (Or.inr ⟨by kernel_rfl, rfl⟩) (by assumption) ?_
                try simp only [List.getElem_toArray, List.getElem_cons_succ, List.getElem_cons_zero, Act.put, List.setIfInBounds_toArray, List.set_cons_zero, List.set_cons_succ]
                refine wpAnyH_take (i := 18) (v := undef) rfl (by kernel_rfl) (by kernel_rfl) (by kernel_rfl) CalmP.onlyN_panic (Or.inr ⟨by kernel_rfl, rfl⟩) (by assumption) ?_
                try simp only [List.getElem_toArray, List.getElem_cons_succ, List.getElem_cons_zero, Act.put, List.setIfInBounds_toArray, List.set_cons_zero, List.set_cons_succ]
                refine wpAnyH_take (i := 19) (v := undef) rfl (by kernel_rfl) (by kernel_rfl) (by kernel_rfl) CalmP.onlyN_panic (Or.inr ⟨by kernel_rfl, rfl⟩) (by assumption) ?_
                try simp only [List.getElem_toArray, List.getElem_cons_succ, List.getElem_cons_zero, Act.put, List.setIfInBounds_toArray, List.set_cons_zero, List.set_cons_succ]
                refine wpAnyH_take (i := 20) (v := undef) rfl (by kernel_rfl) (by kernel_rfl) (by kernel_rfl) CalmP.onlyN_panic (Or.inr ⟨by kernel_rfl, rfl⟩) (by assumption) ?_
                try simp only [List.getElem_toArray, List.getElem_cons_succ, List.getElem_cons_zero, Act.put, List.setIfInBounds_toArray, List.set_cons_zero, List.set_cons_succ]
                refine wpAnyH_take (i := 21) (v := ?_) rfl (by kernel_rfl) (by kernel_rfl) (by kernel_rfl) CalmP.onlyN_panic (Or.inl ⟨by kernel_rfl, ?_⟩) (by assumption) ?_
                rotate_left
                · (intro w_ hSw; (try dsimp only at hSw); go_simp; try with_reducible rfl)
                try simp only [List.getElem_toArray, List.getElem_cons_succ, List.getElem_cons_zero, Act.put, List.setIfInBounds_toArray, List.set_cons_zero, List.set_cons_succ]
                refine wpAnyH_take (i := 22) (v := ?_) rfl (by kernel_rfl) (by kernel_rfl) (by kernel_rfl) CalmP.onlyN_panic (Or.inl ⟨by kernel_rfl, ?_⟩) (by assumption) ?_
                rotate_left
                · (intro w_ hSw; (try dsimp only at hSw); go_simp; try with_reducible rfl)
                try simp only [List.getElem_toArray, List.getElem_cons_succ, List.getElem_cons_zero, Act.put, List.setIfInBounds_toArray, List.set_cons_zero, List.set_cons_succ]
                refine wpAnyH_take (i := 23) (v := ?_) rfl (by kernel_rfl) (by kernel_rfl) (by kernel_rfl) CalmP.onlyN_panic (Or.inl ⟨by kernel_rfl, ?_⟩) (by assumption) ?_
                rotate_left
                · (intro w_ hSw; (try dsimp only at hSw); go_simp; try with_reducible rfl)
                try simp only [List.getElem_toArray, List.getElem_cons_succ, List.getElem_cons_zero, Act.put, List.setIfInBounds_toArray, List.set_cons_zero, List.set_cons_succ]
                refine wpAnyH_done (by kernel_rfl) ?_ _
                refine CalmP.onlyN_here (hQ.out _ _ ?_)
                clear hQ K0
                go_wp2
                go_roundw
                case rel => exact ⟨k + 1, by omega, by go_num, by rw [HS.out]; rfl, _, World.drewN_drewN wc q 1⟩
                case measure => simp [intOf]; omega
            · rw [if_neg (fun h => h0 h.1)] at hsn
              have HS := hide hsn
              clear hsn
              go_upto_region 32 with (fail)
              refine CalmP.hideN (fun K0 hQ => ?_)
              refine wp_region_held_drew (S := (fun W : World => W.cell? ⟨gw, x, none⟩ = some (.int .i64 v) ∧ W.cell? ⟨gw, b0, none⟩ = some (.int .i64 u))) (by kernel_rfl) ⟨c1, c2⟩ (fun hHeld => ?_)
              refine wpAnyH_take (i := 0) (v := ?_) rfl (by kernel_rfl) (by kernel_rfl) (by kernel_rfl) CalmP.onlyN_panic (Or.inl ⟨by kernel_rfl, ?_⟩) (by assumption) ?_
              rotate_left
              · (intro w_ hSw; (try dsimp only at hSw); go_simp; try with_reducible rfl)
              try simp only [List.getElem_toArray, List.getElem_cons_succ, List.getElem_cons_zero, Act.put, List.setIfInBounds_toArray, List.set_cons_zero, List.set_cons_succ]
              refine wpAnyH_take (i := 1) (v := ?_) rfl (by kernel_rfl) (by kernel_rfl) (by kernel_rfl) CalmP.onlyN_panic (Or.inl ⟨by kernel_rfl, ?_⟩) (by assumption) ?_
              rotate_left
              · (intro w_ hSw; (try dsimp only at hSw); go_simp; try with_reducible rfl)
              try simp only [List.getElem_toArray, List.getElem_cons_succ, List.getElem_cons_zero, Act.put, List.setIfInBounds_toArray, List.set_cons_zero, List.set_cons_succ]
              refine wpAnyH_take (i := 2) (v := ?_) rfl (by kernel_rfl) (by kernel_rfl) (by kernel_rfl) CalmP.onlyN_panic (Or.inl ⟨by kernel_rfl, ?_⟩) (by assumption) ?_
              rotate_left
              · (intro w_ hSw; (try dsimp only at hSw); go_simp; try with_reducible rfl)
              try simp only [List.getElem_toArray, List.getElem_cons_succ, List.getElem_cons_zero, Act.put, List.setIfInBounds_toArray, List.set_cons_zero, List.set_cons_succ]
              refine wpAnyH_take (i := 3) (v := ?_) rfl (by kernel_rfl) (by kernel_rfl) (by kernel_rfl) CalmP.onlyN_panic (Or.inl ⟨by kernel_rfl, ?_⟩) (by assumption) ?_
              rotate_left
              · (intro w_ hSw; (try dsimp only at hSw); go_simp; try with_reducible rfl)
              try simp only [List.getElem_toArray, List.getElem_cons_succ, List.getElem_cons_zero, Act.put, List.setIfInBounds_toArray, List.set_cons_zero, List.set_cons_succ]
              refine wpAnyH_take (i := 4) (v := ?_) rfl (by kernel_rfl) (by kernel_rfl) (by kernel_rfl) CalmP.onlyN_panic (Or.inl ⟨by kernel_rfl, ?_⟩) (by assumption) ?_
              rotate_left
              · (intro w_ hSw; (try dsimp only at hSw); go_simp; try with_reducible rfl)
              try simp only [List.getElem_toArray, List.getElem_cons_succ, List.getElem_cons_zero, Act.put, List.setIfInBounds_toArray, List.set_cons_zero, List.set_cons_succ]
              refine wpAnyH_take (i := 5) (v := ?_) rfl (by kernel_rfl) (by kernel_rfl) (by kernel_rfl) CalmP.onlyN_panic (Or.inl ⟨by kernel_rfl, ?_⟩) (by assumption) ?_
              rotate_left
              · (intro w_ hSw; (try dsimp only at hSw); go_simp; try with_reducible rfl)
              try simp only [List.getElem_toArray, List.getElem_cons_succ, List.getElem_cons_zero, Act.put, List.setIfInBounds_toArray, List.set_cons_zero, List.set_cons_succ]
              refine wpAnyH_take (i := 6) (v := undef) rfl (by kernel_rfl) (by kernel_rfl) (by kernel_rfl) CalmP.onlyN_panic (Or.inr ⟨by kernel_rfl, rfl⟩) (by assumption) ?_
              try simp only [List.getElem_toArray, List.getElem_cons_succ, List.getElem_cons_zero, Act.put, List.setIfInBounds_toArray, List.set_cons_zero, List.set_cons_succ]
              refine wpAnyH_take (i := 7) (v := undef) rfl (by kernel_rfl) (by kernel_rfl) (by kernel_rfl) CalmP.onlyN_panic (Or.inr ⟨by kernel_rfl, rfl⟩) (by assumption) ?_
              try simp only [List.getElem_toArray, List.getElem_cons_succ, List.getElem_cons_zero, Act.put, List.setIfInBounds_toArray, List.set_cons_zero, List.set_cons_succ]
              refine wpAnyH_take (i := 8) (v := undef) rfl (by kernel_rfl) (by kernel_rfl) (by kernel_rfl) CalmP.onlyN_panic (Or.inr ⟨by kernel_rfl, rfl⟩) (by assumption) ?_
              try simp only [List.getElem_toArray, List.getElem_cons_succ, List.getElem_cons_zero, Act.put, List.setIfInBounds_toArray, List.set_cons_zero, List.set_cons_succ]
              refine wpAnyH_take (i := 9) (v := undef) rfl (by kernel_rfl) (by kernel_rfl) (by kernel_rfl) CalmP.onlyN_panic (Or.inr ⟨by kernel_rfl, rfl⟩) (by assumption) ?_
              try simp only [List.getElem_toArray, List.getElem_cons_succ, List.getElem_cons_zero, Act.put, List.setIfInBounds_toArray, List.set_cons_zero, List.set_cons_succ]
              refine wpAnyH_take (i := 10) (v := undef) rfl (by kernel_rfl) (by kernel_rfl) (by kernel_rfl) CalmP.onlyN_panic (Or.inr ⟨by kernel_rfl, rfl⟩) (by assumption) ?_
              try simp only [List.getElem_toArray, List.getElem_cons_succ, List.getElem_cons_zero, Act.put, List.setIfInBounds_toArray, List.set_cons_zero, List.set_cons_succ]
              refine wpAnyH_take (i := 11) (v := undef) rfl (by kernel_rfl) (by kernel_rfl) (by kernel_rfl) CalmP.onlyN_panic (Or.inr ⟨by kernel_rfl, rfl⟩) (by assumption) ?_
              try simp only [List.getElem_toArray, List.getElem_cons_succ, List.getElem_cons_zero, Act.put, List.setIfInBounds_toArray, List.set_cons_zero, List.set_cons_succ]
              refine wpAnyH_take (i := 12) (v := undef) rfl (by kernel_rfl) (by kernel_rfl) (by kernel_rfl) CalmP.onlyN_panic (Or.inr ⟨by kernel_rfl, rfl⟩) (by assumption) ?_
              try simp only [List.getElem_toArray, List.getElem_cons_succ, List.getElem_cons_zero, Act.put, List.setIfInBounds_toArray, List.set_cons_zero, List.set_cons_succ]
              refine wpAnyH_take (i := 13) (v := undef) rfl (by kernel_rfl) (by kernel_rfl) (by kernel_rfl) CalmP.onlyN_panic (Or.inr ⟨by kernel_rfl, rfl⟩) (by assumption) ?_
              try simp only [List.getElem_toArray, List.getElem_cons_succ, List.getElem_cons_zero, Act.put, List.setIfInBounds_toArray, List.set_cons_zero, List.set_cons_succ]
              refine wpAnyH_take (i := 14) (v := undef) rfl (by kernel_rfl) (by kernel_rfl) (by kernel_rfl) CalmP.onlyN_panic (Or.inr ⟨by kernel_rfl, rfl⟩) (by assumption) ?_
              try simp only [List.getElem_toArray, List.getElem_cons_succ, List.getElem_cons_zero, Act.put, List.setIfInBounds_toArray, List.set_cons_zero, List.set_cons_succ]
              refine wpAnyH_take (i := 15) (v := undef) rfl (by kernel_rfl) (by kernel_rfl) (by kernel_rfl) CalmP.onlyN_panic (Or.inr ⟨by kernel_rfl, rfl⟩) (by assumption) ?_
              try simp only [List.getElem_toArray, List.getElem_cons_succ, List.getElem_cons_zero, Act.put, List.setIfInBounds_toArray, List.set_cons_zero, List.set_cons_succ]
              refine wpAnyH_take (i := 16) (v := undef) rfl (by kernel_rfl) (by kernel_rfl) (by kernel_rfl) CalmP.onlyN_panic (Or.inr ⟨by kernel_rfl, rfl⟩) (by assumption) ?_
              try simp only [List.getElem_toArray, List.getElem_cons_succ, List.getElem_cons_zero, Act.put, List.setIfInBounds_toArray, List.set_cons_zero, List.set_cons_succ]
              refine wpAnyH_take (i := 17) (v := undef) rfl (by kernel_rfl) (by kernel_rfl) (by kernel_rfl) CalmP.onlyN_panic (Or.inr ⟨by kernel_rfl, rfl⟩) (by assumption) ?_
              try simp only [List.getElem_toArray, List.getElem_cons_succ, List.getElem_cons_zero, Act.put, List.setIfInBounds_toArray, List.set_cons_zero, List.set_cons_succ]
              refine wpAnyH_take (i := 18) (v := undef) rfl (by kernel_rfl) (by kernel_rfl) (by kernel_rfl) CalmP.onlyN_panic (Or.inr ⟨by kernel_rfl, rfl⟩) (by assumption) ?_
              try simp only [List.getElem_toArray, List.getElem_cons_succ, List.getElem_cons_zero, Act.put, List.setIfInBounds_toArray, List.set_cons_zero, List.set_cons_succ]
              refine wpAnyH_take (i := 19) (v := undef) rfl (by kernel_rfl) (by kernel_rfl) (by kernel_rfl) CalmP.onlyN_panic (Or.inr ⟨by kernel_rfl, rfl⟩) (by assumption) ?_
              try simp only [List.getElem_toArray, List.getElem_cons_succ, List.getElem_cons_zero, Act.put, List.setIfInBounds_toArray, List.set_cons_zero, List.set_cons_succ]
              refine wpAnyH_take (i := 20) (v := undef) rfl (by kernel_rfl) (by kernel_rfl) (by kernel_rfl) CalmP.onlyN_panic (Or.inr ⟨by kernel_rfl, rfl⟩) (by assumption) ?_
              try simp only [List.getElem_toArray, List.getElem_cons_succ, List.getElem_cons_zero, Act.put, List.setIfInBounds_toArray, List.set_cons_zero, List.set_cons_succ]
              refine wpAnyH_take (i := 21) (v := undef) rfl (by kernel_rfl) (by kernel_rfl) (by kernel_rfl) CalmP.onlyN_panic (Or.inr ⟨by kernel_rfl, rfl⟩) (by assumption) ?_
              try simp only [List.getElem_toArray, List.getElem_cons_succ, List.getElem_cons_zero, Act.put, List.setIfInBounds_toArray, List.set_cons_zero, List.set_cons_succ]
              refine wpAnyH_take (i := 22) (v := undef) rfl (by kernel_rfl) (by kernel_rfl) (by kernel_rfl) CalmP.onlyN_panic (Or.inr ⟨by kernel_rfl, rfl⟩) (by assumption) ?_
              try simp only [List.getElem_toArray, List.getElem_cons_succ, List.getElem_cons_zero, Act.put, List.setIfInBounds_toArray, List.set_cons_zero, List.set_cons_succ]
              refine wpAnyH_take (i := 23) (v := ?_) rfl (by kernel_rfl) (by kernel_rfl) (by kernel_rfl) CalmP.onlyN_panic (Or.inl ⟨by kernel_rfl, ?_⟩) (by assumption) ?_
              rotate_left
              · (intro w_ hSw; (try dsimp only at hSw); go_simp; try with_reducible rfl)
              try simp only [List.getElem_toArray, List.getElem_cons_succ, List.getElem_cons_zero, Act.put, List.setIfInBounds_toArray, List.set_cons_zero, List.set_cons_succ]
              refine wpAnyH_done (by kernel_rfl) ?_ _
              refine CalmP.onlyN_here (hQ.out _ _ ?_)
              clear hQ K0
              go_wp2
              go_roundw
              case rel => exact ⟨k + 1, by omega, by go_num, by rw [HS.out]; rfl, _, World.drewN_drewN wc q 1⟩
              case measure => simp [intOf]; omega
        · have hfin : os.take k = os := List.take_of_length_le (by have := HNO.out; omega)
          rw [hfin]
          obtain ⟨o, ho⟩ : ∃ o, o = foldO wt st os := ⟨_, rfl⟩
          have hr := HRO.out
          rw [← ho] at hr ⊢
          clear hfin ho
          rcases o with _ | b0
          · have hr2 : r = ((false, 0, 0), false) := hr
            subst hr2
            clear hr
            go_wp2
            refine bodyPost_ret (results4 rfl _ _ _) rfl ?_
            exact ⟨by first | rfl | (simp [p4]; done) | (simp [p4, *]; done), b_ _ (kz.trans ((below_drewN (Below.refl _ _)).mono kz.size))⟩
          · have hr2 : r = ((decide (f = b0), f, b0), true) := hr
            subst hr2
            have hdk : ((f : Int) == (b0 : Int)) = decide (f = b0) := by rw [Bool.eq_iff_iff, decide_eq_true_iff, beq_iff_eq]; omega
            have hoi : optI (some b0) = (b0 : Int) := rfl
            rw [hoi]
            clear hr hoi
            go_wp2
            refine bodyPost_ret (results4 rfl _ _ _) rfl ?_
            exact ⟨by first | rfl | (simp [p4]; done) | (simp [p4, *]; done), b_ _ (kz.trans ((below_drewN (Below.refl _ _)).mono kz.size))⟩
end Go.Proofs.YtgdjlmpfjmakkaaGreatDoor
