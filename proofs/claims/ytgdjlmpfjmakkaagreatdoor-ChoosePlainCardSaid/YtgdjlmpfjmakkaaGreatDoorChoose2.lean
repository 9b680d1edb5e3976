/- wants.to and choose.Pick: which coding is sent. -/
import Derived.Test.YtgdjlmpfjmakkaaGreatDoorChoose1
import Derived.Test.YtgdjlmpfjmakkaaGreatDoorElig
namespace Go.Proofs.YtgdjlmpfjmakkaaGreatDoor
open Go.RowKit
open FrameLengthsP (step_)
theorem three_boxes (w : World) (cs ds es : Array Value) (t u v : TypeId) : Box (((w.alloc (.cells cs t)).alloc (.cells ds u)).alloc (.cells es v)) w.heap.size cs.toList ∧ Box (((w.alloc (.cells cs t)).alloc (.cells ds u)).alloc (.cells es v)) (w.heap.size + 1) ds.toList ∧ Box (((w.alloc (.cells cs t)).alloc (.cells ds u)).alloc (.cells es v)) (w.heap.size + 2) es.toList ∧ Below w.heap.size w (((w.alloc (.cells cs t)).alloc (.cells ds u)).alloc (.cells es v)) := by
  obtain ⟨h1, h2, h3⟩ := two_boxes w cs ds t u
  have ka := (Below.refl ((w.alloc (.cells cs t)).alloc (.cells ds u)).heap.size ((w.alloc (.cells cs t)).alloc (.cells ds u))).alloc (Nat.le_refl _) (.cells es v)
  refine ⟨h1.below ka, h2.below ka, ?_, h3.trans (ka.mono h3.size)⟩
  have := Box.new ((w.alloc (.cells cs t)).alloc (.cells ds u)) es v
  simpa using this

set_option maxRecDepth 100000 in
set_option maxHeartbeats 6400000 in
set_option linter.unusedSimpArgs false in
theorem to_any (A0 A1 : Option Addr) (n0 c0 n1 c1 : Nat) (lv least cp bf tm qminor minor status : Int) (m tg s_ : ByteArray) (Aq : Option Addr) (nq cq : Nat) (A : Option Addr) (n c B : Nat) (fs : List (List UInt8 × List UInt8)) (ts : List (List UInt8)) (Aw : Option Addr) (nw cw f : Nat) (vs : List (List UInt8)) (w : World) (h : Rd w B 2 A n (fcells fs)) (h1 : Rd w B 1 A1 n1 (scells ts)) (hw : Rd w B 1 Aw nw (scells vs)) (hB : B ≤ w.heap.size) (hn : n ≤ 1000) (hn1 : n1 ≤ 1000) (hnw : nw ≤ 1000) (hok : fsOk fs) (hts : ∀ t ∈ ts, t.length ≤ 1000000) (hvs : ∀ v ∈ vs, v.length ≤ 1000000) (hf : f ≤ 3) :
    Calls Tryz.prog 21 #[.slice Aw nw cw, .agg #[.slice A0 n0 c0, .slice A1 n1 c1, .int .i64 lv, .int .i64 least, .int .i64 cp, .int .i64 bf, .int .i64 tm], .agg #[.string m, .string tg, .int .i64 qminor, .slice Aq nq cq], .agg #[.int .i64 minor, .int .i64 status, .string s_, .slice A n c], .int .i64 f] w fun e w' => e = .returned (.tuple #[.int .i64 (toL (wtL vs) (othersL vs (allL fs codeL)) (eligL least ts m.data.toList status fs) f).1, .bool (toL (wtL vs) (othersL vs (allL fs codeL)) (eligL least ts m.data.toList status fs) f).2]) ∧ Below w.heap.size w w' := by
  obtain ⟨w1, hw1⟩ : ∃ w1, ((w.alloc (.cells #[.slice A0 n0 c0, .slice A1 n1 c1, .int .i64 lv, .int .i64 least, .int .i64 cp, .int .i64 bf, .int .i64 tm] 25)).alloc (.cells #[.string m, .string tg, .int .i64 qminor, .slice Aq nq cq] 28)).alloc (.cells #[.int .i64 minor, .int .i64 status, .string s_, .slice A n c] 30) = w1 := ⟨_, rfl⟩
  obtain ⟨bC, bQ, bR, tW⟩ := three_boxes w #[.slice A0 n0 c0, .slice A1 n1 c1, .int .i64 lv, .int .i64 least, .int .i64 cp, .int .i64 bf, .int .i64 tm] #[.string m, .string tg, .int .i64 qminor, .slice Aq nq cq] #[.int .i64 minor, .int .i64 status, .string s_, .slice A n c] 25 28 30
  rw [hw1] at bC bQ bR tW
  obtain ⟨gc, hgc⟩ : ∃ g, w.heap.size = g := ⟨_, rfl⟩
  obtain ⟨gq, hgq⟩ : ∃ g, gc + 1 = g := ⟨_, rfl⟩
  obtain ⟨gr, hgr⟩ : ∃ g, gq + 1 = g := ⟨_, rfl⟩
  rw [hgc] at bC bQ bR
  have hgr2 : gc + 2 = gr := by omega
  rw [hgq] at bQ
  rw [hgr2] at bR
  clear hgr2
  have b_ := fun (W : World) (b : Below w1.heap.size w1 W) => tW.trans (b.mono tW.size)
  have mk : ∀ W, Below w1.heap.size w1 W → W.cell? ⟨gc, 0, none⟩ = some (.slice A0 n0 c0) ∧ W.cell? ⟨gc, 1, none⟩ = some (.slice A1 n1 c1) ∧ W.cell? ⟨gc, 2, none⟩ = some (.int .i64 lv) ∧ W.cell? ⟨gc, 3, none⟩ = some (.int .i64 least) ∧ W.cell? ⟨gc, 4, none⟩ = some (.int .i64 cp) ∧ W.cell? ⟨gc, 5, none⟩ = some (.int .i64 bf) ∧ W.cell? ⟨gc, 6, none⟩ = some (.int .i64 tm) ∧ W.cell? ⟨gq, 0, none⟩ = some (.string m) ∧ W.cell? ⟨gq, 1, none⟩ = some (.string tg) ∧ W.cell? ⟨gq, 2, none⟩ = some (.int .i64 qminor) ∧ W.cell? ⟨gq, 3, none⟩ = some (.slice Aq nq cq) ∧ W.cell? ⟨gr, 0, none⟩ = some (.int .i64 minor) ∧ W.cell? ⟨gr, 1, none⟩ = some (.int .i64 status) ∧ W.cell? ⟨gr, 2, none⟩ = some (.string s_) ∧ W.cell? ⟨gr, 3, none⟩ = some (.slice A n c) := fun W b => by
    have b1 := bC.below b
    have b2 := bQ.below b
    have b3 := bR.below b
    exact ⟨(b1.2 0 _ rfl).1, (b1.2 1 _ rfl).1, (b1.2 2 _ rfl).1, (b1.2 3 _ rfl).1, (b1.2 4 _ rfl).1, (b1.2 5 _ rfl).1, (b1.2 6 _ rfl).1, (b2.2 0 _ rfl).1, (b2.2 1 _ rfl).1, (b2.2 2 _ rfl).1, (b2.2 3 _ rfl).1, (b3.2 0 _ rfl).1, (b3.2 1 _ rfl).1, (b3.2 2 _ rfl).1, (b3.2 3 _ rfl).1⟩
  have qE := fun (W : World) (b : Below w1.heap.size w1 W) => elig_any A0 A1 n0 c0 n1 c1 lv least cp bf tm minor status s_ m A n c B fs ts W (h.below ((b_ W b).mono hB)) (h1.below ((b_ W b).mono hB)) (Nat.le_trans hB (b_ W b).size) hn hn1 hok hts
  have qB := fun (W : World) (b : Below w1.heap.size w1 W) => pomembers_any minor status s_ A n c B fs W (h.below ((b_ W b).mono hB)) (Nat.le_trans hB (b_ W b).size) hn hok
  have hml := allV_len (getL fs codeL) (getL_mem hok codeL)
  have hmm := allV_mem (getL fs codeL) (getL_mem hok codeL)
  change (allL fs codeL).length ≤ _ at hml
  change ∀ x ∈ allL fs codeL, _ at hmm
  have hgl := getL_len fs codeL
  have hfl := h.flen
  have hml2 : (allL fs codeL).length ≤ 1000 * 1000001 := Nat.le_trans hml (Nat.mul_le_mul_right _ (by omega))
  obtain ⟨ms, hms⟩ : ∃ x, x = allL fs codeL := ⟨_, rfl⟩
  rw [← hms] at hmm hml2
  simp only [← hms] at qB
  rw [← hms]
  obtain ⟨el, hel⟩ : ∃ x, x = eligL least ts m.data.toList status fs := ⟨_, rfl⟩
  simp only [← hel] at qE
  rw [← hel]
  obtain ⟨lm, hlm⟩ : ∃ l, l = ms.length := ⟨_, rfl⟩
  rw [← hlm] at hml2
  simp only [← hlm] at qB
  have HLM := hide hlm
  clear hms hel hlm hml hgl hfl h h1 hok hts
  by_cases h3 : f = 3
  · subst h3
    obtain ⟨r, hr⟩ : ∃ r, r = othersL vs ms := ⟨_, rfl⟩
    have ht : toL (wtL vs) (othersL vs ms) el 3 = (3, r) := by unfold toL; rw [if_pos rfl, hr]
    rw [ht]
    have q2 := fun (W : World) (b : Below w1.heap.size w1 W) (A2 : Option Addr) (c2 : Nat) (r2 : Rd W W.heap.size 1 A2 lm (scells ms)) => others_any Aw A2 nw cw B lm c2 _ vs ms W (hw.below ((b_ W b).mono hB)) (Nat.le_trans hB (b_ W b).size) hnw hvs r2 (Nat.le_refl _) (by omega) hmm
    simp only [← hr] at q2
    clear ht hr hmm hw hvs
    go_enter Tryz.func21, Tryz.ntmps21
    go_upto_region 1 with (fail)
    try rw [hw1]
    try rw [hgc]
    try rw [hgq]
    try rw [hgr]
    clear hw1 hgc hgq hgr
    obtain ⟨d0, d1, d2, d3, d4, d5, d6, d7, d8, d9, d10, d11, d12, d13, d14⟩ := mk _ (Below.refl _ _)
    go_wp2_with fail
    refine (qB w1 (Below.refl _ _)).mono ?_
    rintro e w2 ⟨A2, c2, rfl, o2, -, k2⟩
    go_wp2_with fail
    refine (q2 w2 k2 A2 c2 (Rd.of_own o2)).mono ?_
    rintro e w3 ⟨rfl, k3⟩
    go_wp2
    go_ret2
    exact ⟨rfl, (b_ _ (k2.trans (k3.mono k2.size)))⟩
  have e3 : ((f : Int) == 3) = false := by rw [beq_eq_false_iff_ne]; omega
  rcases el with _ | _
  · by_cases h0 : f = 0
    · subst h0
      by_cases hw0 : 0 < wtL vs 0
      · have ht : toL (wtL vs) (othersL vs ms) false 0 = (0, true) := by unfold toL; rw [if_neg (by decide), if_neg (by decide), if_pos rfl, if_pos hw0]
        rw [ht]
        have q2 := fun (W : World) (b : Below w1.heap.size w1 W) => wt_any Aw nw cw B 0 vs W (hw.below ((b_ W b).mono hB)) (Nat.le_trans hB (b_ W b).size) hnw hvs
        obtain ⟨x, hx⟩ : ∃ x, x = wtL vs 0 := ⟨_, rfl⟩
        simp only [← hx] at q2
        rw [← hx] at hw0
        clear ht hx hmm hw hvs h3
        go_enter Tryz.func21, Tryz.ntmps21
        go_upto_region 1 with (fail)
        try rw [hw1]
        try rw [hgc]
        try rw [hgq]
        try rw [hgr]
        clear hw1 hgc hgq hgr
        obtain ⟨d0, d1, d2, d3, d4, d5, d6, d7, d8, d9, d10, d11, d12, d13, d14⟩ := mk _ (Below.refl _ _)
        go_wp2_with fail
        refine (qE w1 (Below.refl _ _)).mono ?_
        rintro e w2 ⟨rfl, k2⟩
        go_wp2_with fail
        refine (q2 w2 k2).mono ?_
        rintro e w3 ⟨rfl, k3⟩
        go_wp2
        go_ret2
        exact ⟨rfl, (b_ _ (k2.trans (k3.mono k2.size)))⟩
      · have ht : toL (wtL vs) (othersL vs ms) false 0 = bestL (wtL vs) [1, 2] := by unfold toL; rw [if_neg (by decide), if_neg (by decide), if_pos rfl, if_neg hw0]
        rw [ht]
        have q2 := fun (W : World) (b : Below w1.heap.size w1 W) => wt_any Aw nw cw B 0 vs W (hw.below ((b_ W b).mono hB)) (Nat.le_trans hB (b_ W b).size) hnw hvs
        obtain ⟨x, hx⟩ : ∃ x, x = wtL vs 0 := ⟨_, rfl⟩
        simp only [← hx] at q2
        rw [← hx] at hw0
        obtain rfl : x = 0 := by omega
        clear ht hx hmm h3 hw0
        go_enter Tryz.func21, Tryz.ntmps21
        go_upto_region 1 with (fail)
        try rw [hw1]
        try rw [hgc]
        try rw [hgq]
        try rw [hgr]
        clear hw1 hgc hgq hgr
        obtain ⟨d0, d1, d2, d3, d4, d5, d6, d7, d8, d9, d10, d11, d12, d13, d14⟩ := mk _ (Below.refl _ _)
        go_wp2_with fail
        refine (qE w1 (Below.refl _ _)).mono ?_
        rintro e w2 ⟨rfl, k2⟩
        go_wp2_with fail
        refine (q2 w2 k2).mono ?_
        rintro e w3 ⟨rfl, k3⟩
        have t3 := k2.trans (k3.mono k2.size)
        clear d0 d1 d2 d3 d4 d5 d6 d7 d8 d9 d10 d11 d12 d13 d14
        have rk := rd_new w3 #[.int .i64 1, .int .i64 2] 3 1 2 rfl
        have ka := (Below.refl w3.heap.size w3).alloc (Nat.le_refl _) (.cells #[.int .i64 1, .int .i64 2] 3)
        have ta := t3.trans (ka.mono t3.size)
        go_wp2_with fail
        refine (best_any Aw (some ⟨w3.heap.size, 0, none⟩) nw cw B 2 2 _ vs [1, 2] _ (hw.below ((b_ _ ta).mono hB)) (Nat.le_trans hB (b_ _ ta).size) hnw hvs rk (by simp) (by omega)).mono ?_
        rintro e w9 ⟨rfl, k9⟩
        go_wp2
        go_ret2
        exact ⟨rfl, (b_ _ ta).trans (k9.mono (b_ _ ta).size)⟩
    · have hf12 : f = 1 ∨ f = 2 := by omega
      have ht : toL (wtL vs) (othersL vs ms) false f = firstK (wtL vs) [f, 0, 3 - f] := by unfold toL; rw [if_neg h3, if_neg (by decide), if_neg h0]
      rw [ht]
      clear ht hmm h3 h0
      rcases hf12 with rfl | rfl
      · have e0 : (((1 : Nat) : Int) == 0) = false := by decide
        go_enter Tryz.func21, Tryz.ntmps21
        go_upto_region 1 with (fail)
        try rw [hw1]
        try rw [hgc]
        try rw [hgq]
        try rw [hgr]
        clear hw1 hgc hgq hgr
        obtain ⟨d0, d1, d2, d3, d4, d5, d6, d7, d8, d9, d10, d11, d12, d13, d14⟩ := mk _ (Below.refl _ _)
        go_wp2_with fail
        refine (qE w1 (Below.refl _ _)).mono ?_
        rintro e w2 ⟨rfl, k2⟩
        clear d0 d1 d2 d3 d4 d5 d6 d7 d8 d9 d10 d11 d12 d13 d14
        have rk := rd_new w2 #[.int .i64 1, .int .i64 0, .int .i64 2] 3 1 3 rfl
        have ka := (Below.refl w2.heap.size w2).alloc (Nat.le_refl _) (.cells #[.int .i64 1, .int .i64 0, .int .i64 2] 3)
        have ta := k2.trans (ka.mono k2.size)
        go_wp2_with fail
        refine (first_any Aw (some ⟨w2.heap.size, 0, none⟩) nw cw B 3 3 _ vs [1, 0, 2] _ (hw.below ((b_ _ ta).mono hB)) (Nat.le_trans hB (b_ _ ta).size) hnw hvs rk (by simp) (by omega)).mono ?_
        rintro e w9 ⟨rfl, k9⟩
        go_wp2
        go_ret2
        exact ⟨rfl, (b_ _ ta).trans (k9.mono (b_ _ ta).size)⟩
      · have e0 : (((2 : Nat) : Int) == 0) = false := by decide
        go_enter Tryz.func21, Tryz.ntmps21
        go_upto_region 1 with (fail)
        try rw [hw1]
        try rw [hgc]
        try rw [hgq]
        try rw [hgr]
        clear hw1 hgc hgq hgr
        obtain ⟨d0, d1, d2, d3, d4, d5, d6, d7, d8, d9, d10, d11, d12, d13, d14⟩ := mk _ (Below.refl _ _)
        go_wp2_with fail
        refine (qE w1 (Below.refl _ _)).mono ?_
        rintro e w2 ⟨rfl, k2⟩
        clear d0 d1 d2 d3 d4 d5 d6 d7 d8 d9 d10 d11 d12 d13 d14
        have rk := rd_new w2 #[.int .i64 2, .int .i64 0, .int .i64 1] 3 1 3 rfl
        have ka := (Below.refl w2.heap.size w2).alloc (Nat.le_refl _) (.cells #[.int .i64 2, .int .i64 0, .int .i64 1] 3)
        have ta := k2.trans (ka.mono k2.size)
        go_wp2_with fail
        refine (first_any Aw (some ⟨w2.heap.size, 0, none⟩) nw cw B 3 3 _ vs [2, 0, 1] _ (hw.below ((b_ _ ta).mono hB)) (Nat.le_trans hB (b_ _ ta).size) hnw hvs rk (by simp) (by omega)).mono ?_
        rintro e w9 ⟨rfl, k9⟩
        go_wp2
        go_ret2
        exact ⟨rfl, (b_ _ ta).trans (k9.mono (b_ _ ta).size)⟩
  · have ht : toL (wtL vs) (othersL vs ms) true f = bestL (wtL vs) [1, 2, 0] := by unfold toL; rw [if_neg h3, if_pos rfl]
    rw [ht]
    clear ht hmm h3
    go_enter Tryz.func21, Tryz.ntmps21
    go_upto_region 1 with (fail)
    try rw [hw1]
    try rw [hgc]
    try rw [hgq]
    try rw [hgr]
    clear hw1 hgc hgq hgr
    obtain ⟨d0, d1, d2, d3, d4, d5, d6, d7, d8, d9, d10, d11, d12, d13, d14⟩ := mk _ (Below.refl _ _)
    go_wp2_with fail
    refine (qE w1 (Below.refl _ _)).mono ?_
    rintro e w2 ⟨rfl, k2⟩
    clear d0 d1 d2 d3 d4 d5 d6 d7 d8 d9 d10 d11 d12 d13 d14
    have rk := rd_new w2 #[.int .i64 1, .int .i64 2, .int .i64 0] 3 1 3 rfl
    have ka := (Below.refl w2.heap.size w2).alloc (Nat.le_refl _) (.cells #[.int .i64 1, .int .i64 2, .int .i64 0] 3)
    have ta := k2.trans (ka.mono k2.size)
    go_wp2_with fail
    refine (best_any Aw (some ⟨w2.heap.size, 0, none⟩) nw cw B 3 3 _ vs [1, 2, 0] _ (hw.below ((b_ _ ta).mono hB)) (Nat.le_trans hB (b_ _ ta).size) hnw hvs rk (by simp) (by omega)).mono ?_
    rintro e w9 ⟨rfl, k9⟩
    go_wp2
    go_ret2
    exact ⟨rfl, (b_ _ ta).trans (k9.mono (b_ _ ta).size)⟩
end Go.Proofs.YtgdjlmpfjmakkaaGreatDoor
