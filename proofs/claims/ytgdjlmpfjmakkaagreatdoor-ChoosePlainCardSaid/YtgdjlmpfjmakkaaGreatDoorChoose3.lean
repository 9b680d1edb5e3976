/- choose.Pick: which coding is sent. -/
import Derived.Test.YtgdjlmpfjmakkaaGreatDoorChoose2
import Derived.Test.YtgdjlmpfjmakkaaGreatDoorCalm
import Derived.Deep.RegionHeld3
import Derived.Deep.CutRange
import Derived.Deep.DeepCutAuto
namespace Go.Proofs.YtgdjlmpfjmakkaaGreatDoor
open Go.RowKit
theorem results_pl {fn : Func} {p u : Tmp} (h : fn.results = #[.cell p 35, .tmp u]) (tmps : Array Value) (w : World) (g : Nat) (a b c v : Value) (hb : Box w g [a, b, c]) (hp : tmps.getD p undef = .pointer (some ⟨g, 0, none⟩)) (hu : tmps.getD u undef = v) :
    (results fn tmps).run Tryz.prog w = .ok (.tuple #[.agg #[a, b, c], v]) w := by
  have hp' : tmps[p]?.getD undef = .pointer (some ⟨g, 0, none⟩) := by simpa using hp
  have hu' : tmps[u]?.getD undef = v := by simpa using hu
  obtain ⟨k0, k1, k2⟩ := hb.three
  simp [results, h, hp', hu', go_sem, k0, k1, k2]
/-- The kinds of a plan, its values. -/
def plV (p : (Bool × Nat × Nat) × Bool) : Value := .tuple #[.agg #[.bool p.1.1, .int .i64 p.1.2.1, .int .i64 p.1.2.2], .bool p.2]
def aeL : List UInt8 := [97, 99, 99, 101, 112, 116, 45, 101, 110, 99, 111, 100, 105, 110, 103]
def pickL (least : Int) (ts : List (List UInt8)) (m : ByteArray) (qs : List (List UInt8 × List UInt8)) (status : Int) (fs : List (List UInt8 × List UInt8)) : (Bool × Nat × Nat) × Bool :=
  planL (keptL status fs || emptyB m status) (codingL (allL fs codeL)) (toL (wtL (getL qs aeL)) (othersL (getL qs aeL) (allL fs codeL)) (eligL least ts m.data.toList status fs) (codingL (allL fs codeL)))

set_option maxRecDepth 100000 in
set_option maxHeartbeats 6400000 in
set_option linter.unusedSimpArgs false in
theorem pick_any (A0 A1 : Option Addr) (n0 c0 n1 c1 : Nat) (lv least cp bf tm qminor minor status : Int) (m tg s_ : ByteArray) (Aq : Option Addr) (nq cq : Nat) (A : Option Addr) (n c B : Nat) (fs : List (List UInt8 × List UInt8)) (ts : List (List UInt8)) (qs : List (List UInt8 × List UInt8)) (w : World) (h : Rd w B 2 A n (fcells fs)) (h1 : Rd w B 1 A1 n1 (scells ts)) (hq : Rd w B 2 Aq nq (fcells qs)) (hB : B ≤ w.heap.size) (hn : n ≤ 1000) (hn1 : n1 ≤ 1000) (hnq : nq ≤ 1000) (hok : fsOk fs) (hts : ∀ t ∈ ts, t.length ≤ 1000000) (hqs : fsOk qs) :
    Calls Tryz.prog 9 #[.agg #[.slice A0 n0 c0, .slice A1 n1 c1, .int .i64 lv, .int .i64 least, .int .i64 cp, .int .i64 bf, .int .i64 tm], .agg #[.string m, .string tg, .int .i64 qminor, .slice Aq nq cq], .agg #[.int .i64 minor, .int .i64 status, .string s_, .slice A n c]] w fun e w' => e = .returned (plV (pickL least ts m qs status fs)) ∧ Below w.heap.size w w' := by
  obtain ⟨wa, hwa⟩ : ∃ w1, (((w.alloc (.cells #[.slice A0 n0 c0, .slice A1 n1 c1, .int .i64 lv, .int .i64 least, .int .i64 cp, .int .i64 bf, .int .i64 tm] 25)).alloc (.cells #[.string m, .string tg, .int .i64 qminor, .slice Aq nq cq] 28)).alloc (.cells #[.int .i64 minor, .int .i64 status, .string s_, .slice A n c] 30)).alloc (.cells #[.bool false, .int .i64 0, .int .i64 0] 35) = w1 := ⟨_, rfl⟩
  obtain ⟨bC, bQ, bR, tW⟩ := three_boxes w #[.slice A0 n0 c0, .slice A1 n1 c1, .int .i64 lv, .int .i64 least, .int .i64 cp, .int .i64 bf, .int .i64 tm] #[.string m, .string tg, .int .i64 qminor, .slice Aq nq cq] #[.int .i64 minor, .int .i64 status, .string s_, .slice A n c] 25 28 30
  have ka := (Below.refl (((w.alloc (.cells #[.slice A0 n0 c0, .slice A1 n1 c1, .int .i64 lv, .int .i64 least, .int .i64 cp, .int .i64 bf, .int .i64 tm] 25)).alloc (.cells #[.string m, .string tg, .int .i64 qminor, .slice Aq nq cq] 28)).alloc (.cells #[.int .i64 minor, .int .i64 status, .string s_, .slice A n c] 30)).heap.size (((w.alloc (.cells #[.slice A0 n0 c0, .slice A1 n1 c1, .int .i64 lv, .int .i64 least, .int .i64 cp, .int .i64 bf, .int .i64 tm] 25)).alloc (.cells #[.string m, .string tg, .int .i64 qminor, .slice Aq nq cq] 28)).alloc (.cells #[.int .i64 minor, .int .i64 status, .string s_, .slice A n c] 30))).alloc (Nat.le_refl _) (.cells #[.bool false, .int .i64 0, .int .i64 0] 35)
  have bP := Box.new (((w.alloc (.cells #[.slice A0 n0 c0, .slice A1 n1 c1, .int .i64 lv, .int .i64 least, .int .i64 cp, .int .i64 bf, .int .i64 tm] 25)).alloc (.cells #[.string m, .string tg, .int .i64 qminor, .slice Aq nq cq] 28)).alloc (.cells #[.int .i64 minor, .int .i64 status, .string s_, .slice A n c] 30)) #[.bool false, .int .i64 0, .int .i64 0] 35
  replace bC := bC.below ka
  replace bQ := bQ.below ka
  replace bR := bR.below ka
  replace tW := tW.trans (ka.mono tW.size)
  clear ka
  rw [hwa] at bC bQ bR tW bP
  obtain ⟨gc, hgc⟩ : ∃ g, w.heap.size = g := ⟨_, rfl⟩
  obtain ⟨gq, hgq⟩ : ∃ g, gc + 1 = g := ⟨_, rfl⟩
  obtain ⟨gr, hgr⟩ : ∃ g, gq + 1 = g := ⟨_, rfl⟩
  obtain ⟨gp, hgp⟩ : ∃ g, gr + 1 = g := ⟨_, rfl⟩
  have hpz : (((w.alloc (.cells #[.slice A0 n0 c0, .slice A1 n1 c1, .int .i64 lv, .int .i64 least, .int .i64 cp, .int .i64 bf, .int .i64 tm] 25)).alloc (.cells #[.string m, .string tg, .int .i64 qminor, .slice Aq nq cq] 28)).alloc (.cells #[.int .i64 minor, .int .i64 status, .string s_, .slice A n c] 30)).heap.size = gp := by simp; omega
  rw [hpz] at bP
  clear hpz
  have hgpw : w.heap.size ≤ gp := by omega
  rw [hgc] at bC bQ bR
  have hgr2 : gc + 2 = gr := by omega
  rw [hgq] at bQ
  rw [hgr2] at bR
  clear hgr2
  have b_ := fun (W : World) (b : Below wa.heap.size wa W) => tW.trans (b.mono tW.size)
  have mk : ∀ W, Below wa.heap.size wa W → W.cell? ⟨gc, 0, none⟩ = some (.slice A0 n0 c0) ∧ W.cell? ⟨gc, 1, none⟩ = some (.slice A1 n1 c1) ∧ W.cell? ⟨gc, 2, none⟩ = some (.int .i64 lv) ∧ W.cell? ⟨gc, 3, none⟩ = some (.int .i64 least) ∧ W.cell? ⟨gc, 4, none⟩ = some (.int .i64 cp) ∧ W.cell? ⟨gc, 5, none⟩ = some (.int .i64 bf) ∧ W.cell? ⟨gc, 6, none⟩ = some (.int .i64 tm) ∧ W.cell? ⟨gq, 0, none⟩ = some (.string m) ∧ W.cell? ⟨gq, 1, none⟩ = some (.string tg) ∧ W.cell? ⟨gq, 2, none⟩ = some (.int .i64 qminor) ∧ W.cell? ⟨gq, 3, none⟩ = some (.slice Aq nq cq) ∧ W.cell? ⟨gr, 0, none⟩ = some (.int .i64 minor) ∧ W.cell? ⟨gr, 1, none⟩ = some (.int .i64 status) ∧ W.cell? ⟨gr, 2, none⟩ = some (.string s_) ∧ W.cell? ⟨gr, 3, none⟩ = some (.slice A n c) := fun W b => by
    have b1 := bC.below b
    have b2 := bQ.below b
    have b3 := bR.below b
    exact ⟨(b1.2 0 _ rfl).1, (b1.2 1 _ rfl).1, (b1.2 2 _ rfl).1, (b1.2 3 _ rfl).1, (b1.2 4 _ rfl).1, (b1.2 5 _ rfl).1, (b1.2 6 _ rfl).1, (b2.2 0 _ rfl).1, (b2.2 1 _ rfl).1, (b2.2 2 _ rfl).1, (b2.2 3 _ rfl).1, (b3.2 0 _ rfl).1, (b3.2 1 _ rfl).1, (b3.2 2 _ rfl).1, (b3.2 3 _ rfl).1⟩
  have qC := fun (W : World) (b : Below wa.heap.size wa W) => pocoding_any minor status s_ A n c B fs W (h.below ((b_ W b).mono hB)) (Nat.le_trans hB (b_ W b).size) hn hok
  have qK := fun (W : World) (b : Below wa.heap.size wa W) => pkept_any minor status s_ A n c B fs W (h.below ((b_ W b).mono hB)) (Nat.le_trans hB (b_ W b).size) hn hok
  have qM := fun (W : World) => empty_any m status W
  have qG := fun (W : World) (b : Below wa.heap.size wa W) => get_any Aq nq cq B qs ⟨#[65, 99, 99, 101, 112, 116, 45, 69, 110, 99, 111, 100, 105, 110, 103]⟩ W (hq.below ((b_ W b).mono hB)) (Nat.le_trans hB (b_ W b).size) (by omega) hqs (by decide)
  have e1 : getL qs (⟨#[65, 99, 99, 101, 112, 116, 45, 69, 110, 99, 111, 100, 105, 110, 103]⟩ : ByteArray).data.toList = getL qs aeL := getL_congr (by decide) qs
  simp only [e1] at qG
  have hvs := getL_mem hqs aeL
  have hvl := getL_len qs aeL
  have hql := hq.flen
  have hcf := codingL_le (allL fs codeL)
  obtain ⟨f, hf⟩ : ∃ x, x = codingL (allL fs codeL) := ⟨_, rfl⟩
  obtain ⟨vs, hvs'⟩ : ∃ x, x = getL qs aeL := ⟨_, rfl⟩
  obtain ⟨nv, hnv⟩ : ∃ x, x = vs.length := ⟨_, rfl⟩
  simp only [← hvs', ← hnv] at qG
  rw [← hvs'] at hvs hvl
  rw [← hnv] at hvl
  rw [← hf] at hcf
  simp only [← hf] at qC
  have qT := fun (W : World) (b : Below wa.heap.size wa W) (Aw : Option Addr) (cw : Nat) (r : Rd W W.heap.size 1 Aw nv (scells vs)) => to_any A0 A1 n0 c0 n1 c1 lv least cp bf tm qminor minor status m tg s_ Aq nq cq A n c W.heap.size fs ts Aw nv cw f vs W ((h.below ((b_ W b).mono hB)).mono (Nat.le_trans hB (b_ W b).size)) ((h1.below ((b_ W b).mono hB)).mono (Nat.le_trans hB (b_ W b).size)) r (Nat.le_refl _) hn hn1 (by omega) hok hts hvs hcf
  obtain ⟨r, hr⟩ : ∃ r, r = pickL least ts m qs status fs := ⟨_, rfl⟩
  rw [← hr]
  unfold pickL at hr
  rw [← hf, ← hvs'] at hr
  obtain ⟨tt, hto⟩ : ∃ t, t = toL (wtL vs) (othersL vs (allL fs codeL)) (eligL least ts m.data.toList status fs) f := ⟨_, rfl⟩
  rw [← hto] at hr
  simp only [← hto] at qT
  obtain ⟨K, hK⟩ : ∃ b, b = keptL status fs := ⟨_, rfl⟩
  obtain ⟨M, hM⟩ : ∃ b, b = emptyB m status := ⟨_, rfl⟩
  rw [← hK, ← hM] at hr
  simp only [← hK] at qK
  simp only [← hM] at qM
  have HR := hide hr
  obtain ⟨tk, tb⟩ := tt
  dsimp only at qT
  clear hr hto hK hM hf hvs' hnv h h1 hq hok hts hqs hvs hvl hql hcf e1
  have z0 : Below wa.heap.size wa wa := Below.refl _ _
  go_enter Tryz.func9, Tryz.ntmps9
  go_upto_region 1 with (fail)
  try rw [hwa]
  try rw [hgc]
  try rw [hgq]
  try rw [hgr]
  try rw [hgp]
  clear hwa hgc hgq hgr hgp
  obtain ⟨d0, d1, d2, d3, d4, d5, d6, d7, d8, d9, d10, d11, d12, d13, d14⟩ := mk _ z0
  go_wp2_with fail
  refine (qC wa z0).mono ?_
  rintro e w2 ⟨rfl, k2⟩
  replace bP := bP.below k2
  clear d0 d1 d2 d3 d4 d5 d6 d7 d8 d9 d10 d11 d12 d13 d14
  obtain ⟨d0, d1, d2, d3, d4, d5, d6, d7, d8, d9, d10, d11, d12, d13, d14⟩ := mk _ k2
  rcases K with _ | _
  · rcases M with _ | _
    · go_wp2_with fail
      refine (qK w2 k2).mono ?_
      rintro e w3 ⟨rfl, k⟩
      replace bP := bP.below k
      have k3 := k2.trans (k.mono k2.size)
      clear k d0 d1 d2 d3 d4 d5 d6 d7 d8 d9 d10 d11 d12 d13 d14
      obtain ⟨d0, d1, d2, d3, d4, d5, d6, d7, d8, d9, d10, d11, d12, d13, d14⟩ := mk _ k3
      go_wp2_with fail
      refine (qM w3).mono ?_
      rintro e w4 ⟨rfl, rfl⟩
      go_upto_region 4 with (fail)
      clear d0 d1 d2 d3 d4 d5 d6 d7 d8 d9 d10 d11 d12 d13 d14
      have z1 : Below wa.heap.size wa w3.drew := k3.drew
      have bP1 : Box w3.drew gp [.bool false, .int .i64 0, .int .i64 0] := bP
      go_cut [9, 10] from 25 to 35 (fun s s' wx => s = .int .i64 tk ∧ s' = .bool tb ∧ Below wa.heap.size wa wx ∧ Box wx gp [.bool false, .int .i64 0, .int .i64 0])
      case first =>
        refine CalmP.hideN (fun K0 hQ => ?_)
        refine wp_region_held_drew (S := (fun W : World => W.cell? ⟨gc, 0, none⟩ = some (.slice A0 n0 c0) ∧ W.cell? ⟨gc, 1, none⟩ = some (.slice A1 n1 c1) ∧ W.cell? ⟨gc, 2, none⟩ = some (.int .i64 lv) ∧ W.cell? ⟨gc, 3, none⟩ = some (.int .i64 least) ∧ W.cell? ⟨gc, 4, none⟩ = some (.int .i64 cp) ∧ W.cell? ⟨gc, 5, none⟩ = some (.int .i64 bf) ∧ W.cell? ⟨gc, 6, none⟩ = some (.int .i64 tm) ∧ W.cell? ⟨gq, 0, none⟩ = some (.string m) ∧ W.cell? ⟨gq, 1, none⟩ = some (.string tg) ∧ W.cell? ⟨gq, 2, none⟩ = some (.int .i64 qminor) ∧ W.cell? ⟨gq, 3, none⟩ = some (.slice Aq nq cq) ∧ W.cell? ⟨gr, 0, none⟩ = some (.int .i64 minor) ∧ W.cell? ⟨gr, 1, none⟩ = some (.int .i64 status) ∧ W.cell? ⟨gr, 2, none⟩ = some (.string s_) ∧ W.cell? ⟨gr, 3, none⟩ = some (.slice A n c))) (by kernel_rfl) (mk _ z1) (fun hHeld => ?_)
        refine wpAnyH_take (i := 0) (v := ?_) rfl (by kernel_rfl) (by kernel_rfl) (by kernel_rfl) CalmP.onlyN_panic (Or.inl ⟨by kernel_rfl, ?_⟩) (by assumption) ?_
        rotate_left
        · (intro w_ hSw; (try dsimp only at hSw); go_simp; try with_reducible rfl)
        try simp only [List.getElem_toArray, List.getElem_cons_succ, List.getElem_cons_zero, Act.put, List.setIfInBounds_toArray, List.set_cons_zero, List.set_cons_succ]
        refine wpAnyH_take (i := 1) (v := ?_) rfl (by kernel_rfl) (by kernel_rfl) (by kernel_rfl) CalmP.onlyN_panic (Or.inl ⟨by kernel_rfl, ?_⟩) (by assumption) ?_
        rotate_left
        · (intro w_ hSw; (try dsimp only at hSw); go_simp; try with_reducible rfl)
        try simp only [List.getElem_toArray, List.getElem_cons_succ, List.getElem_cons_zero, Act.put, List.setIfInBounds_toArray, List.set_cons_zero, List.set_cons_succ]
        refine wpAnyH_take (i := 3) (v := ?_) rfl (by kernel_rfl) (by kernel_rfl) (by kernel_rfl) CalmP.onlyN_panic (Or.inl ⟨by kernel_rfl, ?_⟩) (by assumption) ?_
        rotate_left
        · (intro w_ hSw; (try dsimp only at hSw); go_simp; try with_reducible rfl)
        try simp only [List.getElem_toArray, List.getElem_cons_succ, List.getElem_cons_zero, Act.put, List.setIfInBounds_toArray, List.set_cons_zero, List.set_cons_succ]
        refine wpAnyH_take (i := 4) (v := ?_) rfl (by kernel_rfl) (by kernel_rfl) (by kernel_rfl) CalmP.onlyN_panic (Or.inl ⟨by kernel_rfl, ?_⟩) (by assumption) ?_
        rotate_left
        · (intro w_ hSw; (try dsimp only at hSw); go_simp; try with_reducible rfl)
        try simp only [List.getElem_toArray, List.getElem_cons_succ, List.getElem_cons_zero, Act.put, List.setIfInBounds_toArray, List.set_cons_zero, List.set_cons_succ]
        refine wpAnyH_take (i := 5) (v := ?_) rfl (by kernel_rfl) (by kernel_rfl) (by kernel_rfl) CalmP.onlyN_panic (Or.inl ⟨by kernel_rfl, ?_⟩) (by assumption) ?_
        rotate_left
        · (intro w_ hSw; (try dsimp only at hSw); go_simp; try with_reducible rfl)
        try simp only [List.getElem_toArray, List.getElem_cons_succ, List.getElem_cons_zero, Act.put, List.setIfInBounds_toArray, List.set_cons_zero, List.set_cons_succ]
        refine wpAnyH_take (i := 6) (v := ?_) rfl (by kernel_rfl) (by kernel_rfl) (by kernel_rfl) CalmP.onlyN_panic (Or.inl ⟨by kernel_rfl, ?_⟩) (by assumption) ?_
        rotate_left
        · (intro w_ hSw; (try dsimp only at hSw); go_simp; try with_reducible rfl)
        try simp only [List.getElem_toArray, List.getElem_cons_succ, List.getElem_cons_zero, Act.put, List.setIfInBounds_toArray, List.set_cons_zero, List.set_cons_succ]
        refine wpAnyH_ready (rs := [2]) (by kernel_rfl) (by simp) ?_
        refine AllReadyH.cons rfl (fun K_ hK => ?_) AllReadyH.nil
        go_simp
        refine (qG _ z1).mono ?_
        rintro e_ V1 ⟨Aw, cw, rfl, ow, -, k_⟩
        have y1 := z1.trans (k_.mono z1.size)
        have rw_ := Rd.of_own ow
        clear ow
        have bP2 := bP1.below k_
        clear bP1
        have bP1 := bP2
        clear bP2
        clear k_
        refine hK.out _ _ (mk _ y1) (fun hHeld => ?_)
        clear hK K_
        try simp only [List.getElem_toArray, List.getElem_cons_succ, List.getElem_cons_zero, Act.put, List.setIfInBounds_toArray, List.set_cons_zero, List.set_cons_succ]
        refine wpAnyH_ready (rs := [7]) (by kernel_rfl) (by simp) ?_
        refine AllReadyH.cons rfl (fun K_ hK => ?_) AllReadyH.nil
        go_simp
        refine (qT V1 y1 Aw cw rw_).mono ?_
        rintro e_ V2 ⟨rfl, k_⟩
        have y2 := y1.trans (k_.mono y1.size)
        clear rw_
        have bP2 := bP1.below k_
        clear bP1
        have bP1 := bP2
        clear bP2
        clear k_
        refine hK.out _ _ (mk _ y2) (fun hHeld => ?_)
        clear hK K_
        try simp only [List.getElem_toArray, List.getElem_cons_succ, List.getElem_cons_zero, Act.put, List.setIfInBounds_toArray, List.set_cons_zero, List.set_cons_succ]
        refine wpAnyH_take (i := 8) (v := ?_) rfl (by kernel_rfl) (by kernel_rfl) (by kernel_rfl) CalmP.onlyN_panic (Or.inl ⟨by kernel_rfl, ?_⟩) (by assumption) ?_
        rotate_left
        · (intro w_ hSw; (try dsimp only at hSw); go_simp; try with_reducible rfl)
        try simp only [List.getElem_toArray, List.getElem_cons_succ, List.getElem_cons_zero, Act.put, List.setIfInBounds_toArray, List.set_cons_zero, List.set_cons_succ]
        refine wpAnyH_take (i := 9) (v := ?_) rfl (by kernel_rfl) (by kernel_rfl) (by kernel_rfl) CalmP.onlyN_panic (Or.inl ⟨by kernel_rfl, ?_⟩) (by assumption) ?_
        rotate_left
        · (intro w_ hSw; (try dsimp only at hSw); go_simp; try with_reducible rfl)
        try simp only [List.getElem_toArray, List.getElem_cons_succ, List.getElem_cons_zero, Act.put, List.setIfInBounds_toArray, List.set_cons_zero, List.set_cons_succ]
        refine wpAnyH_take (i := 10) (v := ?_) rfl (by kernel_rfl) (by kernel_rfl) (by kernel_rfl) CalmP.onlyN_panic (Or.inl ⟨by kernel_rfl, ?_⟩) (by assumption) ?_
        rotate_left
        · (intro w_ hSw; (try dsimp only at hSw); go_simp; try with_reducible rfl)
        try simp only [List.getElem_toArray, List.getElem_cons_succ, List.getElem_cons_zero, Act.put, List.setIfInBounds_toArray, List.set_cons_zero, List.set_cons_succ]
        refine wpAnyH_take (i := 11) (v := ?_) rfl (by kernel_rfl) (by kernel_rfl) (by kernel_rfl) CalmP.onlyN_panic (Or.inl ⟨by kernel_rfl, ?_⟩) (by assumption) ?_
        rotate_left
        · (intro w_ hSw; (try dsimp only at hSw); go_simp; try with_reducible rfl)
        try simp only [List.getElem_toArray, List.getElem_cons_succ, List.getElem_cons_zero, Act.put, List.setIfInBounds_toArray, List.set_cons_zero, List.set_cons_succ]
        refine wpAnyH_take (i := 12) (v := ?_) rfl (by kernel_rfl) (by kernel_rfl) (by kernel_rfl) CalmP.onlyN_panic (Or.inl ⟨by kernel_rfl, ?_⟩) (by assumption) ?_
        rotate_left
        · (intro w_ hSw; (try dsimp only at hSw); go_simp; try with_reducible rfl)
        try simp only [List.getElem_toArray, List.getElem_cons_succ, List.getElem_cons_zero, Act.put, List.setIfInBounds_toArray, List.set_cons_zero, List.set_cons_succ]
        refine wpAnyH_done (by kernel_rfl) ?_ _
        refine CalmP.onlyN_here (hQ.out _ _ ?_)
        clear hQ K0
        have bPz := bP1
        go_wp2_with fail
        go_meet
        exact ⟨rfl, rfl, y2, bPz⟩
      case rest =>
        obtain ⟨rfl, rfl, k5, bP⟩ := hcut
        obtain ⟨p0, p1, p2⟩ := bP.three
        have f0 := (bP.2 0 _ rfl).2
        have f1 := (bP.2 1 _ rfl).2
        have f2 := (bP.2 2 _ rfl).2
        rcases tb with _ | _
        · have hr : r = ((false, 0, 0), false) := HR.out
          subst hr
          go_wp2
          have hb := ((bP.set (k := 0) (x := (.bool false)) (by simp)).set (k := 1) (x := (.int .i64 0)) (by simp)).set (k := 2) (x := (.int .i64 0)) (by simp)
          refine bodyPost_ret (v := .tuple #[.agg #[(.bool false), (.int .i64 0), (.int .i64 0)], .bool false]) (results_pl Tryz.results9 _ _ gp (.bool false) (.int .i64 0) (.int .i64 0) (.bool false) hb rfl rfl) rfl ?_
          exact ⟨rfl, ((((b_ _ k5).setCell hgpw _).setCell hgpw _).setCell hgpw _)⟩
        · have hr : r = ((decide (f = tk), f, tk), true) := HR.out
          subst hr
          have hdk : ((f : Int) == (tk : Int)) = decide (f = tk) := by rw [Bool.eq_iff_iff, decide_eq_true_iff, beq_iff_eq]; omega
          go_wp2
          have hb := ((bP.set (k := 0) (x := (.bool (decide (f = tk)))) (by simp)).set (k := 1) (x := (.int .i64 f)) (by simp)).set (k := 2) (x := (.int .i64 tk)) (by simp)
          refine bodyPost_ret (v := .tuple #[.agg #[(.bool (decide (f = tk))), (.int .i64 f), (.int .i64 tk)], .bool true]) (results_pl Tryz.results9 _ _ gp (.bool (decide (f = tk))) (.int .i64 f) (.int .i64 tk) (.bool true) hb rfl rfl) rfl ?_
          exact ⟨rfl, ((((b_ _ k5).setCell hgpw _).setCell hgpw _).setCell hgpw _)⟩
    · have hr : r = ((true, f, f), true) := HR.out
      subst hr
      go_wp2_with fail
      refine (qK w2 k2).mono ?_
      rintro e w3 ⟨rfl, k⟩
      replace bP := bP.below k
      have k3 := k2.trans (k.mono k2.size)
      clear k d0 d1 d2 d3 d4 d5 d6 d7 d8 d9 d10 d11 d12 d13 d14
      obtain ⟨d0, d1, d2, d3, d4, d5, d6, d7, d8, d9, d10, d11, d12, d13, d14⟩ := mk _ k3
      obtain ⟨p0, p1, p2⟩ := bP.three
      have f0 := (bP.2 0 _ rfl).2
      have f1 := (bP.2 1 _ rfl).2
      have f2 := (bP.2 2 _ rfl).2
      go_wp2_with fail
      refine (qM w3).mono ?_
      rintro e w4 ⟨rfl, rfl⟩
      go_wp2
      have hb := ((bP.set (k := 0) (x := (.bool true)) (by simp)).set (k := 1) (x := (.int .i64 f)) (by simp)).set (k := 2) (x := (.int .i64 f)) (by simp)
      refine bodyPost_ret (v := .tuple #[.agg #[(.bool true), (.int .i64 f), (.int .i64 f)], .bool true]) (results_pl Tryz.results9 _ _ gp (.bool true) (.int .i64 f) (.int .i64 f) (.bool true) hb rfl rfl) rfl ?_
      exact ⟨rfl, ((((b_ _ k3).setCell hgpw _).setCell hgpw _).setCell hgpw _)⟩
  · have hr : r = ((true, f, f), true) := HR.out
    subst hr
    go_wp2_with fail
    refine (qK w2 k2).mono ?_
    rintro e w3 ⟨rfl, k⟩
    replace bP := bP.below k
    have k3 := k2.trans (k.mono k2.size)
    clear k d0 d1 d2 d3 d4 d5 d6 d7 d8 d9 d10 d11 d12 d13 d14
    obtain ⟨p0, p1, p2⟩ := bP.three
    have f0 := (bP.2 0 _ rfl).2
    have f1 := (bP.2 1 _ rfl).2
    have f2 := (bP.2 2 _ rfl).2
    go_wp2
    have hb := ((bP.set (k := 0) (x := (.bool true)) (by simp)).set (k := 1) (x := (.int .i64 f)) (by simp)).set (k := 2) (x := (.int .i64 f)) (by simp)
    refine bodyPost_ret (v := .tuple #[.agg #[(.bool true), (.int .i64 f), (.int .i64 f)], .bool true]) (results_pl Tryz.results9 _ _ gp (.bool true) (.int .i64 f) (.int .i64 f) (.bool true) hb rfl rfl) rfl ?_
    exact ⟨rfl, ((((b_ _ k3).setCell hgpw _).setCell hgpw _).setCell hgpw _)⟩
end Go.Proofs.YtgdjlmpfjmakkaaGreatDoor
