/- ChooseMay returns true, whatever its arguments. -/
import Derived.Test.YtgdjlmpfjmakkaaGreatDoorChooseSmall
import Derived.Test.YtgdjlmpfjmakkaaGreatDoorConfig
import Derived.Test.YtgdjlmpfjmakkaaGreatDoorFrameTells
import Derived.Test.YtgdjlmpfjmakkaaGreatDoorLaid7
import Derived.Test.YtgdjlmpfjmakkaaGreatDoorCalm
import Derived.Deep.RegionHeld3
namespace Go.Proofs.YtgdjlmpfjmakkaaGreatDoor.ChooseMayP
open Go.RowKit
open FrameLengthsP (step_)
open FrameTellsP (of_drew)

theorem best_none (w : Nat → Nat) : ∀ (ks : List Nat) (s : Nat × Nat), (ks.foldl (bestS w) s).2 = 0 → s.2 = 0 ∧ ∀ k ∈ ks, w k = 0
  | [], s, h => ⟨h, by simp⟩
  | k :: ks, s, h => by
    rw [List.foldl_cons] at h
    obtain ⟨h1, h2⟩ := best_none w ks _ h
    unfold bestS at h1
    by_cases hk : s.2 < w k
    · rw [if_pos hk] at h1
      have h1' : w k = 0 := h1
      omega
    · rw [if_neg hk] at h1
      refine ⟨h1, fun x hx => ?_⟩
      rcases List.mem_cons.1 hx with rfl | hx
      · omega
      · exact h2 x hx
theorem bestL_none {w : Nat → Nat} {ks : List Nat} (h : (bestL w ks).2 = false) : ∀ k ∈ ks, w k = 0 := by
  unfold bestL at h
  have h1 : ¬ 0 < (bestF w ks).2 := of_decide_eq_false h
  exact (best_none w ks (0, 0) (by unfold bestF at h1; omega)).2
theorem bestL_some {w : Nat → Nat} {ks : List Nat} (h : (bestL w ks).2 = true) : 0 < w (bestL w ks).1 ∧ (bestL w ks).1 ∈ ks := by
  have hr := rel_fold (w := w) ks (0, 0) none (.inl ⟨rfl, rfl⟩)
  unfold bestL at h ⊢
  have h1 : 0 < (bestF w ks).2 := of_decide_eq_true h
  rcases hr with ⟨_, h2⟩ | ⟨b, ho, h2, h3⟩
  · have h2' : bestF w ks = (0, 0) := h2
    rw [h2'] at h1; simp at h1
  · have h2' : bestF w ks = (b, w b) := h2
    rw [h2']
    exact ⟨h3, foldO_mem w false (· ∈ ks) ks none (fun _ h => by cases h) (fun _ h => h) b ho⟩
theorem firstK_none' {w : Nat → Nat} : ∀ {ks : List Nat}, (firstK w ks).2 = false → ∀ k ∈ ks, w k = 0
  | k :: ks, h, x, hx => by
    rw [firstK] at h
    by_cases hk : 0 < w k
    · rw [if_pos hk] at h; cases h
    · rw [if_neg hk] at h
      rcases List.mem_cons.1 hx with rfl | hx
      · omega
      · exact firstK_none' h x hx
theorem firstK_some' {w : Nat → Nat} : ∀ {ks : List Nat}, (firstK w ks).2 = true → 0 < w (firstK w ks).1 ∧ (firstK w ks).1 ∈ ks
  | [], h => by cases h
  | k :: ks, h => by
    rw [firstK] at h ⊢
    by_cases hk : 0 < w k
    · rw [if_pos hk]; exact ⟨hk, by simp⟩
    · rw [if_neg hk] at h ⊢
      obtain ⟨h1, h2⟩ := firstK_some' h
      exact ⟨h1, by simp [h2]⟩
theorem to_none {w : Nat → Nat} {oth el : Bool} {f : Nat} (hf : f ≠ 3) (hf3 : f ≤ 3) (h : (toL w oth el f).2 = false) : w 0 = 0 ∧ w 1 = 0 ∧ w 2 = 0 := by
  unfold toL at h
  rw [if_neg hf] at h
  by_cases he : el = true
  · rw [if_pos he] at h
    have := bestL_none h
    exact ⟨this 0 (by simp), this 1 (by simp), this 2 (by simp)⟩
  · rw [if_neg he] at h
    by_cases h0 : f = 0
    · rw [if_pos h0] at h
      by_cases hw : 0 < w 0
      · rw [if_pos hw] at h; cases h
      · rw [if_neg hw] at h
        have := bestL_none h
        exact ⟨by omega, this 1 (by simp), this 2 (by simp)⟩
    · rw [if_neg h0] at h
      have := firstK_none' h
      have hc : f = 1 ∨ f = 2 := by omega
      rcases hc with rfl | rfl
      · exact ⟨this 0 (by simp), this 1 (by simp), this 2 (by simp)⟩
      · exact ⟨this 0 (by simp), this 1 (by simp), this 2 (by simp)⟩
theorem to_some {w : Nat → Nat} {oth el : Bool} {f : Nat} (hf : f ≠ 3) (hf3 : f ≤ 3) (h : (toL w oth el f).2 = true) : 0 < w (toL w oth el f).1 ∧ (toL w oth el f).1 ≤ 2 := by
  unfold toL at h ⊢
  rw [if_neg hf] at h ⊢
  by_cases he : el = true
  · rw [if_pos he] at h ⊢
    obtain ⟨h1, h2⟩ := bestL_some h
    refine ⟨h1, ?_⟩
    simp at h2; omega
  · rw [if_neg he] at h ⊢
    by_cases h0 : f = 0
    · rw [if_pos h0] at h ⊢
      by_cases hw : 0 < w 0
      · rw [if_pos hw]; exact ⟨hw, by decide⟩
      · rw [if_neg hw] at h ⊢
        obtain ⟨h1, h2⟩ := bestL_some h
        refine ⟨h1, ?_⟩
        simp at h2; omega
    · rw [if_neg h0] at h ⊢
      obtain ⟨h1, h2⟩ := firstK_some' h
      refine ⟨h1, ?_⟩
      simp at h2; omega
theorem to_three (w : Nat → Nat) (oth el : Bool) : toL w oth el 3 = (3, oth) := by unfold toL; rw [if_pos rfl]

set_option maxRecDepth 100000 in
set_option maxHeartbeats 25600000 in
set_option linter.unusedSimpArgs false in
theorem walk (A0 A1 : Option Addr) (n0 c0 n1 c1 : Nat) (lv least cp bf tm : Int) (ts : List (List UInt8)) (m tg : ByteArray) (qminor : Int) (Aq : Option Addr) (nq cq : Nat) (qs : List (List UInt8 × List UInt8)) (minor status : Int) (s_ : ByteArray) (A : Option Addr) (n c : Nat) (fs : List (List UInt8 × List UInt8)) (w : World)
    (h1 : Rd w w.heap.size 1 A1 n1 (scells ts)) (hn1 : n1 ≤ 9223372036854775807) (hts : ∀ t ∈ ts, t.length ≤ reachBytes) (hq : Rd w w.heap.size 2 Aq nq (fcells qs)) (hnq : nq ≤ 9223372036854775807) (hzq : ∀ f ∈ qs, f.1.length ≤ reachBytes ∧ f.2.length ≤ reachBytes) (h : Rd w w.heap.size 2 A n (fcells fs)) (hn : n ≤ 9223372036854775807) (hz : ∀ f ∈ fs, f.1.length ≤ reachBytes ∧ f.2.length ≤ reachBytes) :
    Calls Tryz.prog 4 #[.agg #[.slice A0 n0 c0, .slice A1 n1 c1, .int .i64 lv, .int .i64 least, .int .i64 cp, .int .i64 bf, .int .i64 tm], .agg #[.string m, .string tg, .int .i64 qminor, .slice Aq nq cq], .agg #[.int .i64 minor, .int .i64 status, .string s_, .slice A n c]] w fun e w' => e = .returned (.bool true) ∧ Below w.heap.size w w' := by
  obtain ⟨w1, hw1⟩ : ∃ w1, ((w.alloc (.cells #[.slice A0 n0 c0, .slice A1 n1 c1, .int .i64 lv, .int .i64 least, .int .i64 cp, .int .i64 bf, .int .i64 tm] 25)).alloc (.cells #[.string m, .string tg, .int .i64 qminor, .slice Aq nq cq] 28)).alloc (.cells #[.int .i64 minor, .int .i64 status, .string s_, .slice A n c] 30) = w1 := ⟨_, rfl⟩
  obtain ⟨bC, bQ, bR, tW⟩ := three_boxes w #[.slice A0 n0 c0, .slice A1 n1 c1, .int .i64 lv, .int .i64 least, .int .i64 cp, .int .i64 bf, .int .i64 tm] #[.string m, .string tg, .int .i64 qminor, .slice Aq nq cq] #[.int .i64 minor, .int .i64 status, .string s_, .slice A n c] 25 28 30
  rw [hw1] at bC bQ bR tW
  obtain ⟨gc, hgc⟩ : ∃ g, w.heap.size = g := ⟨_, rfl⟩
  obtain ⟨gq, hgq⟩ : ∃ g, gc + 1 = g := ⟨_, rfl⟩
  obtain ⟨gr, hgr⟩ : ∃ g, gq + 1 = g := ⟨_, rfl⟩
  rw [hgc] at bC bQ bR
  have hgr2 : gc + 2 = gr := by omega
  rw [hgq] at bQ
  rw [hgr2] at bR
  clear hgr2
  have b_ := fun (W : World) (b : Below w1.heap.size w1 W) => tW.trans (b.mono tW.size)
  have mk : ∀ W, Below w1.heap.size w1 W → W.cell? ⟨gc, 0, none⟩ = some (.slice A0 n0 c0) ∧ W.cell? ⟨gc, 1, none⟩ = some (.slice A1 n1 c1) ∧ W.cell? ⟨gc, 2, none⟩ = some (.int .i64 lv) ∧ W.cell? ⟨gc, 3, none⟩ = some (.int .i64 least) ∧ W.cell? ⟨gc, 4, none⟩ = some (.int .i64 cp) ∧ W.cell? ⟨gc, 5, none⟩ = some (.int .i64 bf) ∧ W.cell? ⟨gc, 6, none⟩ = some (.int .i64 tm) ∧ W.cell? ⟨gq, 0, none⟩ = some (.string m) ∧ W.cell? ⟨gq, 1, none⟩ = some (.string tg) ∧ W.cell? ⟨gq, 2, none⟩ = some (.int .i64 qminor) ∧ W.cell? ⟨gq, 3, none⟩ = some (.slice Aq nq cq) ∧ W.cell? ⟨gr, 0, none⟩ = some (.int .i64 minor) ∧ W.cell? ⟨gr, 1, none⟩ = some (.int .i64 status) ∧ W.cell? ⟨gr, 2, none⟩ = some (.string s_) ∧ W.cell? ⟨gr, 3, none⟩ = some (.slice A n c) := fun W b => by
    have b1 := bC.below b
    have b2 := bQ.below b
    have b3 := bR.below b
    exact ⟨(b1.2 0 _ rfl).1, (b1.2 1 _ rfl).1, (b1.2 2 _ rfl).1, (b1.2 3 _ rfl).1, (b1.2 4 _ rfl).1, (b1.2 5 _ rfl).1, (b1.2 6 _ rfl).1, (b2.2 0 _ rfl).1, (b2.2 1 _ rfl).1, (b2.2 2 _ rfl).1, (b2.2 3 _ rfl).1, (b3.2 0 _ rfl).1, (b3.2 1 _ rfl).1, (b3.2 2 _ rfl).1, (b3.2 3 _ rfl).1⟩
  have hfl := h.flen
  have hql := hq.flen
  have hll : ts.length = n1 := by have := h1.1; simpa [scells] using this
  have qL1 := fun (W : World) (b : Below w1.heap.size w1 W) => of_drew (light22_any Aq nq cq _ qs W (hq.below (b_ W b)) hnq hzq)
  have qL2 := fun (W : World) (b : Below w1.heap.size w1 W) => of_drew (light22_any A n c _ fs W (h.below (b_ W b)) hn hz)
  have qF := fun (W : World) (b : Below w1.heap.size w1 W) => few22_any A1 n1 c1 _ ts W (h1.below (b_ W b)) hn1 hts
  have qA := fun (W : World) (_ : Below w1.heap.size w1 W) => ans22_any W
  rcases hL1 : lightS 100 20000 qs with _ | _
  · rw [hL1] at qL1
    clear hL1 hfl hll hql
    go_enter Tryz.func4, Tryz.ntmps4
    go_upto_region 1 with (fail)
    try rw [hw1]
    try rw [hgc]
    try rw [hgq]
    try rw [hgr]
    clear hw1 hgc hgq hgr
    obtain ⟨d0, d1, d2, d3, d4, d5, d6, d7, d8, d9, d10, d11, d12, d13, d14⟩ := mk _ (Below.refl _ _)
    go_wp2_with fail
    refine (qL1 w1 (Below.refl _ _)).mono ?_
    rintro e w2 ⟨rfl, k2⟩
    go_upto_region 2 with (fail)
    go_wp2_with fail
    refine (qA w2 k2).mono ?_
    rintro e w9 ⟨rfl, k9⟩
    go_wp2
    go_ret
    exact ⟨rfl, b_ _ (k2.trans (k9.mono k2.size))⟩
  rw [hL1] at qL1
  rcases hL2 : lightS 100 20000 fs with _ | _
  · rw [hL2] at qL2
    clear hL1 hL2 hfl hll hql
    go_enter Tryz.func4, Tryz.ntmps4
    go_upto_region 1 with (fail)
    try rw [hw1]
    try rw [hgc]
    try rw [hgq]
    try rw [hgr]
    clear hw1 hgc hgq hgr
    obtain ⟨d0, d1, d2, d3, d4, d5, d6, d7, d8, d9, d10, d11, d12, d13, d14⟩ := mk _ (Below.refl _ _)
    go_wp2_with fail
    refine (qL1 w1 (Below.refl _ _)).mono ?_
    rintro e w2 ⟨rfl, k2⟩
    clear d0 d1 d2 d3 d4 d5 d6 d7 d8 d9 d10 d11 d12 d13 d14
    obtain ⟨d0, d1, d2, d3, d4, d5, d6, d7, d8, d9, d10, d11, d12, d13, d14⟩ := mk _ k2
    go_wp2_with fail
    refine (qL2 w2 k2).mono ?_
    rintro e w3 ⟨rfl, k⟩
    have k3 := k2.trans (k.mono k2.size)
    clear k
    go_upto_region 2 with (fail)
    go_wp2_with fail
    refine (qA w3 k3).mono ?_
    rintro e w9 ⟨rfl, k9⟩
    go_wp2
    go_ret
    exact ⟨rfl, b_ _ (k3.trans (k9.mono k3.size))⟩
  rw [hL2] at qL2
  rcases hF : fewT ts with _ | _
  · rw [hF] at qF
    clear hL1 hL2 hF hfl hll hql
    go_enter Tryz.func4, Tryz.ntmps4
    go_upto_region 1 with (fail)
    try rw [hw1]
    try rw [hgc]
    try rw [hgq]
    try rw [hgr]
    clear hw1 hgc hgq hgr
    obtain ⟨d0, d1, d2, d3, d4, d5, d6, d7, d8, d9, d10, d11, d12, d13, d14⟩ := mk _ (Below.refl _ _)
    go_wp2_with fail
    refine (qL1 w1 (Below.refl _ _)).mono ?_
    rintro e w2 ⟨rfl, k2⟩
    clear d0 d1 d2 d3 d4 d5 d6 d7 d8 d9 d10 d11 d12 d13 d14
    obtain ⟨d0, d1, d2, d3, d4, d5, d6, d7, d8, d9, d10, d11, d12, d13, d14⟩ := mk _ k2
    go_wp2_with fail
    refine (qL2 w2 k2).mono ?_
    rintro e w3 ⟨rfl, k⟩
    have k3 := k2.trans (k.mono k2.size)
    clear k
    clear d0 d1 d2 d3 d4 d5 d6 d7 d8 d9 d10 d11 d12 d13 d14
    obtain ⟨d0, d1, d2, d3, d4, d5, d6, d7, d8, d9, d10, d11, d12, d13, d14⟩ := mk _ k3
    go_wp2_with fail
    refine (qF w3 k3).mono ?_
    rintro e w4 ⟨rfl, hw4⟩
    obtain rfl : w3 = w4 := hw4.symm
    clear hw4
    go_upto_region 2 with (fail)
    go_wp2_with fail
    refine (qA w3 k3).mono ?_
    rintro e w9 ⟨rfl, k9⟩
    go_wp2
    go_ret
    exact ⟨rfl, b_ _ (k3.trans (k9.mono k3.size))⟩
  rw [hF] at qF
  obtain ⟨hqs, hq100, -⟩ := lightS_ok hL1 (by omega)
  rw [hql] at hq100
  obtain ⟨hok, h100, -⟩ := lightS_ok hL2 (by omega)
  rw [hfl] at h100
  obtain ⟨hts2, ht100⟩ := fewT_ok hF
  rw [hll] at ht100
  have hts3 : ∀ t ∈ ts, t.length ≤ 1000000 := fun t ht => by have := hts2 t ht; omega
  have qP := fun (W : World) (b : Below w1.heap.size w1 W) => pick_any A0 A1 n0 c0 n1 c1 lv least cp bf tm qminor minor status m tg s_ Aq nq cq A n c _ fs ts qs W (h.below (b_ W b)) (h1.below (b_ W b)) (hq.below (b_ W b)) (b_ W b).size (by omega) (by omega) (by omega) hok hts3 hqs
  have qC := fun (W : World) (b : Below w1.heap.size w1 W) => coding_any minor status s_ A n c _ fs W (h.below (b_ W b)) (b_ W b).size (by omega) hok
  have qK := fun (W : World) (b : Below w1.heap.size w1 W) => refpkept_any minor status s_ A n c _ fs W (h.below (b_ W b)) (b_ W b).size (by omega) hok
  have qM := fun (W : World) => refempty_any m status W
  have qG := fun (W : World) (b : Below w1.heap.size w1 W) => refget_any Aq nq cq _ qs ⟨#[65, 99, 99, 101, 112, 116, 45, 69, 110, 99, 111, 100, 105, 110, 103]⟩ W (hq.below (b_ W b)) (b_ W b).size (by omega) hqs (by decide)
  have e1 : getL qs (⟨#[65, 99, 99, 101, 112, 116, 45, 69, 110, 99, 111, 100, 105, 110, 103]⟩ : ByteArray).data.toList = getL qs aeL := getL_congr (by decide) qs
  simp only [e1] at qG
  have hvs := getL_mem hqs aeL
  have hvl := getL_len qs aeL
  have hcf := codingL_le (allL fs codeL)
  obtain ⟨⟨⟨pp, pf, pt⟩, pb⟩, hp⟩ : ∃ p, p = pickL least ts m qs status fs := ⟨_, rfl⟩
  simp only [← hp, plV] at qP
  unfold pickL at hp
  obtain ⟨f, hf⟩ : ∃ x, x = codingL (allL fs codeL) := ⟨_, rfl⟩
  obtain ⟨vs, hvs'⟩ : ∃ x, x = getL qs aeL := ⟨_, rfl⟩
  obtain ⟨nv, hnv⟩ : ∃ x, x = vs.length := ⟨_, rfl⟩
  simp only [← hvs', ← hnv] at qG
  rw [← hvs'] at hvs hvl
  rw [← hnv] at hvl
  rw [← hf] at hcf
  simp only [← hf] at qC
  rw [← hf, ← hvs'] at hp
  obtain ⟨wt, hwt⟩ : ∃ f, f = wtL vs := ⟨_, rfl⟩
  rw [← hwt] at hp
  have hTn := fun h3 h => to_none (w := wt) (oth := othersL vs (allL fs codeL)) (el := eligL least ts m.data.toList status fs) (f := f) h3 hcf h
  have hTs := fun h3 h => to_some (w := wt) (oth := othersL vs (allL fs codeL)) (el := eligL least ts m.data.toList status fs) (f := f) h3 hcf h
  have hT3 : f = 3 → toL wt (othersL vs (allL fs codeL)) (eligL least ts m.data.toList status fs) f = (3, othersL vs (allL fs codeL)) := fun h3 => by rw [h3]; exact to_three _ _ _
  obtain ⟨oth, hoth⟩ : ∃ t, t = othersL vs (allL fs codeL) := ⟨_, rfl⟩
  rw [← hoth] at hT3
  obtain ⟨⟨tk, tb⟩, hto⟩ : ∃ t, t = toL wt oth (eligL least ts m.data.toList status fs) f := ⟨_, rfl⟩
  rw [← hoth, ← hto] at hp
  rw [← hoth] at hTn hTs
  rw [← hto] at hTn hTs hT3
  dsimp only at hTn hTs
  obtain ⟨K, hK⟩ : ∃ b, b = keptL status fs := ⟨_, rfl⟩
  obtain ⟨M, hM⟩ : ∃ b, b = emptyB m status := ⟨_, rfl⟩
  rw [← hK, ← hM] at hp
  simp only [← hK] at qK
  simp only [← hM] at qM
  have qQ := fun (W : World) (Aw : Option Addr) (cw : Nat) (r : Rd W W.heap.size 1 Aw nv (scells vs)) (s : ByteArray) => refq_any Aw nv cw W.heap.size vs s W r (Nat.le_refl _) (by omega) hvs
  have q0 := fun (W : World) (Aw : Option Addr) (cw : Nat) (r : Rd W W.heap.size 1 Aw nv (scells vs)) => qQ W Aw cw r ⟨#[105, 100, 101, 110, 116, 105, 116, 121]⟩
  have q1 := fun (W : World) (Aw : Option Addr) (cw : Nat) (r : Rd W W.heap.size 1 Aw nv (scells vs)) => qQ W Aw cw r ⟨#[103, 122, 105, 112]⟩
  have q2 := fun (W : World) (Aw : Option Addr) (cw : Nat) (r : Rd W W.heap.size 1 Aw nv (scells vs)) => qQ W Aw cw r ⟨#[100, 101, 102, 108, 97, 116, 101]⟩
  have e0 : qL vs (⟨#[105, 100, 101, 110, 116, 105, 116, 121]⟩ : ByteArray).data.toList = wt 0 := by rw [hwt]; rfl
  have e1' : qL vs (⟨#[103, 122, 105, 112]⟩ : ByteArray).data.toList = wt 1 := by rw [hwt]; rfl
  have e2' : qL vs (⟨#[100, 101, 102, 108, 97, 116, 101]⟩ : ByteArray).data.toList = wt 2 := by rw [hwt]; rfl
  simp only [e0] at q0
  simp only [e1'] at q1
  simp only [e2'] at q2
  have HP := hide hp
  have HTN := hide hTn
  have HTS := hide hTs
  have HT3 := hide hT3
  clear hp hTn hTs hT3 hK hM hto hoth hwt hf hvs' hnv hL1 hL2 hF hfl hll hql hts2 hts3 hqs hok hzq hz hts hvs hvl h h1 hq qQ e0 e1 e1' e2'
  have eff : ((f : Int) == (f : Int)) = true := beq_self_eq_true _
  go_enter Tryz.func4, Tryz.ntmps4
  go_upto_region 1 with (fail)
  try rw [hw1]
  try rw [hgc]
  try rw [hgq]
  try rw [hgr]
  clear hw1 hgc hgq hgr
  obtain ⟨d0, d1, d2, d3, d4, d5, d6, d7, d8, d9, d10, d11, d12, d13, d14⟩ := mk _ (Below.refl _ _)
  go_wp2_with fail
  refine (qL1 w1 (Below.refl _ _)).mono ?_
  rintro e w2 ⟨rfl, k2⟩
  clear d0 d1 d2 d3 d4 d5 d6 d7 d8 d9 d10 d11 d12 d13 d14
  obtain ⟨d0, d1, d2, d3, d4, d5, d6, d7, d8, d9, d10, d11, d12, d13, d14⟩ := mk _ k2
  go_wp2_with fail
  refine (qL2 w2 k2).mono ?_
  rintro e w3 ⟨rfl, k⟩
  have k3 := k2.trans (k.mono k2.size)
  clear k
  clear d0 d1 d2 d3 d4 d5 d6 d7 d8 d9 d10 d11 d12 d13 d14
  obtain ⟨d0, d1, d2, d3, d4, d5, d6, d7, d8, d9, d10, d11, d12, d13, d14⟩ := mk _ k3
  go_wp2_with fail
  refine (qF w3 k3).mono ?_
  rintro e w4 ⟨rfl, hw4⟩
  obtain rfl : w3 = w4 := hw4.symm
  clear hw4
  clear d0 d1 d2 d3 d4 d5 d6 d7 d8 d9 d10 d11 d12 d13 d14 qL1 qL2 qF
  obtain ⟨d0, d1, d2, d3, d4, d5, d6, d7, d8, d9, d10, d11, d12, d13, d14⟩ := mk _ k3
  go_wp2_with fail
  refine (qP w3 k3).mono ?_
  rintro e w5 ⟨rfl, k⟩
  have k5 := k3.trans (k.mono k3.size)
  clear k d0 d1 d2 d3 d4 d5 d6 d7 d8 d9 d10 d11 d12 d13 d14
  have bx := Box.new w5 #[.bool pp, .int .i64 (pf : Nat), .int .i64 (pt : Nat)] 35
  have ka := (Below.refl w5.heap.size w5).alloc (Nat.le_refl _) (.cells #[.bool pp, .int .i64 (pf : Nat), .int .i64 (pt : Nat)] 35)
  have k6 := k5.trans (ka.mono k5.size)
  obtain ⟨gx, hgx⟩ : ∃ g, w5.heap.size = g := ⟨_, rfl⟩
  rw [hgx] at bx
  go_upto_region 4 with (fail)
  try rw [hgx]
  clear hgx ka
  generalize w5.alloc _ = w6 at bx k6 ⊢
  go_wp2_with fail
  refine (qA w6 k6).mono ?_
  rintro e w7 ⟨rfl, k⟩
  have k7 := k6.trans (k.mono k6.size)
  replace bx := bx.below k
  clear k
  obtain ⟨d0, d1, d2, d3, d4, d5, d6, d7, d8, d9, d10, d11, d12, d13, d14⟩ := mk _ k7
  rcases K with _ | _
  rotate_left
  · have hp := HP.out
    have hp2 : ((pp, pf, pt), pb) = ((true, f, f), true) := hp
    simp only [Prod.mk.injEq] at hp2
    obtain ⟨⟨rfl, rfl, rfl⟩, rfl⟩ := hp2
    clear hp
    go_wp2_with fail
    refine (qK w7 k7).mono ?_
    rintro e w8 ⟨rfl, k⟩
    have k8 := k7.trans (k.mono k7.size)
    replace bx := bx.below k
    clear k
    have qC' := fun (V : World) (b : Below w8.heap.size w8 V) => qC V (k8.trans (b.mono k8.size))
    have mk7 : ∀ V, Below w8.heap.size w8 V → V.cell? ⟨gx, 0, none⟩ = some (.bool true) ∧ V.cell? ⟨gx, 1, none⟩ = some (.int .i64 (pt : Nat)) ∧ V.cell? ⟨gx, 2, none⟩ = some (.int .i64 (pt : Nat)) ∧ V.cell? ⟨gr, 0, none⟩ = some (.int .i64 minor) ∧ V.cell? ⟨gr, 1, none⟩ = some (.int .i64 status) ∧ V.cell? ⟨gr, 2, none⟩ = some (.string s_) ∧ V.cell? ⟨gr, 3, none⟩ = some (.slice A n c) := fun W b => by
      have b1 := bx.below b
      have b2 := (mk _ (k8.trans (b.mono k8.size))).2.2.2.2.2.2.2.2.2.2.2
      exact ⟨b1.three.1, b1.three.2.1, b1.three.2.2, b2.1, b2.2.1, b2.2.2.1, b2.2.2.2⟩
    have z1 : Below w8.heap.size w8 w8.drew := below_drew1
    go_upto_region 7 with (fail)
    clear d0 d1 d2 d3 d4 d5 d6 d7 d8 d9 d10 d11 d12 d13 d14
    refine CalmP.hideN (fun K0 hQ => ?_)
    refine wp_region_held_drew (S := (fun W : World => W.cell? ⟨gx, 0, none⟩ = some (.bool true) ∧ W.cell? ⟨gx, 1, none⟩ = some (.int .i64 (pt : Nat)) ∧ W.cell? ⟨gx, 2, none⟩ = some (.int .i64 (pt : Nat)) ∧ W.cell? ⟨gr, 0, none⟩ = some (.int .i64 minor) ∧ W.cell? ⟨gr, 1, none⟩ = some (.int .i64 status) ∧ W.cell? ⟨gr, 2, none⟩ = some (.string s_) ∧ W.cell? ⟨gr, 3, none⟩ = some (.slice A n c))) (by kernel_rfl) (mk7 _ z1) (fun hHeld => ?_)
    refine wpAnyH_take (i := 0) (v := ?_) rfl (by kernel_rfl) (by kernel_rfl) (by kernel_rfl) CalmP.onlyN_panic (Or.inl ⟨by kernel_rfl, ?_⟩) (by assumption) ?_
    rotate_left
    · (intro w_ hSw; (try dsimp only at hSw); go_simp; try with_reducible rfl)
    try simp only [List.getElem_toArray, List.getElem_cons_succ, List.getElem_cons_zero, Act.put, List.setIfInBounds_toArray, List.set_cons_zero, List.set_cons_succ]
    refine wpAnyH_take (i := 1) (v := ?_) rfl (by kernel_rfl) (by kernel_rfl) (by kernel_rfl) CalmP.onlyN_panic (Or.inl ⟨by kernel_rfl, ?_⟩) (by assumption) ?_
    rotate_left
    · (intro w_ hSw; (try dsimp only at hSw); go_simp; try with_reducible rfl)
    try simp only [List.getElem_toArray, List.getElem_cons_succ, List.getElem_cons_zero, Act.put, List.setIfInBounds_toArray, List.set_cons_zero, List.set_cons_succ]
    refine wpAnyH_take (i := 2) (v := ?_) rfl (by kernel_rfl) (by kernel_rfl) (by kernel_rfl) CalmP.onlyN_panic (Or.inl ⟨by kernel_rfl, ?_⟩) (by assumption) ?_
    rotate_left
    · (intro w_ hSw; (try dsimp only at hSw); go_simp; try with_reducible rfl)
    try simp only [List.getElem_toArray, List.getElem_cons_succ, List.getElem_cons_zero, Act.put, List.setIfInBounds_toArray, List.set_cons_zero, List.set_cons_succ]
    refine wpAnyH_take (i := 3) (v := ?_) rfl (by kernel_rfl) (by kernel_rfl) (by kernel_rfl) CalmP.onlyN_panic (Or.inl ⟨by kernel_rfl, ?_⟩) (by assumption) ?_
    rotate_left
    · (intro w_ hSw; (try dsimp only at hSw); go_simp; try with_reducible rfl)
    try simp only [List.getElem_toArray, List.getElem_cons_succ, List.getElem_cons_zero, Act.put, List.setIfInBounds_toArray, List.set_cons_zero, List.set_cons_succ]
    refine wpAnyH_take (i := 4) (v := ?_) rfl (by kernel_rfl) (by kernel_rfl) (by kernel_rfl) CalmP.onlyN_panic (Or.inl ⟨by kernel_rfl, ?_⟩) (by assumption) ?_
    rotate_left
    · (intro w_ hSw; (try dsimp only at hSw); go_simp; try with_reducible rfl)
    try simp only [List.getElem_toArray, List.getElem_cons_succ, List.getElem_cons_zero, Act.put, List.setIfInBounds_toArray, List.set_cons_zero, List.set_cons_succ]
    refine wpAnyH_take (i := 5) (v := ?_) rfl (by kernel_rfl) (by kernel_rfl) (by kernel_rfl) CalmP.onlyN_panic (Or.inl ⟨by kernel_rfl, ?_⟩) (by assumption) ?_
    rotate_left
    · (intro w_ hSw; (try dsimp only at hSw); go_simp; try with_reducible rfl)
    try simp only [List.getElem_toArray, List.getElem_cons_succ, List.getElem_cons_zero, Act.put, List.setIfInBounds_toArray, List.set_cons_zero, List.set_cons_succ]
    refine wpAnyH_take (i := 6) (v := ?_) rfl (by kernel_rfl) (by kernel_rfl) (by kernel_rfl) CalmP.onlyN_panic (Or.inl ⟨by kernel_rfl, ?_⟩) (by assumption) ?_
    rotate_left
    · (intro w_ hSw; (try dsimp only at hSw); go_simp; try with_reducible rfl)
    try simp only [List.getElem_toArray, List.getElem_cons_succ, List.getElem_cons_zero, Act.put, List.setIfInBounds_toArray, List.set_cons_zero, List.set_cons_succ]
    refine wpAnyH_take (i := 7) (v := ?_) rfl (by kernel_rfl) (by kernel_rfl) (by kernel_rfl) CalmP.onlyN_panic (Or.inl ⟨by kernel_rfl, ?_⟩) (by assumption) ?_
    rotate_left
    · (intro w_ hSw; (try dsimp only at hSw); go_simp; try with_reducible rfl)
    try simp only [List.getElem_toArray, List.getElem_cons_succ, List.getElem_cons_zero, Act.put, List.setIfInBounds_toArray, List.set_cons_zero, List.set_cons_succ]
    refine wpAnyH_take (i := 8) (v := ?_) rfl (by kernel_rfl) (by kernel_rfl) (by kernel_rfl) CalmP.onlyN_panic (Or.inl ⟨by kernel_rfl, ?_⟩) (by assumption) ?_
    rotate_left
    · (intro w_ hSw; (try dsimp only at hSw); go_simp; try with_reducible rfl)
    try simp only [List.getElem_toArray, List.getElem_cons_succ, List.getElem_cons_zero, Act.put, List.setIfInBounds_toArray, List.set_cons_zero, List.set_cons_succ]
    refine wpAnyH_take (i := 9) (v := ?_) rfl (by kernel_rfl) (by kernel_rfl) (by kernel_rfl) CalmP.onlyN_panic (Or.inl ⟨by kernel_rfl, ?_⟩) (by assumption) ?_
    rotate_left
    · (intro w_ hSw; (try dsimp only at hSw); go_simp; try with_reducible rfl)
    try simp only [List.getElem_toArray, List.getElem_cons_succ, List.getElem_cons_zero, Act.put, List.setIfInBounds_toArray, List.set_cons_zero, List.set_cons_succ]
    refine wpAnyH_take (i := 10) (v := ?_) rfl (by kernel_rfl) (by kernel_rfl) (by kernel_rfl) CalmP.onlyN_panic (Or.inl ⟨by kernel_rfl, ?_⟩) (by assumption) ?_
    rotate_left
    · (intro w_ hSw; (try dsimp only at hSw); go_simp; try with_reducible rfl)
    try simp only [List.getElem_toArray, List.getElem_cons_succ, List.getElem_cons_zero, Act.put, List.setIfInBounds_toArray, List.set_cons_zero, List.set_cons_succ]
    refine wpAnyH_take (i := 11) (v := ?_) rfl (by kernel_rfl) (by kernel_rfl) (by kernel_rfl) CalmP.onlyN_panic (Or.inl ⟨by kernel_rfl, ?_⟩) (by assumption) ?_
    rotate_left
    · (intro w_ hSw; (try dsimp only at hSw); go_simp; try with_reducible rfl)
    try simp only [List.getElem_toArray, List.getElem_cons_succ, List.getElem_cons_zero, Act.put, List.setIfInBounds_toArray, List.set_cons_zero, List.set_cons_succ]
    refine wpAnyH_take (i := 12) (v := ?_) rfl (by kernel_rfl) (by kernel_rfl) (by kernel_rfl) CalmP.onlyN_panic (Or.inl ⟨by kernel_rfl, ?_⟩) (by assumption) ?_
    rotate_left
    · (intro w_ hSw; (try dsimp only at hSw); go_simp; try with_reducible rfl)
    try simp only [List.getElem_toArray, List.getElem_cons_succ, List.getElem_cons_zero, Act.put, List.setIfInBounds_toArray, List.set_cons_zero, List.set_cons_succ]
    refine wpAnyH_take (i := 13) (v := ?_) rfl (by kernel_rfl) (by kernel_rfl) (by kernel_rfl) CalmP.onlyN_panic (Or.inl ⟨by kernel_rfl, ?_⟩) (by assumption) ?_
    rotate_left
    · (intro w_ hSw; (try dsimp only at hSw); go_simp; try with_reducible rfl)
    try simp only [List.getElem_toArray, List.getElem_cons_succ, List.getElem_cons_zero, Act.put, List.setIfInBounds_toArray, List.set_cons_zero, List.set_cons_succ]
    refine wpAnyH_take (i := 14) (v := ?_) rfl (by kernel_rfl) (by kernel_rfl) (by kernel_rfl) CalmP.onlyN_panic (Or.inl ⟨by kernel_rfl, ?_⟩) (by assumption) ?_
    rotate_left
    · (intro w_ hSw; (try dsimp only at hSw); go_simp; try with_reducible rfl)
    try simp only [List.getElem_toArray, List.getElem_cons_succ, List.getElem_cons_zero, Act.put, List.setIfInBounds_toArray, List.set_cons_zero, List.set_cons_succ]
    refine wpAnyH_take (i := 15) (v := ?_) rfl (by kernel_rfl) (by kernel_rfl) (by kernel_rfl) CalmP.onlyN_panic (Or.inl ⟨by kernel_rfl, ?_⟩) (by assumption) ?_
    rotate_left
    · (intro w_ hSw; (try dsimp only at hSw); go_simp; try with_reducible rfl)
    try simp only [List.getElem_toArray, List.getElem_cons_succ, List.getElem_cons_zero, Act.put, List.setIfInBounds_toArray, List.set_cons_zero, List.set_cons_succ]
    refine wpAnyH_ready (rs := [16]) (by kernel_rfl) (by simp) ?_
    refine AllReadyH.cons rfl (fun K_ hK => ?_) AllReadyH.nil
    go_simp
    refine (qC' (_) z1).mono ?_
    rintro e_ V1 ⟨rfl, k_⟩
    have y1 := z1.trans (k_.mono z1.size)
    clear k_
    refine hK.out _ _ (mk7 _ y1) (fun hHeld => ?_)
    clear hK K_
    try simp only [List.getElem_toArray, List.getElem_cons_succ, List.getElem_cons_zero, Act.put, List.setIfInBounds_toArray, List.set_cons_zero, List.set_cons_succ]
    refine wpAnyH_take (i := 17) (v := ?_) rfl (by kernel_rfl) (by kernel_rfl) (by kernel_rfl) CalmP.onlyN_panic (Or.inl ⟨by kernel_rfl, ?_⟩) (by assumption) ?_
    rotate_left
    · (intro w_ hSw; (try dsimp only at hSw); go_simp; try with_reducible rfl)
    try simp only [List.getElem_toArray, List.getElem_cons_succ, List.getElem_cons_zero, Act.put, List.setIfInBounds_toArray, List.set_cons_zero, List.set_cons_succ]
    refine wpAnyH_take (i := 18) (v := ?_) rfl (by kernel_rfl) (by kernel_rfl) (by kernel_rfl) CalmP.onlyN_panic (Or.inl ⟨by kernel_rfl, ?_⟩) (by assumption) ?_
    rotate_left
    · (intro w_ hSw; (try dsimp only at hSw); go_simp; try with_reducible rfl)
    try simp only [List.getElem_toArray, List.getElem_cons_succ, List.getElem_cons_zero, Act.put, List.setIfInBounds_toArray, List.set_cons_zero, List.set_cons_succ]
    refine wpAnyH_take (i := 19) (v := ?_) rfl (by kernel_rfl) (by kernel_rfl) (by kernel_rfl) CalmP.onlyN_panic (Or.inl ⟨by kernel_rfl, ?_⟩) (by assumption) ?_
    rotate_left
    · (intro w_ hSw; (try dsimp only at hSw); go_simp; try with_reducible rfl)
    try simp only [List.getElem_toArray, List.getElem_cons_succ, List.getElem_cons_zero, Act.put, List.setIfInBounds_toArray, List.set_cons_zero, List.set_cons_succ]
    refine wpAnyH_done (by kernel_rfl) ?_ _
    refine CalmP.onlyN_here (hQ.out _ _ ?_)
    clear hQ K0
    go_wp2
    go_ret
    exact ⟨rfl, b_ _ (k8.trans (y1.mono k8.size))⟩
  rcases M with _ | _
  rotate_left
  · have hp := HP.out
    have hp2 : ((pp, pf, pt), pb) = ((true, f, f), true) := hp
    simp only [Prod.mk.injEq] at hp2
    obtain ⟨⟨rfl, rfl, rfl⟩, rfl⟩ := hp2
    clear hp
    go_wp2_with fail
    refine (qK w7 k7).mono ?_
    rintro e w8 ⟨rfl, k⟩
    have k8 := k7.trans (k.mono k7.size)
    replace bx := bx.below k
    clear k d0 d1 d2 d3 d4 d5 d6 d7 d8 d9 d10 d11 d12 d13 d14
    obtain ⟨d0, d1, d2, d3, d4, d5, d6, d7, d8, d9, d10, d11, d12, d13, d14⟩ := mk _ k8
    go_wp2_with fail
    refine (qM w8).mono ?_
    rintro e w9 ⟨rfl, rfl⟩
    have qC' := fun (V : World) (b : Below w8.heap.size w8 V) => qC V (k8.trans (b.mono k8.size))
    have mk7 : ∀ V, Below w8.heap.size w8 V → V.cell? ⟨gx, 0, none⟩ = some (.bool true) ∧ V.cell? ⟨gx, 1, none⟩ = some (.int .i64 (pt : Nat)) ∧ V.cell? ⟨gx, 2, none⟩ = some (.int .i64 (pt : Nat)) ∧ V.cell? ⟨gr, 0, none⟩ = some (.int .i64 minor) ∧ V.cell? ⟨gr, 1, none⟩ = some (.int .i64 status) ∧ V.cell? ⟨gr, 2, none⟩ = some (.string s_) ∧ V.cell? ⟨gr, 3, none⟩ = some (.slice A n c) := fun W b => by
      have b1 := bx.below b
      have b2 := (mk _ (k8.trans (b.mono k8.size))).2.2.2.2.2.2.2.2.2.2.2
      exact ⟨b1.three.1, b1.three.2.1, b1.three.2.2, b2.1, b2.2.1, b2.2.2.1, b2.2.2.2⟩
    have z1 : Below w8.heap.size w8 w8.drew := below_drew1
    go_upto_region 7 with (fail)
    clear d0 d1 d2 d3 d4 d5 d6 d7 d8 d9 d10 d11 d12 d13 d14
    refine CalmP.hideN (fun K0 hQ => ?_)
    refine wp_region_held_drew (S := (fun W : World => W.cell? ⟨gx, 0, none⟩ = some (.bool true) ∧ W.cell? ⟨gx, 1, none⟩ = some (.int .i64 (pt : Nat)) ∧ W.cell? ⟨gx, 2, none⟩ = some (.int .i64 (pt : Nat)) ∧ W.cell? ⟨gr, 0, none⟩ = some (.int .i64 minor) ∧ W.cell? ⟨gr, 1, none⟩ = some (.int .i64 status) ∧ W.cell? ⟨gr, 2, none⟩ = some (.string s_) ∧ W.cell? ⟨gr, 3, none⟩ = some (.slice A n c))) (by kernel_rfl) (mk7 _ z1) (fun hHeld => ?_)
    refine wpAnyH_take (i := 0) (v := ?_) rfl (by kernel_rfl) (by kernel_rfl) (by kernel_rfl) CalmP.onlyN_panic (Or.inl ⟨by kernel_rfl, ?_⟩) (by assumption) ?_
    rotate_left
    · (intro w_ hSw; (try dsimp only at hSw); go_simp; try with_reducible rfl)
    try simp only [List.getElem_toArray, List.getElem_cons_succ, List.getElem_cons_zero, Act.put, List.setIfInBounds_toArray, List.set_cons_zero, List.set_cons_succ]
    refine wpAnyH_take (i := 1) (v := ?_) rfl (by kernel_rfl) (by kernel_rfl) (by kernel_rfl) CalmP.onlyN_panic (Or.inl ⟨by kernel_rfl, ?_⟩) (by assumption) ?_
    rotate_left
    · (intro w_ hSw; (try dsimp only at hSw); go_simp; try with_reducible rfl)
    try simp only [List.getElem_toArray, List.getElem_cons_succ, List.getElem_cons_zero, Act.put, List.setIfInBounds_toArray, List.set_cons_zero, List.set_cons_succ]
    refine wpAnyH_take (i := 2) (v := ?_) rfl (by kernel_rfl) (by kernel_rfl) (by kernel_rfl) CalmP.onlyN_panic (Or.inl ⟨by kernel_rfl, ?_⟩) (by assumption) ?_
    rotate_left
    · (intro w_ hSw; (try dsimp only at hSw); go_simp; try with_reducible rfl)
    try simp only [List.getElem_toArray, List.getElem_cons_succ, List.getElem_cons_zero, Act.put, List.setIfInBounds_toArray, List.set_cons_zero, List.set_cons_succ]
    refine wpAnyH_take (i := 3) (v := ?_) rfl (by kernel_rfl) (by kernel_rfl) (by kernel_rfl) CalmP.onlyN_panic (Or.inl ⟨by kernel_rfl, ?_⟩) (by assumption) ?_
    rotate_left
    · (intro w_ hSw; (try dsimp only at hSw); go_simp; try with_reducible rfl)
    try simp only [List.getElem_toArray, List.getElem_cons_succ, List.getElem_cons_zero, Act.put, List.setIfInBounds_toArray, List.set_cons_zero, List.set_cons_succ]
    refine wpAnyH_take (i := 4) (v := ?_) rfl (by kernel_rfl) (by kernel_rfl) (by kernel_rfl) CalmP.onlyN_panic (Or.inl ⟨by kernel_rfl, ?_⟩) (by assumption) ?_
    rotate_left
    · (intro w_ hSw; (try dsimp only at hSw); go_simp; try with_reducible rfl)
    try simp only [List.getElem_toArray, List.getElem_cons_succ, List.getElem_cons_zero, Act.put, List.setIfInBounds_toArray, List.set_cons_zero, List.set_cons_succ]
    refine wpAnyH_take (i := 5) (v := ?_) rfl (by kernel_rfl) (by kernel_rfl) (by kernel_rfl) CalmP.onlyN_panic (Or.inl ⟨by kernel_rfl, ?_⟩) (by assumption) ?_
    rotate_left
    · (intro w_ hSw; (try dsimp only at hSw); go_simp; try with_reducible rfl)
    try simp only [List.getElem_toArray, List.getElem_cons_succ, List.getElem_cons_zero, Act.put, List.setIfInBounds_toArray, List.set_cons_zero, List.set_cons_succ]
    refine wpAnyH_take (i := 6) (v := ?_) rfl (by kernel_rfl) (by kernel_rfl) (by kernel_rfl) CalmP.onlyN_panic (Or.inl ⟨by kernel_rfl, ?_⟩) (by assumption) ?_
    rotate_left
    · (intro w_ hSw; (try dsimp only at hSw); go_simp; try with_reducible rfl)
    try simp only [List.getElem_toArray, List.getElem_cons_succ, List.getElem_cons_zero, Act.put, List.setIfInBounds_toArray, List.set_cons_zero, List.set_cons_succ]
    refine wpAnyH_take (i := 7) (v := ?_) rfl (by kernel_rfl) (by kernel_rfl) (by kernel_rfl) CalmP.onlyN_panic (Or.inl ⟨by kernel_rfl, ?_⟩) (by assumption) ?_
    rotate_left
    · (intro w_ hSw; (try dsimp only at hSw); go_simp; try with_reducible rfl)
    try simp only [List.getElem_toArray, List.getElem_cons_succ, List.getElem_cons_zero, Act.put, List.setIfInBounds_toArray, List.set_cons_zero, List.set_cons_succ]
    refine wpAnyH_take (i := 8) (v := ?_) rfl (by kernel_rfl) (by kernel_rfl) (by kernel_rfl) CalmP.onlyN_panic (Or.inl ⟨by kernel_rfl, ?_⟩) (by assumption) ?_
    rotate_left
    · (intro w_ hSw; (try dsimp only at hSw); go_simp; try with_reducible rfl)
    try simp only [List.getElem_toArray, List.getElem_cons_succ, List.getElem_cons_zero, Act.put, List.setIfInBounds_toArray, List.set_cons_zero, List.set_cons_succ]
    refine wpAnyH_take (i := 9) (v := ?_) rfl (by kernel_rfl) (by kernel_rfl) (by kernel_rfl) CalmP.onlyN_panic (Or.inl ⟨by kernel_rfl, ?_⟩) (by assumption) ?_
    rotate_left
    · (intro w_ hSw; (try dsimp only at hSw); go_simp; try with_reducible rfl)
    try simp only [List.getElem_toArray, List.getElem_cons_succ, List.getElem_cons_zero, Act.put, List.setIfInBounds_toArray, List.set_cons_zero, List.set_cons_succ]
    refine wpAnyH_take (i := 10) (v := ?_) rfl (by kernel_rfl) (by kernel_rfl) (by kernel_rfl) CalmP.onlyN_panic (Or.inl ⟨by kernel_rfl, ?_⟩) (by assumption) ?_
    rotate_left
    · (intro w_ hSw; (try dsimp only at hSw); go_simp; try with_reducible rfl)
    try simp only [List.getElem_toArray, List.getElem_cons_succ, List.getElem_cons_zero, Act.put, List.setIfInBounds_toArray, List.set_cons_zero, List.set_cons_succ]
    refine wpAnyH_take (i := 11) (v := ?_) rfl (by kernel_rfl) (by kernel_rfl) (by kernel_rfl) CalmP.onlyN_panic (Or.inl ⟨by kernel_rfl, ?_⟩) (by assumption) ?_
    rotate_left
    · (intro w_ hSw; (try dsimp only at hSw); go_simp; try with_reducible rfl)
    try simp only [List.getElem_toArray, List.getElem_cons_succ, List.getElem_cons_zero, Act.put, List.setIfInBounds_toArray, List.set_cons_zero, List.set_cons_succ]
    refine wpAnyH_take (i := 12) (v := ?_) rfl (by kernel_rfl) (by kernel_rfl) (by kernel_rfl) CalmP.onlyN_panic (Or.inl ⟨by kernel_rfl, ?_⟩) (by assumption) ?_
    rotate_left
    · (intro w_ hSw; (try dsimp only at hSw); go_simp; try with_reducible rfl)
    try simp only [List.getElem_toArray, List.getElem_cons_succ, List.getElem_cons_zero, Act.put, List.setIfInBounds_toArray, List.set_cons_zero, List.set_cons_succ]
    refine wpAnyH_take (i := 13) (v := ?_) rfl (by kernel_rfl) (by kernel_rfl) (by kernel_rfl) CalmP.onlyN_panic (Or.inl ⟨by kernel_rfl, ?_⟩) (by assumption) ?_
    rotate_left
    · (intro w_ hSw; (try dsimp only at hSw); go_simp; try with_reducible rfl)
    try simp only [List.getElem_toArray, List.getElem_cons_succ, List.getElem_cons_zero, Act.put, List.setIfInBounds_toArray, List.set_cons_zero, List.set_cons_succ]
    refine wpAnyH_take (i := 14) (v := ?_) rfl (by kernel_rfl) (by kernel_rfl) (by kernel_rfl) CalmP.onlyN_panic (Or.inl ⟨by kernel_rfl, ?_⟩) (by assumption) ?_
    rotate_left
    · (intro w_ hSw; (try dsimp only at hSw); go_simp; try with_reducible rfl)
    try simp only [List.getElem_toArray, List.getElem_cons_succ, List.getElem_cons_zero, Act.put, List.setIfInBounds_toArray, List.set_cons_zero, List.set_cons_succ]
    refine wpAnyH_take (i := 15) (v := ?_) rfl (by kernel_rfl) (by kernel_rfl) (by kernel_rfl) CalmP.onlyN_panic (Or.inl ⟨by kernel_rfl, ?_⟩) (by assumption) ?_
    rotate_left
    · (intro w_ hSw; (try dsimp only at hSw); go_simp; try with_reducible rfl)
    try simp only [List.getElem_toArray, List.getElem_cons_succ, List.getElem_cons_zero, Act.put, List.setIfInBounds_toArray, List.set_cons_zero, List.set_cons_succ]
    refine wpAnyH_ready (rs := [16]) (by kernel_rfl) (by simp) ?_
    refine AllReadyH.cons rfl (fun K_ hK => ?_) AllReadyH.nil
    go_simp
    refine (qC' (_) z1).mono ?_
    rintro e_ V1 ⟨rfl, k_⟩
    have y1 := z1.trans (k_.mono z1.size)
    clear k_
    refine hK.out _ _ (mk7 _ y1) (fun hHeld => ?_)
    clear hK K_
    try simp only [List.getElem_toArray, List.getElem_cons_succ, List.getElem_cons_zero, Act.put, List.setIfInBounds_toArray, List.set_cons_zero, List.set_cons_succ]
    refine wpAnyH_take (i := 17) (v := ?_) rfl (by kernel_rfl) (by kernel_rfl) (by kernel_rfl) CalmP.onlyN_panic (Or.inl ⟨by kernel_rfl, ?_⟩) (by assumption) ?_
    rotate_left
    · (intro w_ hSw; (try dsimp only at hSw); go_simp; try with_reducible rfl)
    try simp only [List.getElem_toArray, List.getElem_cons_succ, List.getElem_cons_zero, Act.put, List.setIfInBounds_toArray, List.set_cons_zero, List.set_cons_succ]
    refine wpAnyH_take (i := 18) (v := ?_) rfl (by kernel_rfl) (by kernel_rfl) (by kernel_rfl) CalmP.onlyN_panic (Or.inl ⟨by kernel_rfl, ?_⟩) (by assumption) ?_
    rotate_left
    · (intro w_ hSw; (try dsimp only at hSw); go_simp; try with_reducible rfl)
    try simp only [List.getElem_toArray, List.getElem_cons_succ, List.getElem_cons_zero, Act.put, List.setIfInBounds_toArray, List.set_cons_zero, List.set_cons_succ]
    refine wpAnyH_take (i := 19) (v := ?_) rfl (by kernel_rfl) (by kernel_rfl) (by kernel_rfl) CalmP.onlyN_panic (Or.inl ⟨by kernel_rfl, ?_⟩) (by assumption) ?_
    rotate_left
    · (intro w_ hSw; (try dsimp only at hSw); go_simp; try with_reducible rfl)
    try simp only [List.getElem_toArray, List.getElem_cons_succ, List.getElem_cons_zero, Act.put, List.setIfInBounds_toArray, List.set_cons_zero, List.set_cons_succ]
    refine wpAnyH_done (by kernel_rfl) ?_ _
    refine CalmP.onlyN_here (hQ.out _ _ ?_)
    clear hQ K0
    go_wp2
    go_ret
    exact ⟨rfl, b_ _ (k8.trans (y1.mono k8.size))⟩
  go_wp2_with fail
  refine (qK w7 k7).mono ?_
  rintro e w8 ⟨rfl, k⟩
  have k8 := k7.trans (k.mono k7.size)
  replace bx := bx.below k
  clear k d0 d1 d2 d3 d4 d5 d6 d7 d8 d9 d10 d11 d12 d13 d14
  obtain ⟨d0, d1, d2, d3, d4, d5, d6, d7, d8, d9, d10, d11, d12, d13, d14⟩ := mk _ k8
  go_wp2_with fail
  refine (qM w8).mono ?_
  rintro e w9 ⟨rfl, rfl⟩
  go_wp2_with fail
  refine (qG w8 k8).mono ?_
  rintro e w4 ⟨Aw, cw, rfl, ow, -, k⟩
  have r4 := Rd.of_own ow
  have k4 := k8.trans (k.mono k8.size)
  replace bx := bx.below k
  clear k ow d0 d1 d2 d3 d4 d5 d6 d7 d8 d9 d10 d11 d12 d13 d14
  go_wp2_with fail
  refine (q0 w4 Aw cw r4).mono ?_
  rintro e w5' ⟨rfl, k⟩
  have r5 := step_ r4 k
  have k5' := k4.trans (k.mono k4.size)
  replace bx := bx.below k
  clear k r4
  go_wp2_with fail
  refine (q1 w5' Aw cw r5).mono ?_
  rintro e w6' ⟨rfl, k⟩
  have r6 := step_ r5 k
  have k6' := k5'.trans (k.mono k5'.size)
  replace bx := bx.below k
  clear k r5
  go_wp2_with fail
  refine (q2 w6' Aw cw r6).mono ?_
  rintro e w7' ⟨rfl, k⟩
  have k7' := k6'.trans (k.mono k6'.size)
  replace bx := bx.below k
  clear k r6
  obtain ⟨x0, hx0⟩ : ∃ x, wt 0 = x := ⟨_, rfl⟩
  obtain ⟨x1, hx1⟩ : ∃ x, wt 1 = x := ⟨_, rfl⟩
  obtain ⟨x2, hx2⟩ : ∃ x, wt 2 = x := ⟨_, rfl⟩
  try rw [hx0]
  try rw [hx1]
  try rw [hx2]
  have bw := Box.new w7' #[.int .i64 (x0 : Nat), .int .i64 (x1 : Nat), .int .i64 (x2 : Nat)] 3
  have ka := (Below.refl w7'.heap.size w7').alloc (Nat.le_refl _) (.cells #[.int .i64 (x0 : Nat), .int .i64 (x1 : Nat), .int .i64 (x2 : Nat)] 3)
  have k9 := k7'.trans (ka.mono k7'.size)
  replace bx := bx.below ka
  obtain ⟨gw, hgw⟩ : ∃ g, w7'.heap.size = g := ⟨_, rfl⟩
  rw [hgw] at bw
  go_upto_region 10 with (fail)
  try rw [hgw]
  clear hgw ka
  generalize w7'.alloc _ = wb at bx bw k9 ⊢
  have HX0 := hide hx0
  have HX1 := hide hx1
  have HX2 := hide hx2
  clear hx0 hx1 hx2
  obtain ⟨d0, d1, d2, d3, d4, d5, d6, d7, d8, d9, d10, d11, d12, d13, d14⟩ := mk _ k9
  go_wp2_with fail
  refine (qC wb k9).mono ?_
  rintro e wc ⟨rfl, k⟩
  have kc := k9.trans (k.mono k9.size)
  replace bx := bx.below k
  replace bw := bw.below k
  clear k d0 d1 d2 d3 d4 d5 d6 d7 d8 d9 d10 d11 d12 d13 d14
  have hp : ((pp, pf, pt), pb) = planL false f (tk, tb) := HP.out
  have HP2 := hide hp
  clear hp HP
  by_cases h3 : f = 3
  · subst h3
    have ht := HT3.out rfl
    have hp := HP2.out
    rcases tb with _ | _
    · have hp2 : ((pp, pf, pt), pb) = ((false, 0, 0), false) := hp
      simp only [Prod.mk.injEq] at hp2
      obtain ⟨⟨rfl, rfl, rfl⟩, rfl⟩ := hp2
      clear hp ht
      go_wp2
      go_ret
      exact ⟨rfl, b_ _ kc⟩
    · have htk : tk = 3 := (Prod.mk.inj ht).1
      subst htk
      have hp2 : ((pp, pf, pt), pb) = ((true, 3, 3), true) := hp
      simp only [Prod.mk.injEq] at hp2
      obtain ⟨⟨rfl, rfl, rfl⟩, rfl⟩ := hp2
      clear hp ht
      obtain ⟨y0, y1, y2⟩ := bx.three
      go_wp2
      go_ret
      exact ⟨rfl, b_ _ kc⟩
  · have e3 : ((f : Int) == 3) = false := by rw [beq_eq_false_iff_ne]; omega
    have hp := HP2.out
    rcases tb with _ | _
    · have hp2 : ((pp, pf, pt), pb) = ((false, 0, 0), false) := hp
      simp only [Prod.mk.injEq] at hp2
      obtain ⟨⟨rfl, rfl, rfl⟩, rfl⟩ := hp2
      obtain ⟨hn0, hn1', hn2⟩ := HTN.out h3 rfl
      obtain rfl : x0 = 0 := by rw [← HX0.out]; exact hn0
      obtain rfl : x1 = 0 := by rw [← HX1.out]; exact hn1'
      obtain rfl : x2 = 0 := by rw [← HX2.out]; exact hn2
      clear hp hn0 hn1' hn2 h3
      obtain ⟨y0, y1, y2⟩ := bw.three
      go_wp2
      go_ret
      exact ⟨rfl, b_ _ kc⟩
    · have hp2 : ((pp, pf, pt), pb) = ((decide (f = tk), f, tk), true) := hp
      simp only [Prod.mk.injEq] at hp2
      obtain ⟨⟨rfl, rfl, rfl⟩, rfl⟩ := hp2
      obtain ⟨hs0, hs2⟩ := HTS.out h3 rfl
      obtain ⟨wv, hwv⟩ : ∃ v, wt pt = v := ⟨_, rfl⟩
      have hcw : ∀ W, Below wc.heap.size wc W → W.cell? ⟨gw, pt, none⟩ = some (.int .i64 (wv : Nat)) := fun W b => by
        have b1 := bw.below b
        have hc : pt = 0 ∨ pt = 1 ∨ pt = 2 := by omega
        rcases hc with rfl | rfl | rfl
        · rw [← hwv, HX0.out]; exact b1.three.1
        · rw [← hwv, HX1.out]; exact b1.three.2.1
        · rw [← hwv, HX2.out]; exact b1.three.2.2
      rw [hwv] at hs0
      obtain ⟨pd, hpd⟩ : ∃ d, decide (pf = pt) = d := ⟨_, rfl⟩
      have hdk : ((pf : Int) == (pt : Int)) = pd := by rw [← hpd, Bool.eq_iff_iff, decide_eq_true_iff, beq_iff_eq]; omega
      rw [hpd] at bx
      have hdd : (pd == pd) = true := beq_self_eq_true _
      have i1 : (0 : Int) ≤ (pt : Int) := by omega
      have i2 : (pt : Int) < 3 := by omega
      have i3 : decide ((0 : Int) < (wv : Int)) = true := decide_eq_true (by omega)
      have qC' := fun (V : World) (b : Below wc.heap.size wc V) => qC V (kc.trans (b.mono kc.size))
      have mk14 : ∀ W, Below wc.heap.size wc W → W.cell? ⟨gx, 0, none⟩ = some (.bool pd) ∧ W.cell? ⟨gx, 1, none⟩ = some (.int .i64 (pf : Nat)) ∧ W.cell? ⟨gx, 2, none⟩ = some (.int .i64 (pt : Nat)) ∧ W.cell? ⟨gr, 0, none⟩ = some (.int .i64 minor) ∧ W.cell? ⟨gr, 1, none⟩ = some (.int .i64 status) ∧ W.cell? ⟨gr, 2, none⟩ = some (.string s_) ∧ W.cell? ⟨gr, 3, none⟩ = some (.slice A n c) ∧ W.cell? ⟨gw, pt, none⟩ = some (.int .i64 (wv : Nat)) := fun W b => by
        have b1 := bx.below b
        have b2 := (mk _ (kc.trans (b.mono kc.size))).2.2.2.2.2.2.2.2.2.2.2
        exact ⟨b1.three.1, b1.three.2.1, b1.three.2.2, b2.1, b2.2.1, b2.2.2.1, b2.2.2.2, hcw W b⟩
      have z1 : Below wc.heap.size wc wc.drew := below_drew1
      try rw [hpd]
      clear hp hpd hwv HX0 HX1 HX2 h3 bw
      go_upto_region 14 with (fail)
      refine CalmP.hideN (fun K0 hQ => ?_)
      refine wp_region_held_drew (S := (fun W : World => W.cell? ⟨gx, 0, none⟩ = some (.bool pd) ∧ W.cell? ⟨gx, 1, none⟩ = some (.int .i64 (pf : Nat)) ∧ W.cell? ⟨gx, 2, none⟩ = some (.int .i64 (pt : Nat)) ∧ W.cell? ⟨gr, 0, none⟩ = some (.int .i64 minor) ∧ W.cell? ⟨gr, 1, none⟩ = some (.int .i64 status) ∧ W.cell? ⟨gr, 2, none⟩ = some (.string s_) ∧ W.cell? ⟨gr, 3, none⟩ = some (.slice A n c) ∧ W.cell? ⟨gw, pt, none⟩ = some (.int .i64 (wv : Nat)))) (by kernel_rfl) (mk14 _ z1) (fun hHeld => ?_)
      refine wpAnyH_take (i := 0) (v := ?_) rfl (by kernel_rfl) (by kernel_rfl) (by kernel_rfl) CalmP.onlyN_panic (Or.inl ⟨by kernel_rfl, ?_⟩) (by assumption) ?_
      rotate_left
      · (intro w_ hSw; (try dsimp only at hSw); go_simp; try with_reducible rfl)
      try simp only [List.getElem_toArray, List.getElem_cons_succ, List.getElem_cons_zero, Act.put, List.setIfInBounds_toArray, List.set_cons_zero, List.set_cons_succ]
      refine wpAnyH_take (i := 1) (v := ?_) rfl (by kernel_rfl) (by kernel_rfl) (by kernel_rfl) CalmP.onlyN_panic (Or.inl ⟨by kernel_rfl, ?_⟩) (by assumption) ?_
      rotate_left
      · (intro w_ hSw; (try dsimp only at hSw); go_simp; try with_reducible rfl)
      try simp only [List.getElem_toArray, List.getElem_cons_succ, List.getElem_cons_zero, Act.put, List.setIfInBounds_toArray, List.set_cons_zero, List.set_cons_succ]
      refine wpAnyH_take (i := 2) (v := ?_) rfl (by kernel_rfl) (by kernel_rfl) (by kernel_rfl) CalmP.onlyN_panic (Or.inl ⟨by kernel_rfl, ?_⟩) (by assumption) ?_
      rotate_left
      · (intro w_ hSw; (try dsimp only at hSw); go_simp; try with_reducible rfl)
      try simp only [List.getElem_toArray, List.getElem_cons_succ, List.getElem_cons_zero, Act.put, List.setIfInBounds_toArray, List.set_cons_zero, List.set_cons_succ]
      refine wpAnyH_ready (rs := [3]) (by kernel_rfl) (by simp) ?_
      refine AllReadyH.cons rfl (fun K_ hK => ?_) AllReadyH.nil
      go_simp
      refine (qC' (_) z1).mono ?_
      rintro e_ V1 ⟨rfl, k_⟩
      have y1 := z1.trans (k_.mono z1.size)
      clear k_
      refine hK.out _ _ (mk14 _ y1) (fun hHeld => ?_)
      clear hK K_
      try simp only [List.getElem_toArray, List.getElem_cons_succ, List.getElem_cons_zero, Act.put, List.setIfInBounds_toArray, List.set_cons_zero, List.set_cons_succ]
      refine wpAnyH_take (i := 4) (v := ?_) rfl (by kernel_rfl) (by kernel_rfl) (by kernel_rfl) CalmP.onlyN_panic (Or.inl ⟨by kernel_rfl, ?_⟩) (by assumption) ?_
      rotate_left
      · (intro w_ hSw; (try dsimp only at hSw); go_simp; try with_reducible rfl)
      try simp only [List.getElem_toArray, List.getElem_cons_succ, List.getElem_cons_zero, Act.put, List.setIfInBounds_toArray, List.set_cons_zero, List.set_cons_succ]
      refine wpAnyH_take (i := 5) (v := ?_) rfl (by kernel_rfl) (by kernel_rfl) (by kernel_rfl) CalmP.onlyN_panic (Or.inl ⟨by kernel_rfl, ?_⟩) (by assumption) ?_
      rotate_left
      · (intro w_ hSw; (try dsimp only at hSw); go_simp; try with_reducible rfl)
      try simp only [List.getElem_toArray, List.getElem_cons_succ, List.getElem_cons_zero, Act.put, List.setIfInBounds_toArray, List.set_cons_zero, List.set_cons_succ]
      refine wpAnyH_take (i := 6) (v := ?_) rfl (by kernel_rfl) (by kernel_rfl) (by kernel_rfl) CalmP.onlyN_panic (Or.inl ⟨by kernel_rfl, ?_⟩) (by assumption) ?_
      rotate_left
      · (intro w_ hSw; (try dsimp only at hSw); go_simp; try with_reducible rfl)
      try simp only [List.getElem_toArray, List.getElem_cons_succ, List.getElem_cons_zero, Act.put, List.setIfInBounds_toArray, List.set_cons_zero, List.set_cons_succ]
      refine wpAnyH_take (i := 7) (v := ?_) rfl (by kernel_rfl) (by kernel_rfl) (by kernel_rfl) CalmP.onlyN_panic (Or.inl ⟨by kernel_rfl, ?_⟩) (by assumption) ?_
      rotate_left
      · (intro w_ hSw; (try dsimp only at hSw); go_simp; try with_reducible rfl)
      try simp only [List.getElem_toArray, List.getElem_cons_succ, List.getElem_cons_zero, Act.put, List.setIfInBounds_toArray, List.set_cons_zero, List.set_cons_succ]
      refine wpAnyH_take (i := 8) (v := ?_) rfl (by kernel_rfl) (by kernel_rfl) (by kernel_rfl) CalmP.onlyN_panic (Or.inl ⟨by kernel_rfl, ?_⟩) (by assumption) ?_
      rotate_left
      · (intro w_ hSw; (try dsimp only at hSw); go_simp; try with_reducible rfl)
      try simp only [List.getElem_toArray, List.getElem_cons_succ, List.getElem_cons_zero, Act.put, List.setIfInBounds_toArray, List.set_cons_zero, List.set_cons_succ]
      refine wpAnyH_take (i := 9) (v := ?_) rfl (by kernel_rfl) (by kernel_rfl) (by kernel_rfl) CalmP.onlyN_panic (Or.inl ⟨by kernel_rfl, ?_⟩) (by assumption) ?_
      rotate_left
      · (intro w_ hSw; (try dsimp only at hSw); go_simp; try with_reducible rfl)
      try simp only [List.getElem_toArray, List.getElem_cons_succ, List.getElem_cons_zero, Act.put, List.setIfInBounds_toArray, List.set_cons_zero, List.set_cons_succ]
      refine wpAnyH_take (i := 10) (v := ?_) rfl (by kernel_rfl) (by kernel_rfl) (by kernel_rfl) CalmP.onlyN_panic (Or.inl ⟨by kernel_rfl, ?_⟩) (by assumption) ?_
      rotate_left
      · (intro w_ hSw; (try dsimp only at hSw); go_simp; try with_reducible rfl)
      try simp only [List.getElem_toArray, List.getElem_cons_succ, List.getElem_cons_zero, Act.put, List.setIfInBounds_toArray, List.set_cons_zero, List.set_cons_succ]
      refine wpAnyH_take (i := 11) (v := ?_) rfl (by kernel_rfl) (by kernel_rfl) (by kernel_rfl) CalmP.onlyN_panic (Or.inl ⟨by kernel_rfl, ?_⟩) (by assumption) ?_
      rotate_left
      · (intro w_ hSw; (try dsimp only at hSw); go_simp; try with_reducible rfl)
      try simp only [List.getElem_toArray, List.getElem_cons_succ, List.getElem_cons_zero, Act.put, List.setIfInBounds_toArray, List.set_cons_zero, List.set_cons_succ]
      refine wpAnyH_take (i := 12) (v := ?_) rfl (by kernel_rfl) (by kernel_rfl) (by kernel_rfl) CalmP.onlyN_panic (Or.inl ⟨by kernel_rfl, ?_⟩) (by assumption) ?_
      rotate_left
      · (intro w_ hSw; (try dsimp only at hSw); go_simp; try with_reducible rfl)
      try simp only [List.getElem_toArray, List.getElem_cons_succ, List.getElem_cons_zero, Act.put, List.setIfInBounds_toArray, List.set_cons_zero, List.set_cons_succ]
      refine wpAnyH_take (i := 13) (v := ?_) rfl (by kernel_rfl) (by kernel_rfl) (by kernel_rfl) CalmP.onlyN_panic (Or.inl ⟨by kernel_rfl, ?_⟩) (by assumption) ?_
      rotate_left
      · (intro w_ hSw; (try dsimp only at hSw); go_simp; try with_reducible rfl)
      try simp only [List.getElem_toArray, List.getElem_cons_succ, List.getElem_cons_zero, Act.put, List.setIfInBounds_toArray, List.set_cons_zero, List.set_cons_succ]
      refine wpAnyH_take (i := 14) (v := ?_) rfl (by kernel_rfl) (by kernel_rfl) (by kernel_rfl) CalmP.onlyN_panic (Or.inl ⟨by kernel_rfl, ?_⟩) (by assumption) ?_
      rotate_left
      · (intro w_ hSw; (try dsimp only at hSw); go_simp; try with_reducible rfl)
      try simp only [List.getElem_toArray, List.getElem_cons_succ, List.getElem_cons_zero, Act.put, List.setIfInBounds_toArray, List.set_cons_zero, List.set_cons_succ]
      refine wpAnyH_take (i := 15) (v := ?_) rfl (by kernel_rfl) (by kernel_rfl) (by kernel_rfl) CalmP.onlyN_panic (Or.inl ⟨by kernel_rfl, ?_⟩) (by assumption) ?_
      rotate_left
      · (intro w_ hSw; (try dsimp only at hSw); go_simp; try with_reducible rfl)
      try simp only [List.getElem_toArray, List.getElem_cons_succ, List.getElem_cons_zero, Act.put, List.setIfInBounds_toArray, List.set_cons_zero, List.set_cons_succ]
      refine wpAnyH_take (i := 16) (v := ?_) rfl (by kernel_rfl) (by kernel_rfl) (by kernel_rfl) CalmP.onlyN_panic (Or.inl ⟨by kernel_rfl, ?_⟩) (by assumption) ?_
      rotate_left
      · (intro w_ hSw; (try dsimp only at hSw); go_simp; try with_reducible rfl)
      try simp only [List.getElem_toArray, List.getElem_cons_succ, List.getElem_cons_zero, Act.put, List.setIfInBounds_toArray, List.set_cons_zero, List.set_cons_succ]
      refine wpAnyH_take (i := 17) (v := ?_) rfl (by kernel_rfl) (by kernel_rfl) (by kernel_rfl) CalmP.onlyN_panic (Or.inl ⟨by kernel_rfl, ?_⟩) (by assumption) ?_
      rotate_left
      · (intro w_ hSw; (try dsimp only at hSw); go_simp; try with_reducible rfl)
      try simp only [List.getElem_toArray, List.getElem_cons_succ, List.getElem_cons_zero, Act.put, List.setIfInBounds_toArray, List.set_cons_zero, List.set_cons_succ]
      refine wpAnyH_take (i := 18) (v := ?_) rfl (by kernel_rfl) (by kernel_rfl) (by kernel_rfl) CalmP.onlyN_panic (Or.inl ⟨by kernel_rfl, ?_⟩) (by assumption) ?_
      rotate_left
      · (intro w_ hSw; (try dsimp only at hSw); go_simp; try with_reducible rfl)
      try simp only [List.getElem_toArray, List.getElem_cons_succ, List.getElem_cons_zero, Act.put, List.setIfInBounds_toArray, List.set_cons_zero, List.set_cons_succ]
      refine wpAnyH_take (i := 19) (v := ?_) rfl (by kernel_rfl) (by kernel_rfl) (by kernel_rfl) CalmP.onlyN_panic (Or.inl ⟨by kernel_rfl, ?_⟩) (by assumption) ?_
      rotate_left
      · (intro w_ hSw; (try dsimp only at hSw); go_simp; try with_reducible rfl)
      try simp only [List.getElem_toArray, List.getElem_cons_succ, List.getElem_cons_zero, Act.put, List.setIfInBounds_toArray, List.set_cons_zero, List.set_cons_succ]
      refine wpAnyH_take (i := 20) (v := ?_) rfl (by kernel_rfl) (by kernel_rfl) (by kernel_rfl) CalmP.onlyN_panic (Or.inl ⟨by kernel_rfl, ?_⟩) (by assumption) ?_
      rotate_left
      · (intro w_ hSw; (try dsimp only at hSw); go_simp; try with_reducible rfl)
      try simp only [List.getElem_toArray, List.getElem_cons_succ, List.getElem_cons_zero, Act.put, List.setIfInBounds_toArray, List.set_cons_zero, List.set_cons_succ]
      refine wpAnyH_take (i := 21) (v := ?_) rfl (by kernel_rfl) (by kernel_rfl) (by kernel_rfl) CalmP.onlyN_panic (Or.inl ⟨by kernel_rfl, ?_⟩) (by assumption) ?_
      rotate_left
      · (intro w_ hSw; (try dsimp only at hSw); go_simp; try with_reducible rfl)
      try simp only [List.getElem_toArray, List.getElem_cons_succ, List.getElem_cons_zero, Act.put, List.setIfInBounds_toArray, List.set_cons_zero, List.set_cons_succ]
      refine wpAnyH_take (i := 22) (v := ?_) rfl (by kernel_rfl) (by kernel_rfl) (by kernel_rfl) CalmP.onlyN_panic (Or.inl ⟨by kernel_rfl, ?_⟩) (by assumption) ?_
      rotate_left
      · (intro w_ hSw; (try dsimp only at hSw); go_simp; try with_reducible rfl)
      try simp only [List.getElem_toArray, List.getElem_cons_succ, List.getElem_cons_zero, Act.put, List.setIfInBounds_toArray, List.set_cons_zero, List.set_cons_succ]
      refine wpAnyH_take (i := 23) (v := ?_) rfl (by kernel_rfl) (by kernel_rfl) (by kernel_rfl) CalmP.onlyN_panic (Or.inl ⟨by kernel_rfl, ?_⟩) (by assumption) ?_
      rotate_left
      · (intro w_ hSw; (try dsimp only at hSw); go_simp; try with_reducible rfl)
      try simp only [List.getElem_toArray, List.getElem_cons_succ, List.getElem_cons_zero, Act.put, List.setIfInBounds_toArray, List.set_cons_zero, List.set_cons_succ]
      refine wpAnyH_done (by kernel_rfl) ?_ _
      refine CalmP.onlyN_here (hQ.out _ _ ?_)
      clear hQ K0
      go_wp2
      go_ret
      exact ⟨rfl, b_ _ (kc.trans (y1.mono kc.size))⟩
/-- The settled world that the card begins from. -/
noncomputable def laidWorld (os : Os) : World := laidWorld7 os
end Go.Proofs.YtgdjlmpfjmakkaaGreatDoor.ChooseMayP
