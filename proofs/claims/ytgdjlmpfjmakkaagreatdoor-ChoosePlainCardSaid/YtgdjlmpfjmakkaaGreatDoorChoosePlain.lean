/- ChoosePlain returns true, whatever its arguments. -/
import Derived.Test.YtgdjlmpfjmakkaaGreatDoorChooseSmall
import Derived.Test.YtgdjlmpfjmakkaaGreatDoorConfig
import Derived.Test.YtgdjlmpfjmakkaaGreatDoorFrameTells
import Derived.Test.YtgdjlmpfjmakkaaGreatDoorLaid7
namespace Go.Proofs.YtgdjlmpfjmakkaaGreatDoor.ChoosePlainP
open Go.RowKit
open FrameLengthsP (step_)
open FrameTellsP (of_drew)

theorem wt_nil (k : Nat) : wtL [] k = 1000 := by unfold wtL qL; rw [if_pos rfl]
theorem others_nil (ms : List (List UInt8)) : othersL [] ms = true := by
  unfold othersL
  rw [List.all_eq_true]
  intro s _
  unfold otherB qL
  rw [if_pos rfl]; decide
theorem best_nil : bestL (wtL []) [1, 2, 0] = (1, true) := by
  have s1 : bestS (wtL []) (0, 0) 1 = (1, 1000) := by unfold bestS; rw [wt_nil]; rfl
  have s2 : bestS (wtL []) (1, 1000) 2 = (1, 1000) := by unfold bestS; rw [wt_nil]; rfl
  have s3 : bestS (wtL []) (1, 1000) 0 = (1, 1000) := by unfold bestS; rw [wt_nil]; rfl
  have b : bestF (wtL []) [1, 2, 0] = (1, 1000) := by
    show bestS (wtL []) (bestS (wtL []) (bestS (wtL []) (0, 0) 1) 2) 0 = (1, 1000)
    rw [s1, s2, s3]
  unfold bestL
  rw [b]; rfl
theorem to_nil (ms : List (List UInt8)) (el : Bool) (f : Nat) : toL (wtL []) (othersL [] ms) el f = (if f = 3 then (3, true) else if el = true then (1, true) else (f, true)) := by
  unfold toL
  rw [others_nil]
  by_cases h3 : f = 3
  · rw [if_pos h3, if_pos h3]
  · rw [if_neg h3, if_neg h3]
    by_cases he : el = true
    · rw [if_pos he, if_pos he]; exact best_nil
    · rw [if_neg he, if_neg he]
      by_cases h0 : f = 0
      · rw [if_pos h0, if_pos (by rw [wt_nil]; decide), h0]
      · rw [if_neg h0, firstK, if_pos (by rw [wt_nil]; decide)]
theorem get_one (v : List UInt8) : getL [(aeL, v)] aeL = [v] := by rw [getL_cons, if_pos (show sameL aeL aeL = true by decide)]; rfl
theorem empty_get (s : Int) (h : statB s = true) : emptyB ⟨#[71, 69, 84]⟩ s = false := by
  have e : (⟨#[71, 69, 84]⟩ : ByteArray).toList = [71, 69, 84] := by rw [ByteArray.toList_eq]
  have hc : s = 200 ∨ s = 201 ∨ s = 203 ∨ s = 404 ∨ s = 410 := by simpa [statB] using h
  unfold emptyB
  rw [e]
  rcases hc with rfl | rfl | rfl | rfl | rfl <;> decide
section
variable {least : Int} {ts : List (List UInt8)} {status : Int} {fs : List (List UInt8 × List UInt8)}
theorem elig_facts {m : List UInt8} (h : eligL least ts m status fs = true) : codingL (allL fs codeL) = 0 ∧ keptL status fs = false ∧ statB status = true := by
  unfold eligL at h
  simp only [Bool.and_eq_true, Bool.not_eq_true', decide_eq_true_eq] at h
  exact ⟨h.1.1.2, h.1.1.1.1.2, h.1.1.1.1.1⟩
theorem plain_nil : ∃ pp pf pt, pickL least ts ⟨#[71, 69, 84]⟩ [] status fs = ((pp, pf, pt), true) ∧ (eligL least ts [71, 69, 84] status fs = true → pt = 1) ∧ (eligL least ts [71, 69, 84] status fs = false → pp = true) := by
  have hg : getL [] aeL = [] := rfl
  have hm : (⟨#[71, 69, 84]⟩ : ByteArray).data.toList = [71, 69, 84] := rfl
  unfold pickL
  rw [hg, to_nil, hm]
  by_cases he : eligL least ts [71, 69, 84] status fs = true
  · obtain ⟨h0, hk, hs⟩ := elig_facts he
    rw [h0, hk, empty_get status hs, he]
    exact ⟨false, 0, 1, rfl, fun _ => rfl, fun h => by cases h⟩
  · rw [if_neg he]
    by_cases hke : (keptL status fs || emptyB ⟨#[71, 69, 84]⟩ status) = true
    · rw [hke]
      exact ⟨true, _, _, rfl, fun h => absurd h he, fun _ => rfl⟩
    · have hke' : (keptL status fs || emptyB ⟨#[71, 69, 84]⟩ status) = false := by simpa using hke
      rw [hke']
      by_cases h3 : codingL (allL fs codeL) = 3
      · rw [if_pos h3, h3]
        exact ⟨true, 3, 3, rfl, fun h => absurd h he, fun _ => rfl⟩
      · rw [if_neg h3]
        refine ⟨true, codingL (allL fs codeL), codingL (allL fs codeL), ?_, fun h => absurd h he, fun _ => rfl⟩
        unfold planL
        rw [if_neg (by decide), if_pos rfl]
        simp
theorem plain_val {v : List UInt8} (he : eligL least ts [71, 69, 84] status fs = false) (h0 : codingL (allL fs codeL) = 0) (hw : 0 < wtL [v] 0) : pickL least ts ⟨#[71, 69, 84]⟩ [(aeL, v)] status fs = ((true, 0, 0), true) := by
  have hm : (⟨#[71, 69, 84]⟩ : ByteArray).data.toList = [71, 69, 84] := rfl
  unfold pickL
  rw [get_one, hm, he, h0]
  have ht : ∀ oth, toL (wtL [v]) oth false 0 = (0, true) := fun oth => by
    unfold toL
    rw [if_neg (by decide), if_neg (by decide), if_pos rfl, if_pos hw]
  rw [ht]
  unfold planL
  split
  · rfl
  · rw [if_pos rfl]; rfl
end

set_option maxRecDepth 100000 in
set_option maxHeartbeats 25600000 in
set_option linter.unusedSimpArgs false in
theorem walk (A0 A1 : Option Addr) (n0 c0 n1 c1 : Nat) (lv least cp bf tm : Int) (ts : List (List UInt8)) (minor status : Int) (s_ : ByteArray) (A : Option Addr) (n c : Nat) (fs : List (List UInt8 × List UInt8)) (value : ByteArray) (w : World)
    (h1 : Rd w w.heap.size 1 A1 n1 (scells ts)) (hn1 : n1 ≤ 9223372036854775807) (hts : ∀ t ∈ ts, t.length ≤ reachBytes) (h : Rd w w.heap.size 2 A n (fcells fs)) (hn : n ≤ 9223372036854775807) (hz : ∀ f ∈ fs, f.1.length ≤ reachBytes ∧ f.2.length ≤ reachBytes) (_hval : value.size ≤ maxLen) :
    Calls Tryz.prog 5 #[.agg #[.slice A0 n0 c0, .slice A1 n1 c1, .int .i64 lv, .int .i64 least, .int .i64 cp, .int .i64 bf, .int .i64 tm], .agg #[.int .i64 minor, .int .i64 status, .string s_, .slice A n c], .string value] w fun e w' => e = .returned (.bool true) ∧ Below w.heap.size w w' := by
  obtain ⟨w1, hw1⟩ : ∃ w1, (w.alloc (.cells #[.slice A0 n0 c0, .slice A1 n1 c1, .int .i64 lv, .int .i64 least, .int .i64 cp, .int .i64 bf, .int .i64 tm] 25)).alloc (.cells #[.int .i64 minor, .int .i64 status, .string s_, .slice A n c] 30) = w1 := ⟨_, rfl⟩
  obtain ⟨bC, bR, tW⟩ := two_boxes w #[.slice A0 n0 c0, .slice A1 n1 c1, .int .i64 lv, .int .i64 least, .int .i64 cp, .int .i64 bf, .int .i64 tm] #[.int .i64 minor, .int .i64 status, .string s_, .slice A n c] 25 30
  rw [hw1] at bC bR tW
  obtain ⟨gc, hgc⟩ : ∃ g, w.heap.size = g := ⟨_, rfl⟩
  obtain ⟨gr, hgr⟩ : ∃ g, gc + 1 = g := ⟨_, rfl⟩
  rw [hgc] at bC bR
  rw [hgr] at bR
  have b_ := fun (W : World) (b : Below w1.heap.size w1 W) => tW.trans (b.mono tW.size)
  have mk : ∀ W, Below w1.heap.size w1 W → W.cell? ⟨gc, 0, none⟩ = some (.slice A0 n0 c0) ∧ W.cell? ⟨gc, 1, none⟩ = some (.slice A1 n1 c1) ∧ W.cell? ⟨gc, 2, none⟩ = some (.int .i64 lv) ∧ W.cell? ⟨gc, 3, none⟩ = some (.int .i64 least) ∧ W.cell? ⟨gc, 4, none⟩ = some (.int .i64 cp) ∧ W.cell? ⟨gc, 5, none⟩ = some (.int .i64 bf) ∧ W.cell? ⟨gc, 6, none⟩ = some (.int .i64 tm) ∧ W.cell? ⟨gr, 0, none⟩ = some (.int .i64 minor) ∧ W.cell? ⟨gr, 1, none⟩ = some (.int .i64 status) ∧ W.cell? ⟨gr, 2, none⟩ = some (.string s_) ∧ W.cell? ⟨gr, 3, none⟩ = some (.slice A n c) := fun W b => by
    have b1 := bC.below b
    have b3 := bR.below b
    exact ⟨(b1.2 0 _ rfl).1, (b1.2 1 _ rfl).1, (b1.2 2 _ rfl).1, (b1.2 3 _ rfl).1, (b1.2 4 _ rfl).1, (b1.2 5 _ rfl).1, (b1.2 6 _ rfl).1, (b3.2 0 _ rfl).1, (b3.2 1 _ rfl).1, (b3.2 2 _ rfl).1, (b3.2 3 _ rfl).1⟩
  have hfl := h.flen
  have hll : ts.length = n1 := by have := h1.1; simpa [scells] using this
  have qLt := fun (W : World) (b : Below w1.heap.size w1 W) => of_drew (light22_any A n c _ fs W (h.below (b_ W b)) hn hz)
  have qF := fun (W : World) (b : Below w1.heap.size w1 W) => few22_any A1 n1 c1 _ ts W (h1.below (b_ W b)) hn1 hts
  have qA := fun (W : World) (_ : Below w1.heap.size w1 W) => ans22_any W
  rcases hL : lightS 100 20000 fs with _ | _
  · rw [hL] at qLt
    clear hL hfl hll
    go_enter Tryz.func5, Tryz.ntmps5
    go_upto_region 1 with (fail)
    try rw [hw1]
    try rw [hgc]
    try rw [hgr]
    clear hw1 hgc hgr
    obtain ⟨d0, d1, d2, d3, d4, d5, d6, d7, d8, d9, d10⟩ := mk _ (Below.refl _ _)
    go_wp2_with fail
    refine (qLt w1 (Below.refl _ _)).mono ?_
    rintro e w2 ⟨rfl, k2⟩
    go_upto_region 2 with (fail)
    go_wp2_with fail
    refine (qA w2 k2).mono ?_
    rintro e w9 ⟨rfl, k9⟩
    go_wp2
    go_ret
    exact ⟨rfl, b_ _ (k2.trans (k9.mono k2.size))⟩
  rw [hL] at qLt
  rcases hF : fewT ts with _ | _
  · rw [hF] at qF
    clear hL hF hfl hll
    go_enter Tryz.func5, Tryz.ntmps5
    go_upto_region 1 with (fail)
    try rw [hw1]
    try rw [hgc]
    try rw [hgr]
    clear hw1 hgc hgr
    obtain ⟨d0, d1, d2, d3, d4, d5, d6, d7, d8, d9, d10⟩ := mk _ (Below.refl _ _)
    go_wp2_with fail
    refine (qLt w1 (Below.refl _ _)).mono ?_
    rintro e w2 ⟨rfl, k2⟩
    clear d0 d1 d2 d3 d4 d5 d6 d7 d8 d9 d10
    obtain ⟨d0, d1, d2, d3, d4, d5, d6, d7, d8, d9, d10⟩ := mk _ k2
    go_wp2_with fail
    refine (qF w2 k2).mono ?_
    rintro e w4 ⟨rfl, hw4⟩
    obtain rfl : w2 = w4 := hw4.symm
    clear hw4
    go_upto_region 2 with (fail)
    go_wp2_with fail
    refine (qA w2 k2).mono ?_
    rintro e w9 ⟨rfl, k9⟩
    go_wp2
    go_ret
    exact ⟨rfl, b_ _ (k2.trans (k9.mono k2.size))⟩
  rw [hF] at qF
  by_cases hv : 500 < value.size
  · have hvd : decide ((500 : Int) < (value.size : Int)) = true := decide_eq_true (by omega)
    clear hL hF hfl hll
    go_enter Tryz.func5, Tryz.ntmps5
    go_upto_region 1 with (fail)
    try rw [hw1]
    try rw [hgc]
    try rw [hgr]
    clear hw1 hgc hgr
    obtain ⟨d0, d1, d2, d3, d4, d5, d6, d7, d8, d9, d10⟩ := mk _ (Below.refl _ _)
    go_wp2_with fail
    refine (qLt w1 (Below.refl _ _)).mono ?_
    rintro e w2 ⟨rfl, k2⟩
    clear d0 d1 d2 d3 d4 d5 d6 d7 d8 d9 d10
    obtain ⟨d0, d1, d2, d3, d4, d5, d6, d7, d8, d9, d10⟩ := mk _ k2
    go_wp2_with fail
    refine (qF w2 k2).mono ?_
    rintro e w4 ⟨rfl, hw4⟩
    obtain rfl : w2 = w4 := hw4.symm
    clear hw4
    go_upto_region 2 with (fail)
    go_wp2_with fail
    refine (qA w2 k2).mono ?_
    rintro e w9 ⟨rfl, k9⟩
    go_wp2
    go_ret
    exact ⟨rfl, b_ _ (k2.trans (k9.mono k2.size))⟩
  have hvd : decide ((500 : Int) < (value.size : Int)) = false := decide_eq_false (by omega)
  obtain ⟨hok, h100, -⟩ := lightS_ok hL (by omega)
  rw [hfl] at h100
  obtain ⟨hts2, ht100⟩ := fewT_ok hF
  rw [hll] at ht100
  have hts3 : ∀ t ∈ ts, t.length ≤ 1000000 := fun t ht => by have := hts2 t ht; omega
  have hvl : value.data.toList.length ≤ 1000000 := by rw [← size_of]; omega
  have qP := fun (W : World) (b : Below w1.heap.size w1 W) => pick_any A0 A1 n0 c0 n1 c1 lv least cp bf tm 0 minor status ⟨#[71, 69, 84]⟩ ⟨#[]⟩ s_ none 0 0 A n c _ fs ts [] W (h.below (b_ W b)) (h1.below (b_ W b)) Rd.nil_ (b_ W b).size (by omega) (by omega) (by omega) hok hts3 (by intro f hf; cases hf)
  have qP2 := fun (W : World) (b : Below w1.heap.size w1 W) (r : Rd W W.heap.size 2 (some ⟨W.heap.size - 1, 0, none⟩) 1 (fcells [(aeL, value.data.toList)])) => r
  have qX : ∀ (W : World) (g : Nat) (_ : Below w1.heap.size w1 W) (_ : Rd W W.heap.size 2 (some ⟨g, 0, none⟩) 1 (fcells [(aeL, value.data.toList)])), Calls Tryz.prog 9 _ W _ := fun W g b r => pick_any A0 A1 n0 c0 n1 c1 lv least cp bf tm 0 minor status ⟨#[71, 69, 84]⟩ ⟨#[]⟩ s_ (some ⟨g, 0, none⟩) 1 1 A n c W.heap.size fs ts [(aeL, value.data.toList)] W ((h.below (b_ W b)).mono (b_ W b).size) ((h1.below (b_ W b)).mono (b_ W b).size) r (Nat.le_refl _) (by omega) (by omega) (by omega) hok hts3 (by intro f hf; rw [List.mem_singleton.1 hf]; exact ⟨(by decide : aeL.length ≤ 1000000), hvl⟩)
  have qE := fun (W : World) (b : Below w1.heap.size w1 W) => refelig_any A0 A1 n0 c0 n1 c1 lv least cp bf tm minor status s_ ⟨#[71, 69, 84]⟩ A n c _ fs ts W (h.below (b_ W b)) (h1.below (b_ W b)) (b_ W b).size (by omega) (by omega) hok hts3
  have qC := fun (W : World) (b : Below w1.heap.size w1 W) => coding_any minor status s_ A n c _ fs W (h.below (b_ W b)) (b_ W b).size (by omega) hok
  have qQ := fun (W : World) => refq_any (some ⟨W.heap.size, 0, none⟩) 1 1 (W.heap.size + 1) [value.data.toList] ⟨#[105, 100, 101, 110, 116, 105, 116, 121]⟩ _ (rd_txt W value) (by simp) (by omega) (by intro v hv; rw [List.mem_singleton.1 hv]; exact hvl)
  have em : (⟨#[71, 69, 84]⟩ : ByteArray).data.toList = [71, 69, 84] := rfl
  simp only [em] at qE
  have e0 : qL [value.data.toList] (⟨#[105, 100, 101, 110, 116, 105, 116, 121]⟩ : ByteArray).data.toList = wtL [value.data.toList] 0 := rfl
  simp only [e0] at qQ
  obtain ⟨pp, pf, pt, hp, hp1, hp2⟩ := plain_nil (least := least) (ts := ts) (status := status) (fs := fs)
  have hpv := plain_val (least := least) (ts := ts) (status := status) (fs := fs) (v := value.data.toList)
  simp only [hp, plV] at qP
  obtain ⟨⟨⟨xp, xf, xt⟩, xb⟩, hx⟩ : ∃ p, p = pickL least ts ⟨#[71, 69, 84]⟩ [(aeL, value.data.toList)] status fs := ⟨_, rfl⟩
  rw [← hx] at hpv
  simp only [← hx, plV] at qX
  obtain ⟨el, hel⟩ : ∃ b, b = eligL least ts [71, 69, 84] status fs := ⟨_, rfl⟩
  rw [← hel] at hp1 hp2 hpv
  simp only [← hel] at qE
  obtain ⟨f, hf⟩ : ∃ b, b = codingL (allL fs codeL) := ⟨_, rfl⟩
  rw [← hf] at hpv
  simp only [← hf] at qC
  obtain ⟨wv, hwv⟩ : ∃ b, b = wtL [value.data.toList] 0 := ⟨_, rfl⟩
  rw [← hwv] at hpv
  simp only [← hwv] at qQ
  have HP1 := hide hp1
  have HP2 := hide hp2
  have HPV := hide hpv
  obtain ⟨bn, hbn⟩ : ∃ l, l = value.data.toList := ⟨_, rfl⟩
  have rkv : ∀ W : World, Rd (W.alloc (.cells #[.string ⟨#[97, 99, 99, 101, 112, 116, 45, 101, 110, 99, 111, 100, 105, 110, 103]⟩, .string value] 49)) (W.alloc (.cells #[.string ⟨#[97, 99, 99, 101, 112, 116, 45, 101, 110, 99, 111, 100, 105, 110, 103]⟩, .string value] 49)).heap.size 2 (some ⟨W.heap.size, 0, none⟩) 1 (fcells [(aeL, value.data.toList)]) := fun W => (rd_new W #[.string ⟨#[97, 99, 99, 101, 112, 116, 45, 101, 110, 99, 111, 100, 105, 110, 103]⟩, .string value] 49 2 1 rfl).mono (by simp)
  clear hp hp1 hp2 hpv hx hel hf hwv hL hF hfl hll hts2 hts3 hok hz hts hvl h h1 e0 em qP2 hv hbn bn
  go_enter Tryz.func5, Tryz.ntmps5
  go_upto_region 1 with (fail)
  try rw [hw1]
  try rw [hgc]
  try rw [hgr]
  clear hw1 hgc hgr
  obtain ⟨d0, d1, d2, d3, d4, d5, d6, d7, d8, d9, d10⟩ := mk _ (Below.refl _ _)
  go_wp2_with fail
  refine (qLt w1 (Below.refl _ _)).mono ?_
  rintro e w2 ⟨rfl, k2⟩
  clear d0 d1 d2 d3 d4 d5 d6 d7 d8 d9 d10
  obtain ⟨d0, d1, d2, d3, d4, d5, d6, d7, d8, d9, d10⟩ := mk _ k2
  go_wp2_with fail
  refine (qF w2 k2).mono ?_
  rintro e w4 ⟨rfl, hw4⟩
  obtain rfl : w2 = w4 := hw4.symm
  clear hw4
  clear d0 d1 d2 d3 d4 d5 d6 d7 d8 d9 d10 qLt qF
  obtain ⟨d0, d1, d2, d3, d4, d5, d6, d7, d8, d9, d10⟩ := mk _ k2
  go_wp2_with fail
  refine (qP w2 k2).mono ?_
  rintro e w5 ⟨rfl, k⟩
  have k5 := k2.trans (k.mono k2.size)
  clear k d0 d1 d2 d3 d4 d5 d6 d7 d8 d9 d10
  have bx := Box.new w5 #[.bool pp, .int .i64 (pf : Nat), .int .i64 (pt : Nat)] 35
  have ka := (Below.refl w5.heap.size w5).alloc (Nat.le_refl _) (.cells #[.bool pp, .int .i64 (pf : Nat), .int .i64 (pt : Nat)] 35)
  have k6 := k5.trans (ka.mono k5.size)
  obtain ⟨gx, hgx⟩ : ∃ g, w5.heap.size = g := ⟨_, rfl⟩
  rw [hgx] at bx
  go_upto_region 4 with (fail)
  try rw [hgx]
  clear hgx ka
  generalize w5.alloc _ = w6 at bx k6 ⊢
  go_wp2_with fail
  refine (qA w6 k6).mono ?_
  rintro e w7 ⟨rfl, k⟩
  have k7 := k6.trans (k.mono k6.size)
  replace bx := bx.below k
  clear k
  obtain ⟨d0, d1, d2, d3, d4, d5, d6, d7, d8, d9, d10⟩ := mk _ k7
  go_wp2_with fail
  refine (qE w7 k7).mono ?_
  rintro e w8 ⟨rfl, k⟩
  have k8 := k7.trans (k.mono k7.size)
  replace bx := bx.below k
  clear k d0 d1 d2 d3 d4 d5 d6 d7 d8 d9 d10
  obtain ⟨y0, y1, y2⟩ := bx.three
  rcases el with _ | _
  rotate_left
  · have hpt := HP1.out rfl
    subst hpt
    go_wp2
    go_ret
    exact ⟨rfl, b_ _ k8⟩
  have hpp := HP2.out rfl
  subst hpp
  obtain ⟨d0, d1, d2, d3, d4, d5, d6, d7, d8, d9, d10⟩ := mk _ k8
  have ka := (Below.refl w8.heap.size w8).alloc (Nat.le_refl _) (.cells #[.string ⟨#[97, 99, 99, 101, 112, 116, 45, 101, 110, 99, 111, 100, 105, 110, 103]⟩, .string value] 49)
  have k9 := k8.trans (ka.mono k8.size)
  have rk := rkv w8
  obtain ⟨gv, hgv⟩ : ∃ g, w8.heap.size = g := ⟨_, rfl⟩
  obtain ⟨wv8, hwv8⟩ : ∃ x, w8.alloc (.cells #[.string ⟨#[97, 99, 99, 101, 112, 116, 45, 101, 110, 99, 111, 100, 105, 110, 103]⟩, .string value] 49) = x := ⟨_, rfl⟩
  rw [hwv8] at rk k9
  rw [hgv] at rk
  go_wp2_with fail
  try rw [hwv8]
  clear hwv8 hgv ka y0 y1 y2 d0 d1 d2 d3 d4 d5 d6 d7 d8 d9 d10
  refine (qX wv8 gv k9 rk).mono ?_
  rintro e w10 ⟨rfl, k⟩
  have k10 := k9.trans (k.mono k9.size)
  clear k rk
  have by_ := Box.new w10 #[.bool xp, .int .i64 (xf : Nat), .int .i64 (xt : Nat)] 35
  have ka := (Below.refl w10.heap.size w10).alloc (Nat.le_refl _) (.cells #[.bool xp, .int .i64 (xf : Nat), .int .i64 (xt : Nat)] 35)
  have k11 := k10.trans (ka.mono k10.size)
  obtain ⟨gy, hgy⟩ : ∃ g, w10.heap.size = g := ⟨_, rfl⟩
  rw [hgy] at by_
  go_upto_region 11 with (fail)
  try rw [hgy]
  clear hgy ka bx
  generalize w10.alloc _ = w11 at by_ k11 ⊢
  obtain ⟨d0, d1, d2, d3, d4, d5, d6, d7, d8, d9, d10⟩ := mk _ k11
  go_wp2_with fail
  refine (qC w11 k11).mono ?_
  rintro e w12 ⟨rfl, k⟩
  have k12 := k11.trans (k.mono k11.size)
  replace by_ := by_.below k
  clear k d0 d1 d2 d3 d4 d5 d6 d7 d8 d9 d10
  by_cases hf0 : f = 0
  · subst hf0
    by_cases hw0 : wv = 0
    · subst hw0
      have ks := (Below.refl w12.heap.size w12).alloc (Nat.le_refl _) (.cells #[.string value] 9)
      have k13 := k12.trans (ks.mono k12.size)
      have hzz : (w12.alloc (.cells #[.string value] 9)).heap.size = w12.heap.size + 1 := by simp
      go_wp2_with fail
      refine (qQ w12).mono ?_
      rintro e w14 ⟨rfl, k⟩
      have k14 := k13.trans (k.mono k13.size)
      go_wp2
      go_ret
      exact ⟨rfl, b_ _ k14⟩
    · have hwe : ((wv : Int) == 0) = false := by simpa using hw0
      have hx := HPV.out (by first | rfl | trivial) (by first | rfl | trivial) (by omega)
      simp only [Prod.mk.injEq] at hx
      obtain ⟨⟨rfl, rfl, rfl⟩, rfl⟩ := hx
      have ks := (Below.refl w12.heap.size w12).alloc (Nat.le_refl _) (.cells #[.string value] 9)
      have k13 := k12.trans (ks.mono k12.size)
      have hzz : (w12.alloc (.cells #[.string value] 9)).heap.size = w12.heap.size + 1 := by simp
      clear hw0
      go_wp2_with fail
      refine (qQ w12).mono ?_
      rintro e w14 ⟨rfl, k⟩
      have k14 := k13.trans (k.mono k13.size)
      have by2 := (by_.below ks).below (k.mono (by simp))
      obtain ⟨y0, y1, y2⟩ := by2.three
      go_wp2
      go_ret
      exact ⟨rfl, b_ _ k14⟩
  · have hfe : ((f : Int) == 0) = false := by simpa using hf0
    have hfn : ((f : Int) != 0) = true := by simpa using hf0
    clear hf0
    go_wp2
    go_ret
    exact ⟨rfl, b_ _ k12⟩
/-- The settled world that the card begins from. -/
noncomputable def laidWorld (os : Os) : World := laidWorld7 os
end Go.Proofs.YtgdjlmpfjmakkaaGreatDoor.ChoosePlainP
