/- ChoosePicks returns true, whatever its arguments. -/
import Derived.Test.YtgdjlmpfjmakkaaGreatDoorChooseSmall
import Derived.Test.YtgdjlmpfjmakkaaGreatDoorConfig
import Derived.Test.YtgdjlmpfjmakkaaGreatDoorFrameTells
import Derived.Test.YtgdjlmpfjmakkaaGreatDoorLaid7
namespace Go.Proofs.YtgdjlmpfjmakkaaGreatDoor.ChoosePicksP
open Go.RowKit
open FrameLengthsP (step_)
open FrameTellsP (of_drew)

set_option maxRecDepth 100000 in
set_option maxHeartbeats 25600000 in
set_option linter.unusedSimpArgs false in
theorem walk (A0 A1 : Option Addr) (n0 c0 n1 c1 : Nat) (lv least cp bf tm : Int) (ts : List (List UInt8)) (m tg : ByteArray) (qminor : Int) (Aq : Option Addr) (nq cq : Nat) (qs : List (List UInt8 × List UInt8)) (minor status : Int) (s_ : ByteArray) (A : Option Addr) (n c : Nat) (fs : List (List UInt8 × List UInt8)) (w : World)
    (h1 : Rd w w.heap.size 1 A1 n1 (scells ts)) (hn1 : n1 ≤ 9223372036854775807) (hts : ∀ t ∈ ts, t.length ≤ reachBytes) (hq : Rd w w.heap.size 2 Aq nq (fcells qs)) (hnq : nq ≤ 9223372036854775807) (hzq : ∀ f ∈ qs, f.1.length ≤ reachBytes ∧ f.2.length ≤ reachBytes) (h : Rd w w.heap.size 2 A n (fcells fs)) (hn : n ≤ 9223372036854775807) (hz : ∀ f ∈ fs, f.1.length ≤ reachBytes ∧ f.2.length ≤ reachBytes) :
    Calls Tryz.prog 3 #[.agg #[.slice A0 n0 c0, .slice A1 n1 c1, .int .i64 lv, .int .i64 least, .int .i64 cp, .int .i64 bf, .int .i64 tm], .agg #[.string m, .string tg, .int .i64 qminor, .slice Aq nq cq], .agg #[.int .i64 minor, .int .i64 status, .string s_, .slice A n c]] w fun e w' => e = .returned (.bool true) ∧ Below w.heap.size w w' := by
  obtain ⟨w1, hw1⟩ : ∃ w1, ((w.alloc (.cells #[.slice A0 n0 c0, .slice A1 n1 c1, .int .i64 lv, .int .i64 least, .int .i64 cp, .int .i64 bf, .int .i64 tm] 25)).alloc (.cells #[.string m, .string tg, .int .i64 qminor, .slice Aq nq cq] 28)).alloc (.cells #[.int .i64 minor, .int .i64 status, .string s_, .slice A n c] 30) = w1 := ⟨_, rfl⟩
  obtain ⟨bC, bQ, bR, tW⟩ := three_boxes w #[.slice A0 n0 c0, .slice A1 n1 c1, .int .i64 lv, .int .i64 least, .int .i64 cp, .int .i64 bf, .int .i64 tm] #[.string m, .string tg, .int .i64 qminor, .slice Aq nq cq] #[.int .i64 minor, .int .i64 status, .string s_, .slice A n c] 25 28 30
  rw [hw1] at bC bQ bR tW
  obtain ⟨gc, hgc⟩ : ∃ g, w.heap.size = g := ⟨_, rfl⟩
  obtain ⟨gq, hgq⟩ : ∃ g, gc + 1 = g := ⟨_, rfl⟩
  obtain ⟨gr, hgr⟩ : ∃ g, gq + 1 = g := ⟨_, rfl⟩
  rw [hgc] at bC bQ bR
  have hgr2 : gc + 2 = gr := by omega
  rw [hgq] at bQ
  rw [hgr2] at bR
  clear hgr2
  have b_ := fun (W : World) (b : Below w1.heap.size w1 W) => tW.trans (b.mono tW.size)
  have mk : ∀ W, Below w1.heap.size w1 W → W.cell? ⟨gc, 0, none⟩ = some (.slice A0 n0 c0) ∧ W.cell? ⟨gc, 1, none⟩ = some (.slice A1 n1 c1) ∧ W.cell? ⟨gc, 2, none⟩ = some (.int .i64 lv) ∧ W.cell? ⟨gc, 3, none⟩ = some (.int .i64 least) ∧ W.cell? ⟨gc, 4, none⟩ = some (.int .i64 cp) ∧ W.cell? ⟨gc, 5, none⟩ = some (.int .i64 bf) ∧ W.cell? ⟨gc, 6, none⟩ = some (.int .i64 tm) ∧ W.cell? ⟨gq, 0, none⟩ = some (.string m) ∧ W.cell? ⟨gq, 1, none⟩ = some (.string tg) ∧ W.cell? ⟨gq, 2, none⟩ = some (.int .i64 qminor) ∧ W.cell? ⟨gq, 3, none⟩ = some (.slice Aq nq cq) ∧ W.cell? ⟨gr, 0, none⟩ = some (.int .i64 minor) ∧ W.cell? ⟨gr, 1, none⟩ = some (.int .i64 status) ∧ W.cell? ⟨gr, 2, none⟩ = some (.string s_) ∧ W.cell? ⟨gr, 3, none⟩ = some (.slice A n c) := fun W b => by
    have b1 := bC.below b
    have b2 := bQ.below b
    have b3 := bR.below b
    exact ⟨(b1.2 0 _ rfl).1, (b1.2 1 _ rfl).1, (b1.2 2 _ rfl).1, (b1.2 3 _ rfl).1, (b1.2 4 _ rfl).1, (b1.2 5 _ rfl).1, (b1.2 6 _ rfl).1, (b2.2 0 _ rfl).1, (b2.2 1 _ rfl).1, (b2.2 2 _ rfl).1, (b2.2 3 _ rfl).1, (b3.2 0 _ rfl).1, (b3.2 1 _ rfl).1, (b3.2 2 _ rfl).1, (b3.2 3 _ rfl).1⟩
  have hfl := h.flen
  have hql := hq.flen
  have hll : ts.length = n1 := by have := h1.1; simpa [scells] using this
  have qL1 := fun (W : World) (b : Below w1.heap.size w1 W) => of_drew (light22_any Aq nq cq _ qs W (hq.below (b_ W b)) hnq hzq)
  have qL2 := fun (W : World) (b : Below w1.heap.size w1 W) => of_drew (light22_any A n c _ fs W (h.below (b_ W b)) hn hz)
  have qF := fun (W : World) (b : Below w1.heap.size w1 W) => few22_any A1 n1 c1 _ ts W (h1.below (b_ W b)) hn1 hts
  have qA := fun (W : World) (_ : Below w1.heap.size w1 W) => ans22_any W
  rcases hL1 : lightS 100 20000 qs with _ | _
  · rw [hL1] at qL1
    clear hL1 hfl hll hql
    go_enter Tryz.func3, Tryz.ntmps3
    go_upto_region 1 with (fail)
    try rw [hw1]
    try rw [hgc]
    try rw [hgq]
    try rw [hgr]
    clear hw1 hgc hgq hgr
    obtain ⟨d0, d1, d2, d3, d4, d5, d6, d7, d8, d9, d10, d11, d12, d13, d14⟩ := mk _ (Below.refl _ _)
    go_wp2_with fail
    refine (qL1 w1 (Below.refl _ _)).mono ?_
    rintro e w2 ⟨rfl, k2⟩
    go_upto_region 2 with (fail)
    go_wp2_with fail
    refine (qA w2 k2).mono ?_
    rintro e w9 ⟨rfl, k9⟩
    go_wp2
    go_ret
    exact ⟨rfl, b_ _ (k2.trans (k9.mono k2.size))⟩
  rw [hL1] at qL1
  rcases hL2 : lightS 100 20000 fs with _ | _
  · rw [hL2] at qL2
    clear hL1 hL2 hfl hll hql
    go_enter Tryz.func3, Tryz.ntmps3
    go_upto_region 1 with (fail)
    try rw [hw1]
    try rw [hgc]
    try rw [hgq]
    try rw [hgr]
    clear hw1 hgc hgq hgr
    obtain ⟨d0, d1, d2, d3, d4, d5, d6, d7, d8, d9, d10, d11, d12, d13, d14⟩ := mk _ (Below.refl _ _)
    go_wp2_with fail
    refine (qL1 w1 (Below.refl _ _)).mono ?_
    rintro e w2 ⟨rfl, k2⟩
    clear d0 d1 d2 d3 d4 d5 d6 d7 d8 d9 d10 d11 d12 d13 d14
    obtain ⟨d0, d1, d2, d3, d4, d5, d6, d7, d8, d9, d10, d11, d12, d13, d14⟩ := mk _ k2
    go_wp2_with fail
    refine (qL2 w2 k2).mono ?_
    rintro e w3 ⟨rfl, k⟩
    have k3 := k2.trans (k.mono k2.size)
    clear k
    go_upto_region 2 with (fail)
    go_wp2_with fail
    refine (qA w3 k3).mono ?_
    rintro e w9 ⟨rfl, k9⟩
    go_wp2
    go_ret
    exact ⟨rfl, b_ _ (k3.trans (k9.mono k3.size))⟩
  rw [hL2] at qL2
  rcases hF : fewT ts with _ | _
  · rw [hF] at qF
    clear hL1 hL2 hF hfl hll hql
    go_enter Tryz.func3, Tryz.ntmps3
    go_upto_region 1 with (fail)
    try rw [hw1]
    try rw [hgc]
    try rw [hgq]
    try rw [hgr]
    clear hw1 hgc hgq hgr
    obtain ⟨d0, d1, d2, d3, d4, d5, d6, d7, d8, d9, d10, d11, d12, d13, d14⟩ := mk _ (Below.refl _ _)
    go_wp2_with fail
    refine (qL1 w1 (Below.refl _ _)).mono ?_
    rintro e w2 ⟨rfl, k2⟩
    clear d0 d1 d2 d3 d4 d5 d6 d7 d8 d9 d10 d11 d12 d13 d14
    obtain ⟨d0, d1, d2, d3, d4, d5, d6, d7, d8, d9, d10, d11, d12, d13, d14⟩ := mk _ k2
    go_wp2_with fail
    refine (qL2 w2 k2).mono ?_
    rintro e w3 ⟨rfl, k⟩
    have k3 := k2.trans (k.mono k2.size)
    clear k
    clear d0 d1 d2 d3 d4 d5 d6 d7 d8 d9 d10 d11 d12 d13 d14
    obtain ⟨d0, d1, d2, d3, d4, d5, d6, d7, d8, d9, d10, d11, d12, d13, d14⟩ := mk _ k3
    go_wp2_with fail
    refine (qF w3 k3).mono ?_
    rintro e w4 ⟨rfl, hw4⟩
    obtain rfl : w3 = w4 := hw4.symm
    clear hw4
    go_upto_region 2 with (fail)
    go_wp2_with fail
    refine (qA w3 k3).mono ?_
    rintro e w9 ⟨rfl, k9⟩
    go_wp2
    go_ret
    exact ⟨rfl, b_ _ (k3.trans (k9.mono k3.size))⟩
  rw [hF] at qF
  obtain ⟨hqs, hq100, -⟩ := lightS_ok hL1 (by omega)
  rw [hql] at hq100
  obtain ⟨hok, h100, -⟩ := lightS_ok hL2 (by omega)
  rw [hfl] at h100
  obtain ⟨hts2, ht100⟩ := fewT_ok hF
  rw [hll] at ht100
  have hts3 : ∀ t ∈ ts, t.length ≤ 1000000 := fun t ht => by have := hts2 t ht; omega
  have qP := fun (W : World) (b : Below w1.heap.size w1 W) => pick_any A0 A1 n0 c0 n1 c1 lv least cp bf tm qminor minor status m tg s_ Aq nq cq A n c _ fs ts qs W (h.below (b_ W b)) (h1.below (b_ W b)) (hq.below (b_ W b)) (b_ W b).size (by omega) (by omega) (by omega) hok hts3 hqs
  have qR := fun (W : World) (b : Below w1.heap.size w1 W) => refpick_any A0 A1 n0 c0 n1 c1 lv least cp bf tm qminor minor status m tg s_ Aq nq cq A n c _ fs ts qs W (h.below (b_ W b)) (h1.below (b_ W b)) (hq.below (b_ W b)) (b_ W b).size (by omega) (by omega) (by omega) hok hts3 hqs
  obtain ⟨⟨⟨pp, pf, pt⟩, pb⟩, hp⟩ : ∃ p, p = pickL least ts m qs status fs := ⟨_, rfl⟩
  simp only [← hp, plV] at qP
  simp only [← hp, p4] at qR
  have eb : (pb == pb) = true := beq_self_eq_true _
  have ep : (pp == pp) = true := beq_self_eq_true _
  have ef : ((pf : Int) == (pf : Int)) = true := beq_self_eq_true _
  have et : ((pt : Int) == (pt : Int)) = true := beq_self_eq_true _
  clear hp hL1 hL2 hF hfl hll hql hts2 hts3 hqs hok hzq hz hts
  go_enter Tryz.func3, Tryz.ntmps3
  go_upto_region 1 with (fail)
  try rw [hw1]
  try rw [hgc]
  try rw [hgq]
  try rw [hgr]
  clear hw1 hgc hgq hgr
  obtain ⟨d0, d1, d2, d3, d4, d5, d6, d7, d8, d9, d10, d11, d12, d13, d14⟩ := mk _ (Below.refl _ _)
  go_wp2_with fail
  refine (qL1 w1 (Below.refl _ _)).mono ?_
  rintro e w2 ⟨rfl, k2⟩
  clear d0 d1 d2 d3 d4 d5 d6 d7 d8 d9 d10 d11 d12 d13 d14
  obtain ⟨d0, d1, d2, d3, d4, d5, d6, d7, d8, d9, d10, d11, d12, d13, d14⟩ := mk _ k2
  go_wp2_with fail
  refine (qL2 w2 k2).mono ?_
  rintro e w3 ⟨rfl, k⟩
  have k3 := k2.trans (k.mono k2.size)
  clear k
  clear d0 d1 d2 d3 d4 d5 d6 d7 d8 d9 d10 d11 d12 d13 d14
  obtain ⟨d0, d1, d2, d3, d4, d5, d6, d7, d8, d9, d10, d11, d12, d13, d14⟩ := mk _ k3
  go_wp2_with fail
  refine (qF w3 k3).mono ?_
  rintro e w4 ⟨rfl, hw4⟩
  obtain rfl : w3 = w4 := hw4.symm
  clear hw4
  clear d0 d1 d2 d3 d4 d5 d6 d7 d8 d9 d10 d11 d12 d13 d14 qL1 qL2 qF
  obtain ⟨d0, d1, d2, d3, d4, d5, d6, d7, d8, d9, d10, d11, d12, d13, d14⟩ := mk _ k3
  go_wp2_with fail
  refine (qP w3 k3).mono ?_
  rintro e w5 ⟨rfl, k⟩
  have k5 := k3.trans (k.mono k3.size)
  clear k d0 d1 d2 d3 d4 d5 d6 d7 d8 d9 d10 d11 d12 d13 d14
  have bx := Box.new w5 #[.bool pp, .int .i64 (pf : Nat), .int .i64 (pt : Nat)] 35
  have ka := (Below.refl w5.heap.size w5).alloc (Nat.le_refl _) (.cells #[.bool pp, .int .i64 (pf : Nat), .int .i64 (pt : Nat)] 35)
  have k6 := k5.trans (ka.mono k5.size)
  obtain ⟨gx, hgx⟩ : ∃ g, w5.heap.size = g := ⟨_, rfl⟩
  rw [hgx] at bx
  go_upto_region 4 with (fail)
  try rw [hgx]
  clear hgx ka
  generalize w5.alloc _ = w6 at bx k6 ⊢
  obtain ⟨d0, d1, d2, d3, d4, d5, d6, d7, d8, d9, d10, d11, d12, d13, d14⟩ := mk _ k6
  go_wp2_with fail
  refine (qR w6 k6).mono ?_
  rintro e w7 ⟨rfl, k⟩
  have k7 := k6.trans (k.mono k6.size)
  replace bx := bx.below k
  clear k d0 d1 d2 d3 d4 d5 d6 d7 d8 d9 d10 d11 d12 d13 d14
  go_wp2_with fail
  refine (qA w7 k7).mono ?_
  rintro e w8 ⟨rfl, k⟩
  have k8 := k7.trans (k.mono k7.size)
  replace bx := bx.below k
  clear k
  obtain ⟨y0, y1, y2⟩ := bx.three
  go_wp2
  go_ret
  exact ⟨ret_bool (by simp), b_ _ k8⟩
/-- The settled world that the card begins from. -/
noncomputable def laidWorld (os : Os) : World := laidWorld7 os
end Go.Proofs.YtgdjlmpfjmakkaaGreatDoor.ChoosePicksP
