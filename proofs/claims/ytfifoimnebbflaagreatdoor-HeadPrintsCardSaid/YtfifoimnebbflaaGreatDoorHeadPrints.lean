/- HeadPrints returns true for any request, response and bytes. -/
import Derived.Test.YtfifoimnebbflaaGreatDoorRefReqH
import Derived.Test.YtfifoimnebbflaaGreatDoorRefRespH
import Derived.Test.YtfifoimnebbflaaGreatDoorPrintsReq
import Derived.Test.YtfifoimnebbflaaGreatDoorSameRq
import Derived.Test.YtfifoimnebbflaaGreatDoorLaid8
import Derived.Test.YtfifoimnebbflaaGreatDoorSame
import Derived.Test.YtfifoimnebbflaaGreatDoorHeadEndI
namespace Go.Proofs.YtfifoimnebbflaaGreatDoor.HeadPrintsP
open Go.RowKit
set_option linter.unusedVariables false
set_option linter.unusedSimpArgs false

theorem ow_cap {w : World} {base size n c : Nat} {A : Option Addr} {xs : List Value} (h : Ow w base size (.slice A n c) n xs) : A = none → c = 0 := by
  rintro rfl
  rcases h.2 with ⟨hv, h0⟩ | ⟨g, off, cap, hv, _⟩
  · cases hv; rfl
  · cases hv
theorem of_drew {f : FuncId} {args : Array Value} {W : World} {b : Bool} (h : Calls Tryz.prog f args W fun e w' => e = .returned (.bool b) ∧ ∃ k, w' = W.drewN k) :
    Calls Tryz.prog f args W fun e w' => e = .returned (.bool b) ∧ Below W.heap.size W w' := h.mono fun _ _ ⟨h1, _, h2⟩ => ⟨h1, by rw [h2]; exact below_drewN (Below.refl _ _)⟩
theorem preqB_le (m t : List UInt8) (minor : Int) (fs : List (List UInt8 × List UInt8)) : (preqB m t minor fs).length ≤ 16384 := by
  unfold preqB
  split
  · by_cases h : printE (reqFirst m t minor.toNat) fs = 0
    · obtain ⟨-, -, h3, h4⟩ := print_zero h
      rw [h4]; omega
    · unfold printB; rw [if_neg h]; simp
  · simp
theorem presB_le (mi st : Int) (rs : List UInt8) (fs : List (List UInt8 × List UInt8)) : (presB mi st rs fs).length ≤ 16384 := by
  unfold presB
  split
  · by_cases h : printE (resFirst mi.toNat st.toNat rs) fs = 0
    · obtain ⟨-, -, h3, h4⟩ := print_zero h
      rw [h4]; omega
    · unfold printB; rw [if_neg h]; simp
  · simp
/-- A request and a response, in boxes g and g + 1. -/
def Two (w : World) (g : Nat) (qm qt rs : ByteArray) (qi ri ro : Int) (A A1 : Option Addr) (n c n1 c1 : Nat) : Prop :=
  Box w g [.string qm, .string qt, .int .i64 qi, .slice A n c] ∧ Box w (g + 1) [.int .i64 ri, .int .i64 ro, .string rs, .slice A1 n1 c1]
theorem Two.cells {w : World} {g : Nat} {qm qt rs : ByteArray} {qi ri ro : Int} {A A1 : Option Addr} {n c n1 c1 : Nat} (h : Two w g qm qt rs qi ri ro A A1 n c n1 c1) :
    w.cell? ⟨g, 0, none⟩ = some (.string qm) ∧ w.cell? ⟨g, 1, none⟩ = some (.string qt) ∧ w.cell? ⟨g, 2, none⟩ = some (.int .i64 qi) ∧ w.cell? ⟨g, 3, none⟩ = some (.slice A n c) ∧
    w.cell? ⟨g + 1, 0, none⟩ = some (.int .i64 ri) ∧ w.cell? ⟨g + 1, 1, none⟩ = some (.int .i64 ro) ∧ w.cell? ⟨g + 1, 2, none⟩ = some (.string rs) ∧ w.cell? ⟨g + 1, 3, none⟩ = some (.slice A1 n1 c1) := by
  obtain ⟨a0, a1, a2, a3⟩ := h.1.four
  obtain ⟨b0, b1, b2, b3⟩ := h.2.four
  exact ⟨a0, a1, a2, a3, b0, b1, b2, b3⟩
theorem Two.on {w w' : World} {g : Nat} {qm qt rs : ByteArray} {qi ri ro : Int} {A A1 : Option Addr} {n c n1 c1 : Nat} (h : Two w g qm qt rs qi ri ro A A1 n c n1 c1) (b : Below w.heap.size w w') : Two w' g qm qt rs qi ri ro A A1 n c n1 c1 :=
  ⟨h.1.below b, h.2.below b⟩

set_option maxRecDepth 100000 in
set_option maxHeartbeats 6400000 in
theorem walk (qm qt : ByteArray) (qi : Int) (A : Option Addr) (n c : Nat) (qs : List (List UInt8 × List UInt8)) (ri ro : Int) (rs : ByteArray) (A1 : Option Addr) (n1 c1 : Nat) (fs : List (List UInt8 × List UInt8)) (A2 : Option Addr) (n2 c2 : Nat) (mb : List UInt8) (w : World)
    (h0 : Rd w w.heap.size 2 A n (fcells qs)) (hn0 : n ≤ 9223372036854775807) (hz0 : ∀ f ∈ qs, f.1.length ≤ reachBytes ∧ f.2.length ≤ reachBytes) (h1 : Rd w w.heap.size 2 A1 n1 (fcells fs)) (hn1 : n1 ≤ 9223372036854775807) (hz1 : ∀ f ∈ fs, f.1.length ≤ reachBytes ∧ f.2.length ≤ reachBytes) (h2 : Rd w w.heap.size 1 A2 n2 (bcells mb)) (hn2 : n2 ≤ 9223372036854775807)
    (mx : Int) (hm : w.cell? ⟨0, 0, none⟩ = some (.int .i64 mx)) (htab : PowTab w) :
    Calls Tryz.prog 5 #[.agg #[.string qm, .string qt, .int .i64 qi, .slice A n c], .agg #[.int .i64 ri, .int .i64 ro, .string rs, .slice A1 n1 c1], .slice A2 n2 c2] w fun e w' => e = .returned (.bool true) ∧ Below w.heap.size w w' := by
  have hmb : 0 < w.heap.size := World.block_lt_of_cell? w _ hm
  have hfl0 := h0.flen
  have hfl1 := h1.flen
  obtain ⟨w1, hw1⟩ : ∃ x, x = (w.alloc (.cells #[.string qm, .string qt, .int .i64 qi, .slice A n c] 31)).alloc (.cells #[.int .i64 ri, .int .i64 ro, .string rs, .slice A1 n1 c1] 45) := ⟨_, rfl⟩
  obtain ⟨g, hg⟩ : ∃ x, x = w.heap.size := ⟨_, rfl⟩
  have t1 : Below w.heap.size w w1 := by rw [hw1]; exact below_alloc2 _ _ _
  have two : Two w1 g qm qt rs qi ri ro A A1 n c n1 c1 := by
    rw [hw1, hg]
    refine ⟨(Box.new w #[.string qm, .string qt, .int .i64 qi, .slice A n c] 31).below ((Below.refl _ _).alloc (Nat.le_refl _) _), ?_⟩
    have := Box.new (w.alloc (.cells #[.string qm, .string qt, .int .i64 qi, .slice A n c] 31)) #[.int .i64 ri, .int .i64 ro, .string rs, .slice A1 n1 c1] 45
    simpa using this
  have mk := fun (W : World) (b : Below w1.heap.size w1 W) => (two.on b).cells
  have tt := fun (W : World) (b : Below w1.heap.size w1 W) => t1.trans (b.mono t1.size)
  have qA := fun (W : World) (b : Below w1.heap.size w1 W) => ans17_any W mx (((tt W b).cell (p := ⟨0, 0, none⟩) hmb).trans hm)
  have qL0 := fun (W : World) (b : Below w1.heap.size w1 W) => of_drew (light17_any A n c _ qs W (h0.below (tt W b)) hn0 hz0)
  have qL1 := fun (W : World) (b : Below w1.heap.size w1 W) => of_drew (light17_any A1 n1 c1 _ fs W (h1.below (tt W b)) hn1 hz1)
  rcases hL0 : lightS 100 30000 qs with _ | _
  · rw [hL0] at qL0
    clear hL0 hfl0 hfl1
    go_enter Tryz.func5, Tryz.ntmps5
    go_upto_region 1 with (fail)
    try rw [← hw1]
    try rw [← hg]
    clear hw1 hg
    obtain ⟨d0, d1, d2, d3, d4, d5, d6, d7⟩ := mk _ (Below.refl _ _)
    go_wp2_with fail
    refine (qL0 w1 (Below.refl _ _)).mono ?_
    rintro e w2 ⟨rfl, k2⟩
    clear d0 d1 d2 d3 d4 d5 d6 d7
    obtain ⟨d0, d1, d2, d3, d4, d5, d6, d7⟩ := mk _ k2
    go_wp2_with fail
    refine (qA w2 k2).mono ?_
    rintro e w9 ⟨rfl, k9⟩
    go_wp2
    go_ret
    exact ⟨rfl, tt _ (k2.trans (k9.mono k2.size))⟩
  rw [hL0] at qL0
  rcases hL1 : lightS 100 30000 fs with _ | _
  · rw [hL1] at qL1
    clear hL0 hL1 hfl0 hfl1
    go_enter Tryz.func5, Tryz.ntmps5
    go_upto_region 1 with (fail)
    try rw [← hw1]
    try rw [← hg]
    clear hw1 hg
    obtain ⟨d0, d1, d2, d3, d4, d5, d6, d7⟩ := mk _ (Below.refl _ _)
    go_wp2_with fail
    refine (qL0 w1 (Below.refl _ _)).mono ?_
    rintro e w2 ⟨rfl, k2⟩
    clear d0 d1 d2 d3 d4 d5 d6 d7
    obtain ⟨d0, d1, d2, d3, d4, d5, d6, d7⟩ := mk _ k2
    go_wp2_with fail
    refine (qL1 w2 k2).mono ?_
    rintro e w3 ⟨rfl, k⟩
    have k3 := k2.trans (k.mono k2.size)
    clear k
    clear d0 d1 d2 d3 d4 d5 d6 d7
    obtain ⟨d0, d1, d2, d3, d4, d5, d6, d7⟩ := mk _ k3
    go_wp2_with fail
    refine (qA w3 k3).mono ?_
    rintro e w9 ⟨rfl, k9⟩
    go_wp2
    go_ret
    exact ⟨rfl, tt _ (k3.trans (k9.mono k3.size))⟩
  rw [hL1] at qL1
  obtain ⟨hok0, hl0, -⟩ := lightS_ok hL0 (by omega)
  rw [hfl0] at hl0
  obtain ⟨hok1, hl1, -⟩ := lightS_ok hL1 (by omega)
  rw [hfl1] at hl1
  clear hL0 hL1 hz0 hz1
  by_cases s0 : 600 < qm.size
  · have i0 : (600 : Int) < (qm.size : Int) := by omega
    clear s0 hfl0 hfl1
    go_enter Tryz.func5, Tryz.ntmps5
    go_upto_region 1 with (fail)
    try rw [← hw1]
    try rw [← hg]
    clear hw1 hg
    obtain ⟨d0, d1, d2, d3, d4, d5, d6, d7⟩ := mk _ (Below.refl _ _)
    go_wp2_with fail
    refine (qL0 w1 (Below.refl _ _)).mono ?_
    rintro e w2 ⟨rfl, k2⟩
    clear d0 d1 d2 d3 d4 d5 d6 d7
    obtain ⟨d0, d1, d2, d3, d4, d5, d6, d7⟩ := mk _ k2
    go_wp2_with fail
    refine (qL1 w2 k2).mono ?_
    rintro e w3 ⟨rfl, k⟩
    have k3 := k2.trans (k.mono k2.size)
    clear k
    clear d0 d1 d2 d3 d4 d5 d6 d7
    obtain ⟨d0, d1, d2, d3, d4, d5, d6, d7⟩ := mk _ k3
    go_wp2_with fail
    refine (qA w3 k3).mono ?_
    rintro e w9 ⟨rfl, k9⟩
    go_wp2
    go_ret
    exact ⟨rfl, tt _ (k3.trans (k9.mono k3.size))⟩
  have i0 : ¬ (600 : Int) < (qm.size : Int) := by omega
  by_cases s1 : 4000 < qt.size
  · have i1 : (4000 : Int) < (qt.size : Int) := by omega
    clear s1 hfl0 hfl1
    go_enter Tryz.func5, Tryz.ntmps5
    go_upto_region 1 with (fail)
    try rw [← hw1]
    try rw [← hg]
    clear hw1 hg
    obtain ⟨d0, d1, d2, d3, d4, d5, d6, d7⟩ := mk _ (Below.refl _ _)
    go_wp2_with fail
    refine (qL0 w1 (Below.refl _ _)).mono ?_
    rintro e w2 ⟨rfl, k2⟩
    clear d0 d1 d2 d3 d4 d5 d6 d7
    obtain ⟨d0, d1, d2, d3, d4, d5, d6, d7⟩ := mk _ k2
    go_wp2_with fail
    refine (qL1 w2 k2).mono ?_
    rintro e w3 ⟨rfl, k⟩
    have k3 := k2.trans (k.mono k2.size)
    clear k
    clear d0 d1 d2 d3 d4 d5 d6 d7
    obtain ⟨d0, d1, d2, d3, d4, d5, d6, d7⟩ := mk _ k3
    go_wp2_with fail
    refine (qA w3 k3).mono ?_
    rintro e w9 ⟨rfl, k9⟩
    go_wp2
    go_ret
    exact ⟨rfl, tt _ (k3.trans (k9.mono k3.size))⟩
  have i1 : ¬ (4000 : Int) < (qt.size : Int) := by omega
  by_cases s2 : 6000 < rs.size
  · have i2 : (6000 : Int) < (rs.size : Int) := by omega
    clear s2 hfl0 hfl1
    go_enter Tryz.func5, Tryz.ntmps5
    go_upto_region 1 with (fail)
    try rw [← hw1]
    try rw [← hg]
    clear hw1 hg
    obtain ⟨d0, d1, d2, d3, d4, d5, d6, d7⟩ := mk _ (Below.refl _ _)
    go_wp2_with fail
    refine (qL0 w1 (Below.refl _ _)).mono ?_
    rintro e w2 ⟨rfl, k2⟩
    clear d0 d1 d2 d3 d4 d5 d6 d7
    obtain ⟨d0, d1, d2, d3, d4, d5, d6, d7⟩ := mk _ k2
    go_wp2_with fail
    refine (qL1 w2 k2).mono ?_
    rintro e w3 ⟨rfl, k⟩
    have k3 := k2.trans (k.mono k2.size)
    clear k
    clear d0 d1 d2 d3 d4 d5 d6 d7
    obtain ⟨d0, d1, d2, d3, d4, d5, d6, d7⟩ := mk _ k3
    go_wp2_with fail
    refine (qA w3 k3).mono ?_
    rintro e w9 ⟨rfl, k9⟩
    go_wp2
    go_ret
    exact ⟨rfl, tt _ (k3.trans (k9.mono k3.size))⟩
  have i2 : ¬ (6000 : Int) < (rs.size : Int) := by omega
  by_cases s3 : 500 < n2
  · have i3 : (500 : Int) < (n2 : Int) := by omega
    clear s3 hfl0 hfl1
    go_enter Tryz.func5, Tryz.ntmps5
    go_upto_region 1 with (fail)
    try rw [← hw1]
    try rw [← hg]
    clear hw1 hg
    obtain ⟨d0, d1, d2, d3, d4, d5, d6, d7⟩ := mk _ (Below.refl _ _)
    go_wp2_with fail
    refine (qL0 w1 (Below.refl _ _)).mono ?_
    rintro e w2 ⟨rfl, k2⟩
    clear d0 d1 d2 d3 d4 d5 d6 d7
    obtain ⟨d0, d1, d2, d3, d4, d5, d6, d7⟩ := mk _ k2
    go_wp2_with fail
    refine (qL1 w2 k2).mono ?_
    rintro e w3 ⟨rfl, k⟩
    have k3 := k2.trans (k.mono k2.size)
    clear k
    clear d0 d1 d2 d3 d4 d5 d6 d7
    obtain ⟨d0, d1, d2, d3, d4, d5, d6, d7⟩ := mk _ k3
    go_wp2_with fail
    refine (qA w3 k3).mono ?_
    rintro e w9 ⟨rfl, k9⟩
    go_wp2
    go_ret
    exact ⟨rfl, tt _ (k3.trans (k9.mono k3.size))⟩
  have i3 : ¬ (500 : Int) < (n2 : Int) := by omega
  obtain ⟨PE, hPE⟩ : ∃ x, x = preqE qm.data.toList qt.data.toList qi qs := ⟨_, rfl⟩
  obtain ⟨PB, hPB⟩ : ∃ x, x = preqB qm.data.toList qt.data.toList qi qs := ⟨_, rfl⟩
  obtain ⟨SE, hSE⟩ : ∃ x, x = presE ri ro rs.data.toList fs := ⟨_, rfl⟩
  obtain ⟨SB, hSB⟩ : ∃ x, x = presB ri ro rs.data.toList fs := ⟨_, rfl⟩
  have rr0 := fun (W : World) (b : Below w1.heap.size w1 W) => (h0.below (tt W b)).mono (tt W b).size
  have rr1 := fun (W : World) (b : Below w1.heap.size w1 W) => (h1.below (tt W b)).mono (tt W b).size
  have rr2 := fun (W : World) (b : Below w1.heap.size w1 W) => (h2.below (tt W b)).mono (tt W b).size
  have qP := fun (W : World) (b : Below w1.heap.size w1 W) => printreq_any qm qt qi A n c _ qs W (rr0 W b) (Nat.le_refl _) (by omega) hok0 (by omega) (by omega)
  have qP' := fun (W : World) (b : Below w1.heap.size w1 W) => refprintreq_any qm qt qi A n c _ qs W (rr0 W b) (Nat.le_refl _) (by omega) hok0 (by omega) (by omega)
  have qS := fun (W : World) (b : Below w1.heap.size w1 W) => printresp_any rs ri ro A1 n1 c1 _ fs W (rr1 W b) (Nat.le_refl _) (by omega) hok1 (by omega) (htab.on (tt W b))
  have qS' := fun (W : World) (b : Below w1.heap.size w1 W) => refprintresp_any rs ri ro A1 n1 c1 _ fs W (rr1 W b) (Nat.le_refl _) (by omega) hok1 (by omega)
  simp only [← hPE, ← hPB] at qP qP'
  simp only [← hSE, ← hSB] at qS qS'
  have HP : Hid (PE = 0 → reqE PB = 0 ∧ rM PB = qm.data.toList ∧ rT PB = qt.data.toList ∧ (rN PB : Int) = qi ∧ rFs PB = qs ∧ PB.length ≤ 16384 ∧ ∀ more, endE (PB ++ more) = 0 ∧ endN (PB ++ more) = PB.length) := hide (by rw [hPE, hPB]; exact head_req)
  have HS : Hid (SE = 0 → ∃ mi si : Nat, ri = mi ∧ ro = si ∧ mi < 2 ∧ (100 ≤ si ∧ si ≤ 599) ∧ reasonL rs.data.toList = true ∧ parseE SB = 0 ∧ firstL SB = resFirst mi si rs.data.toList ∧ fieldsL SB = fs ∧ SB.length ≤ 16384 ∧ ∀ more, endE (SB ++ more) = 0 ∧ endN (SB ++ more) = SB.length) := hide (by rw [hSE, hSB]; exact head_res)
  have hPB2 := hPB
  have hSB2 := hSB
  clear hPE hPB hSE hSB s0 s1 s2
  obtain ⟨pl, hpl⟩ : ∃ m, m = PB.length := ⟨_, rfl⟩
  obtain ⟨sl, hsl⟩ : ∃ m, m = SB.length := ⟨_, rfl⟩
  simp only [← hpl] at qP qP'
  simp only [← hsl] at qS qS'
  have HPL := hide hpl
  have HSL := hide hsl
  have b62 : pl ≤ 16384 ∧ sl ≤ 16384 := by rw [hpl, hsl, hPB2, hSB2]; exact ⟨preqB_le _ _ _ _, presB_le _ _ _ _⟩
  clear hpl hsl hPB2 hSB2
  have HF0 := hide hfl0
  have HF1 := hide hfl1
  obtain ⟨i8, hi8, hy0, hy1, hy2⟩ := info_parts infoU8
  clear hfl0 hfl1
  go_enter Tryz.func5, Tryz.ntmps5
  go_upto_region 1 with (fail)
  try rw [← hw1]
  try rw [← hg]
  clear hw1 hg
  obtain ⟨d0, d1, d2, d3, d4, d5, d6, d7⟩ := mk _ (Below.refl _ _)
  go_wp2_with fail
  refine (qL0 w1 (Below.refl _ _)).mono ?_
  rintro e w2 ⟨rfl, k2⟩
  clear d0 d1 d2 d3 d4 d5 d6 d7
  obtain ⟨d0, d1, d2, d3, d4, d5, d6, d7⟩ := mk _ k2
  go_wp2_with fail
  refine (qL1 w2 k2).mono ?_
  rintro e w3 ⟨rfl, k⟩
  have k3 := k2.trans (k.mono k2.size)
  clear k
  clear d0 d1 d2 d3 d4 d5 d6 d7
  obtain ⟨d0, d1, d2, d3, d4, d5, d6, d7⟩ := mk _ k3
  go_wp2_with fail
  refine (qP w3 k3).mono ?_
  rintro e w4 ⟨Aa, ca, rfl, ra, lea, za, k⟩
  have k4 := k3.trans (k.mono k3.size)
  clear k
  clear d0 d1 d2 d3 d4 d5 d6 d7
  obtain ⟨d0, d1, d2, d3, d4, d5, d6, d7⟩ := mk _ k4
  go_wp2_with fail
  refine (qP' w4 k4).mono ?_
  rintro e w5 ⟨Ab, cb, rfl, rb, leb, k⟩
  replace ra := (ra.below k).mono k.size
  have k5 := k4.trans (k.mono k4.size)
  clear k
  clear d0 d1 d2 d3 d4 d5 d6 d7
  obtain ⟨d0, d1, d2, d3, d4, d5, d6, d7⟩ := mk _ k5
  go_wp2_with fail
  refine (qS w5 k5).mono ?_
  rintro e w6 ⟨Ac, cc, rfl, rc, lec, zc, k⟩
  replace ra := (ra.below k).mono k.size
  replace rb := (rb.below k).mono k.size
  have k6 := k5.trans (k.mono k5.size)
  clear k
  clear d0 d1 d2 d3 d4 d5 d6 d7
  obtain ⟨d0, d1, d2, d3, d4, d5, d6, d7⟩ := mk _ k6
  go_wp2_with fail
  refine (qS' w6 k6).mono ?_
  rintro e w7 ⟨Ad, cd, rfl, rd, led, k⟩
  replace ra := (ra.below k).mono k.size
  replace rb := (rb.below k).mono k.size
  replace rc := (rc.below k).mono k.size
  have k7 := k6.trans (k.mono k6.size)
  clear k
  go_wp2_with fail
  refine (qA w7 k7).mono ?_
  rintro e w8 ⟨rfl, k⟩
  replace ra := (ra.below k).mono k.size
  replace rb := (rb.below k).mono k.size
  replace rc := (rc.below k).mono k.size
  replace rd := (rd.below k).mono k.size
  have k8 := k7.trans (k.mono k7.size)
  clear k qA qP qP' qS qS' qL0 qL1
  have z1 := same_any _ _ _ ca _ cb _ _ _ _ w8 ra rb (by omega) (by omega)
  rw [beq_self_eq_true] at z1
  have z2 := fun k => same_any _ _ _ cc _ cd _ _ _ _ (w8.drewN k) (rc.drewN k) (rd.drewN k) (by omega) (by omega)
  simp only [beq_self_eq_true] at z2
  clear d0 d1 d2 d3 d4 d5 d6 d7
  go_wp2_with fail
  refine z1.mono ?_
  rintro e w9 ⟨rfl, q9, rfl⟩
  go_wp2_with fail
  refine (z2 _).mono ?_
  rintro e w10 ⟨rfl, q10, rfl⟩
  clear z1 z2 rb rd
  have k10 : Below w1.heap.size w1 ((w8.drewN q9).drewN q10) := below_drewN (below_drewN k8)
  replace ra : Rd ((w8.drewN q9).drewN q10) w8.heap.size 1 Aa pl (bcells PB) := (ra.drewN q9).drewN q10
  replace rc : Rd ((w8.drewN q9).drewN q10) w8.heap.size 1 Ac sl (bcells SB) := (rc.drewN q9).drewN q10
  have e8 : ((w8.drewN q9).drewN q10).heap.size = w8.heap.size := rfl
  rw [← e8] at ra rc
  clear e8
  generalize (w8.drewN q9).drewN q10 = v at k10 ra rc ⊢
  go_upto_if 102 with (fail)
  go_cut [6] (fun s6 wx => s6 = .bool false ∧ Below v.heap.size v wx)
  case first =>
    by_cases hE : PE = 0
    · obtain rfl := hE
      obtain ⟨f1, f2, f3, f4, f5, f6, f7⟩ := HP.out rfl
      have f8 := f7 mb
      have qR := parsereq_any Aa pl ca v.heap.size PB mx v ra (Nat.le_refl _) (by omega) (((tt v k10).cell (p := ⟨0, 0, none⟩) hmb).trans hm)
      rw [f1, f2, f3, f4, f5, HF0.out, bytes_of, bytes_of] at qR
      have kv := k10
      have rv := ra
      clear f1 f2 f3 f4 f5 f7
      go_wp2_with fail
      refine qR.mono ?_
      rintro e v1 ⟨A3, c3, rfl, r3, k1⟩
      have hbx := Box.new v1 #[.string qm, .string qt, .int .i64 qi, .slice A3 n c3] 31
      have hbel : Below v1.heap.size v1 (v1.alloc (.cells #[.string qm, .string qt, .int .i64 qi, .slice A3 n c3] 31)) := (Below.refl _ _).alloc (Nat.le_refl _) _
      clear qR
      go_upto_region 11 with (fail)
      generalize v1.alloc (.cells #[.string qm, .string qt, .int .i64 qi, .slice A3 n c3] 31) = v2 at hbx hbel ⊢
      replace r3 := (r3.below hbel).mono hbel.size
      have k2 := k1.trans (hbel.mono k1.size)
      clear hbel
      generalize v1.heap.size = g3 at hbx ⊢
      have kk := kv.trans (k2.mono kv.size)
      have ra2 := (rv.below k2).mono k2.size
      have rm2 := rr2 v2 kk
      clear k1
      have ha2 : Below v2.heap.size v2 (v2.alloc (.cells #[] 5)) := (Below.refl _ _).alloc (Nat.le_refl _) _
      have ho2 := Ow.of_row (own_new v2 #[] 5 1 0 rfl (by simp [maxLen]) v2.heap.size (Nat.le_refl _))
      go_wp2_with (first
        | (at_builtin; refine wpl_append_ow _ rfl (.tmp 109) (.tmp 110) _ rfl v2.heap.size 5 i8 _ 1 1 Tryz.underlying24 hi8 hy0 hy1 hy2 rfl (by omega) _ _ _ rfl _ _ _ _ _ rfl ho2 (ra2.below ha2) (bcells_one _) (by unfold maxLen; omega) (by omega) ha2.size ?_; intro x3 v3 ho3 b3 _ _)
        | (at_builtin; refine wpl_append_ow _ rfl (.tmp 111) (.tmp 112) _ rfl v2.heap.size 5 i8 _ 1 1 Tryz.underlying24 hi8 hy0 hy1 hy2 rfl (by omega) _ _ _ rfl _ _ _ _ _ rfl ho3 ((rm2.below ha2).below b3) (bcells_one _) (by unfold maxLen; omega) (by omega) (Nat.le_trans ha2.size b3.size) ?_; intro x4 v4 ho4 b4 _ _))
      have k24 : Below v2.heap.size v2 v4 := ha2.trans (b3.trans b4)
      have e0 : 0 + pl + n2 = pl + n2 := by omega
      rw [e0, List.nil_append, bcells_append] at ho4
      skip
      obtain ⟨A4, c4, rfl, nc4, -⟩ := Ow.shape ho4
      have k4 := kk.trans (k24.mono kk.size)
      have qE := headend_any A4 (pl + n2) c4 v4.heap.size (PB ++ mb) mx v4 ho4.rd (Nat.le_refl _) (by omega) nc4 (ow_cap ho4) (((tt v4 k4).cell (p := ⟨0, 0, none⟩) hmb).trans hm)
      rw [f8.1, f8.2, ← HPL.out] at qE
      clear ho2 ho3 b3 b4 ha2 ra2 rm2 ho4 nc4 e0
      refine qE.mono ?_
      rintro e v5 ⟨rfl, b5⟩
      have k25 := k24.trans (b5.mono k24.size)
      have k5 := kk.trans (k25.mono kk.size)
      obtain ⟨d0, d1, d2, d3, d4, d5, d6, d7⟩ := mk _ k5
      obtain ⟨y0, y1, y2, y3⟩ := (hbx.below k25).four
      have qZ := samerq_any qm qt qi A3 A n c3 n c v5.heap.size v5.heap.size qs v5 ((r3.below k25).mono k25.size) (rr0 v5 k5) (Nat.le_refl _) (Nat.le_refl _) (by omega) (by omega)
      have kvx := k2.trans (k25.mono k2.size)
      clear qE k24 b5 k25 hbx r3
      go_wp2_with fail
      refine qZ.mono ?_
      rintro e v6 ⟨rfl, b6⟩
      have kv6 := kvx.trans (b6.mono kvx.size)
      clear qZ
      go_wp2_with fail
      go_meet
      exact ⟨rfl, kv6⟩
    · have hEz : ((PE : Int) == 0) = false := by simp; omega
      clear hE
      go_wp2_with fail
      go_meet
      exact ⟨rfl, Below.refl _ _⟩
  case rest =>
    obtain ⟨rfl, kc⟩ := hcut
    have ku := k10.trans (kc.mono k10.size)
    replace rc := (rc.below kc).mono kc.size
    clear ra k10 kc
    generalize wc = u at ku rc ⊢
    clear HP
    by_cases hE : SE = 0
    · obtain rfl := hE
      obtain ⟨mi, si, rfl, rfl, f1, f2, f3, f4, f5, f6, -, f7⟩ := HS.out rfl
      have f8 := f7 mb
      have qR := parseresp_any Ac sl cc u.heap.size SB mx u rc (Nat.le_refl _) (by omega) (((tt u ku).cell (p := ⟨0, 0, none⟩) hmb).trans hm) mi si rs.data.toList f1 f2 f3 f4 f5
      rw [f6, HF1.out, bytes_of] at qR
      have kv := ku
      have rv := rc
      clear f1 f2 f3 f4 f5 f6 f7
      go_wp2_with fail
      refine qR.mono ?_
      rintro e v1 ⟨A3, c3, rfl, r3, k1⟩
      have hbx := Box.new v1 #[.int .i64 mi, .int .i64 si, .string rs, .slice A3 n1 c3] 45
      have hbel : Below v1.heap.size v1 (v1.alloc (.cells #[.int .i64 mi, .int .i64 si, .string rs, .slice A3 n1 c3] 45)) := (Below.refl _ _).alloc (Nat.le_refl _) _
      clear qR
      go_upto_region 16 with (fail)
      generalize v1.alloc (.cells #[.int .i64 mi, .int .i64 si, .string rs, .slice A3 n1 c3] 45) = v2 at hbx hbel ⊢
      replace r3 := (r3.below hbel).mono hbel.size
      have k2 := k1.trans (hbel.mono k1.size)
      clear hbel
      generalize v1.heap.size = g3 at hbx ⊢
      have kk := kv.trans (k2.mono kv.size)
      have ra2 := (rv.below k2).mono k2.size
      have rm2 := rr2 v2 kk
      clear k1
      have ha2 : Below v2.heap.size v2 (v2.alloc (.cells #[] 5)) := (Below.refl _ _).alloc (Nat.le_refl _) _
      have ho2 := Ow.of_row (own_new v2 #[] 5 1 0 rfl (by simp [maxLen]) v2.heap.size (Nat.le_refl _))
      go_wp2_with (first
        | (at_builtin; refine wpl_append_ow _ rfl (.tmp 143) (.tmp 144) _ rfl v2.heap.size 5 i8 _ 1 1 Tryz.underlying24 hi8 hy0 hy1 hy2 rfl (by omega) _ _ _ rfl _ _ _ _ _ rfl ho2 (ra2.below ha2) (bcells_one _) (by unfold maxLen; omega) (by omega) ha2.size ?_; intro x3 v3 ho3 b3 _ _)
        | (at_builtin; refine wpl_append_ow _ rfl (.tmp 145) (.tmp 146) _ rfl v2.heap.size 5 i8 _ 1 1 Tryz.underlying24 hi8 hy0 hy1 hy2 rfl (by omega) _ _ _ rfl _ _ _ _ _ rfl ho3 ((rm2.below ha2).below b3) (bcells_one _) (by unfold maxLen; omega) (by omega) (Nat.le_trans ha2.size b3.size) ?_; intro x4 v4 ho4 b4 _ _))
      have k24 : Below v2.heap.size v2 v4 := ha2.trans (b3.trans b4)
      have e0 : 0 + sl + n2 = sl + n2 := by omega
      rw [e0, List.nil_append, bcells_append] at ho4
      skip
      obtain ⟨A4, c4, rfl, nc4, -⟩ := Ow.shape ho4
      have k4 := kk.trans (k24.mono kk.size)
      have qE := headend_any A4 (sl + n2) c4 v4.heap.size (SB ++ mb) mx v4 ho4.rd (Nat.le_refl _) (by omega) nc4 (ow_cap ho4) (((tt v4 k4).cell (p := ⟨0, 0, none⟩) hmb).trans hm)
      rw [f8.1, f8.2, ← HSL.out] at qE
      clear ho2 ho3 b3 b4 ha2 ra2 rm2 ho4 nc4 e0
      refine qE.mono ?_
      rintro e v5 ⟨rfl, b5⟩
      have k25 := k24.trans (b5.mono k24.size)
      have k5 := kk.trans (k25.mono kk.size)
      obtain ⟨d0, d1, d2, d3, d4, d5, d6, d7⟩ := mk _ k5
      obtain ⟨y0, y1, y2, y3⟩ := (hbx.below k25).four
      have qZ := samers_any mi si rs A3 A1 n1 c3 n1 c1 v5.heap.size v5.heap.size fs v5 ((r3.below k25).mono k25.size) (rr1 v5 k5) (Nat.le_refl _) (Nat.le_refl _) (by omega) (by omega)
      have kvx := k2.trans (k25.mono k2.size)
      clear qE k24 b5 k25 hbx r3
      go_wp2_with fail
      refine qZ.mono ?_
      rintro e v6 ⟨rfl, b6⟩
      have kv6 := kvx.trans (b6.mono kvx.size)
      clear qZ
      go_wp2_with fail
      go_ret
      exact ⟨rfl, tt _ (ku.trans (kv6.mono ku.size))⟩
    · have hEz : ((SE : Int) == 0) = false := by simp; omega
      clear hE
      go_wp2_with fail
      go_ret
      exact ⟨rfl, tt _ ku⟩
noncomputable def laidWorld (os : Os) : World := laidWorld8 os
end Go.Proofs.YtfifoimnebbflaaGreatDoor.HeadPrintsP
