/- The reference's Response. -/
import Derived.Test.YtgdjlmpfjmakkaaDoorResp
namespace Go.Proofs.YtgdjlmpfjmakkaaDoor
open Go.RowKit
open FrameSmugglesP (allocs allocs_size allocs_below allocs_cell allocs_rd)

theorem has_congr {a b m m' : List UInt8} (h : lowL a = lowL b) (hm : lowL m = lowL m') (fs : List (List UInt8 × List UInt8)) : hasL fs a m = hasL fs b m' := by
  unfold hasL hasV hasM
  rw [getL_congr h]
  simp only [sameL_congr hm]
set_option maxRecDepth 100000 in
set_option maxHeartbeats 6400000 in
theorem refresp23_any (minor0 status : Int) (s_ : ByteArray) (A : Option Addr) (n c B : Nat) (fs : List (List UInt8 × List UInt8)) (pass : Bool) (kd kind len minor : Int) (keep : Bool) (w : World) (h : Rd w B 2 A n (fcells fs)) (hB : B ≤ w.heap.size) (hn : n ≤ 900) (hok5 : ∀ f ∈ fs, f.1.length ≤ 500000 ∧ f.2.length ≤ 500000) (hkd : pass = true ∨ (0 ≤ kd ∧ kd ≤ 2)) :
    Calls Tryd.prog 24 #[.agg #[.int .i64 minor0, .int .i64 status, .string s_, .slice A n c], .bool pass, .int .i64 kd, .agg #[.int .i64 kind, .int .i64 len], .int .i64 minor, .bool keep] w fun e w' => ∃ A' n' c', e = .returned (.tuple #[.agg #[.int .i64 1, .int .i64 status, .string s_, .slice A' n' c'], .agg #[.int .i64 (respK pass kind minor), .int .i64 (respN pass kind len)]]) ∧
      Ow w' w.heap.size 2 (.slice A' n' c') n' (fcells (respF fs pass kd.toNat kind minor keep)) ∧ n' ≤ c' ∧ Below w.heap.size w w' := by
  have hok := turn_ok1 hok5
  obtain ⟨objs, hobjs⟩ : ∃ l : List Obj, l = [.cells #[.int .i64 minor0, .int .i64 status, .string s_, .slice A n c] 41, .cells #[.int .i64 kind, .int .i64 len] 26, .cells #[.int .i64 0, .int .i64 0, .string ⟨#[]⟩, .slice none 0 0] 41, .cells #[.int .i64 0, .int .i64 0] 26] := ⟨_, rfl⟩
  have hW : (((w.alloc (.cells #[.int .i64 minor0, .int .i64 status, .string s_, .slice A n c] 41)).alloc (.cells #[.int .i64 kind, .int .i64 len] 26)).alloc (.cells #[.int .i64 0, .int .i64 0, .string ⟨#[]⟩, .slice none 0 0] 41)).alloc (.cells #[.int .i64 0, .int .i64 0] 26) = allocs w objs := by rw [hobjs]; rfl
  have tW := allocs_below objs w
  have b1 : Box (allocs w objs) w.heap.size [.int .i64 minor0, .int .i64 status, .string s_, .slice A n c] := box_allocs objs w 0 _ _ (by rw [hobjs]; rfl)
  have b3 : Box (allocs w objs) (w.heap.size + 1) [.int .i64 kind, .int .i64 len] := box_allocs objs w 1 _ _ (by rw [hobjs]; rfl)
  have b4 : Box (allocs w objs) (w.heap.size + 1 + 1) [.int .i64 0, .int .i64 0, .string ⟨#[]⟩, .slice none 0 0] := box_allocs objs w 2 _ _ (by rw [hobjs]; rfl)
  have b5 : Box (allocs w objs) (w.heap.size + 1 + 1 + 1) [.int .i64 0, .int .i64 0] := box_allocs objs w 3 _ _ (by rw [hobjs]; rfl)
  have hfl := dropsL_len (hopL ++ namesL fs) fs
  rw [h.flen] at hfl
  change (withoutL fs).length ≤ n at hfl
  have hwle := without_le hok5
  clear hobjs
  go_enter Tryd.func24, Tryd.ntmps24
  go_upto_region 1 with (fail)
  have rl := h.below (tW.mono hB)
  generalize allocs w objs = w1 at b1 b3 b4 b5 tW rl ⊢
  obtain ⟨g, hg⟩ : ∃ g, g = w.heap.size := ⟨_, rfl⟩
  rw [← hg] at b1 b3 b4 b5 tW hB
  rw [← hg]
  have HG := hide hg
  clear hg hW h
  obtain ⟨c0, c1, c2, c3⟩ := b1.four
  have hg1 := b5.1
  have hg11 := b1.1
  go_wp2_with fail
  refine (refwithout_any A n c B fs w1 rl (by omega) (by omega) hok).mono ?_
  rintro e w2 ⟨A2, c2', rfl, o2, hc2, b⟩
  replace b1 := b1.below b
  replace b3 := b3.below b
  replace b4 := b4.below b
  replace b5 := b5.below b
  have t2 := tW.trans (b.mono (Nat.le_of_lt hg11))
  have hbz2 := b.size
  clear tW rl c0 c1 c2 c3 b
  obtain ⟨gw, hgw⟩ : ∃ g, g = withoutL fs := ⟨_, rfl⟩
  have hrf : respF fs pass kd.toNat kind minor keep = (if pass then gw else turnedL gw kd.toNat) ++ (if ¬ (kind = 0 ∨ pass = true ∧ kind = 1) ∧ minor = 1 then [chunkF] else []) ++ (if keep = false ∨ respK pass kind minor = 3 then [closeF] else []) := by rw [hgw]; rfl
  rw [← hgw] at o2 hc2 hfl hwle
  rw [← hgw]
  have HRF := hide hrf
  clear hgw hrf hok hok5
  obtain ⟨L, hL⟩ : ∃ L, gw.length = L := ⟨_, rfl⟩
  rw [hL] at o2 hc2 hfl
  rw [hL]
  have HL := hide hL
  clear hL
  -- a list that is newer than the boxes
  obtain ⟨gb, hgb⟩ : ∃ gb, gb = w1.heap.size := ⟨_, rfl⟩
  rw [← hgb] at o2 hg1 hg11 hbz2
  clear hgb
  go_upto_if 20 with (fail)
  obtain ⟨gt, hgt⟩ : ∃ l, l = (if pass then gw else turnedL gw kd.toNat) := ⟨_, rfl⟩
  have hgtl : gt.length ≤ L + 3 := by
    rw [hgt]; split
    · have := HL.out; omega
    · have := turn2_le gw kd.toNat; have := HL.out; omega
  have HGT := hide hgt
  clear hgt
  go_cut [14, 15] from 21 to 52 (fun s _ wx => Lst gb s wx gt ∧ Below w2.heap.size w2 wx)
  case first =>
    rcases pass with _ | _
    · obtain ⟨hk0, hk2⟩ : 0 ≤ kd ∧ kd ≤ 2 := by simpa using hkd
      obtain ⟨kn, rfl⟩ : ∃ k : Nat, kd = k := ⟨kd.toNat, by omega⟩
      have hgt := HGT.out
      rw [if_neg (by simp), Int.toNat_natCast] at hgt
      have hkn : kn ≤ 2 := by omega
      have HG2 := hide hgt
      have hokw := turn_ok1 hwle
      have hgwl := HL.out
      clear hgt
      have d0 := fun (W : World) (b : Below w2.heap.size w2 W) => refdrop_any A2 L c2' _ gw ⟨#[99, 111, 110, 116, 101, 110, 116, 45, 101, 110, 99, 111, 100, 105, 110, 103]⟩ W (o2.rd.below b) b.size (by omega) hokw (by decide)
      have e0 : dropL gw (⟨#[99, 111, 110, 116, 101, 110, 116, 45, 101, 110, 99, 111, 100, 105, 110, 103]⟩ : ByteArray).data.toList = dropL gw codeC := dropL_congr (by decide) gw
      rw [e0] at d0
      have hll0 := dropL_len gw codeC
      have hk1 : fsOk (dropL gw codeC) := fsOk_drop hokw _
      obtain ⟨l1, hl1⟩ : ∃ l, l = dropL gw codeC := ⟨_, rfl⟩
      rw [← hl1] at hll0 hk1
      simp only [← hl1] at d0
      obtain ⟨n3, hn3⟩ : ∃ n, l1.length = n := ⟨_, rfl⟩
      simp only [hn3] at d0
      rw [hn3] at hll0
      have H1 := hide hl1
      have hm3 : n3 ≤ 900 := by omega
      have hgwl : l1.length ≤ 900 := by omega
      clear e0 hl1 hn3 hll0
      go_wp2_with fail
      refine (d0 w2 (Below.refl _ _)).mono ?_
      rintro e w3 ⟨A3, c3, rfl, oo, hc3, bb⟩
      have t3 := bb
      have o3 := (Ow.of_row oo).base_ (hbz2)
      clear oo bb d0
      have d1 := fun (W : World) (b : Below w3.heap.size w3 W) => refdrop_any A3 n3 c3 _ l1 ⟨#[99, 111, 110, 116, 101, 110, 116, 45, 108, 101, 110, 103, 116, 104]⟩ W (o3.rd.below b) b.size (by omega) hk1 (by decide)
      have e1 : dropL l1 (⟨#[99, 111, 110, 116, 101, 110, 116, 45, 108, 101, 110, 103, 116, 104]⟩ : ByteArray).data.toList = dropL l1 lenC := dropL_congr (by decide) l1
      rw [e1] at d1
      have hll1 := dropL_len l1 lenC
      have hk2 : fsOk (dropL l1 lenC) := fsOk_drop hk1 _
      obtain ⟨l2, hl2⟩ : ∃ l, l = dropL l1 lenC := ⟨_, rfl⟩
      rw [← hl2] at hll1 hk2
      simp only [← hl2] at d1
      obtain ⟨n4, hn4⟩ : ∃ n, l2.length = n := ⟨_, rfl⟩
      simp only [hn4] at d1
      rw [hn4] at hll1
      have H2 := hide hl2
      have hm4 : n4 ≤ 900 := by omega
      have hgwl : l2.length ≤ 900 := by omega
      clear e1 hl2 hn4 hll1
      go_wp2_with fail
      refine (d1 w3 (Below.refl _ _)).mono ?_
      rintro e w4 ⟨A4, c4, rfl, oo, hc4, bb⟩
      have t4 := t3.trans (bb.mono t3.size)
      have o4 := (Ow.of_row oo).base_ (Nat.le_trans hbz2 t3.size)
      clear oo bb d1
      have d2 := fun (W : World) (b : Below w4.heap.size w4 W) => refdrop_any A4 n4 c4 _ l2 ⟨#[99, 111, 110, 116, 101, 110, 116, 45, 109, 100, 53]⟩ W (o4.rd.below b) b.size (by omega) hk2 (by decide)
      have e2 : dropL l2 (⟨#[99, 111, 110, 116, 101, 110, 116, 45, 109, 100, 53]⟩ : ByteArray).data.toList = dropL l2 md5C := dropL_congr (by decide) l2
      rw [e2] at d2
      have hll2 := dropL_len l2 md5C
      have hk3 : fsOk (dropL l2 md5C) := fsOk_drop hk2 _
      obtain ⟨l3, hl3⟩ : ∃ l, l = dropL l2 md5C := ⟨_, rfl⟩
      rw [← hl3] at hll2 hk3
      simp only [← hl3] at d2
      obtain ⟨n5, hn5⟩ : ∃ n, l3.length = n := ⟨_, rfl⟩
      simp only [hn5] at d2
      rw [hn5] at hll2
      have H3 := hide hl3
      have hm5 : n5 ≤ 900 := by omega
      have hgwl : l3.length ≤ 900 := by omega
      clear e2 hl3 hn5 hll2
      go_wp2_with fail
      refine (d2 w4 (Below.refl _ _)).mono ?_
      rintro e w5 ⟨A5, c5, rfl, oo, hc5, bb⟩
      have t5 := t4.trans (bb.mono t4.size)
      have o5 := (Ow.of_row oo).base_ (Nat.le_trans hbz2 t4.size)
      clear oo bb d2
      have d3 := fun (W : World) (b : Below w5.heap.size w5 W) => refdrop_any A5 n5 c5 _ l3 ⟨#[97, 99, 99, 101, 112, 116, 45, 114, 97, 110, 103, 101, 115]⟩ W (o5.rd.below b) b.size (by omega) hk3 (by decide)
      have e3 : dropL l3 (⟨#[97, 99, 99, 101, 112, 116, 45, 114, 97, 110, 103, 101, 115]⟩ : ByteArray).data.toList = dropL l3 rangesC := dropL_congr (by decide) l3
      rw [e3] at d3
      have hll3 := dropL_len l3 rangesC
      have hk4 : fsOk (dropL l3 rangesC) := fsOk_drop hk3 _
      obtain ⟨l4, hl4⟩ : ∃ l, l = dropL l3 rangesC := ⟨_, rfl⟩
      rw [← hl4] at hll3 hk4
      simp only [← hl4] at d3
      obtain ⟨n6, hn6⟩ : ∃ n, l4.length = n := ⟨_, rfl⟩
      simp only [hn6] at d3
      rw [hn6] at hll3
      have H4 := hide hl4
      have hm6 : n6 ≤ 900 := by omega
      have hgwl : l4.length ≤ 900 := by omega
      clear e3 hl4 hn6 hll3
      go_wp2_with fail
      refine (d3 w5 (Below.refl _ _)).mono ?_
      rintro e w6 ⟨A6, c6, rfl, oo, hc6, bb⟩
      have t6 := t5.trans (bb.mono t5.size)
      have o6 := (Ow.of_row oo).base_ (Nat.le_trans hbz2 t5.size)
      clear oo bb d3
      have hok1 : ∀ f ∈ l4, f.1.length ≤ 500000 ∧ f.2.length ≤ 500000 := fun f hf => by
        have e : l4 = dropsL gw [codeC, lenC, md5C, rangesC] := by rw [H4.out, H3.out, H2.out, H1.out]; rfl
        rw [e, dropsL_filter] at hf
        exact hwle f (List.mem_filter.1 hf).1
      obtain ⟨Al, nl, cl, o, hoe⟩ : ∃ A n c, Ow w6 gb 2 (.slice A n c) n (fcells l4) ∧ A = A6 ∧ n = n6 ∧ c = c6 := ⟨_, _, _, o6, rfl, rfl, rfl⟩
      obtain ⟨rfl, rfl, rfl⟩ := hoe
      have hfin : turnedL gw kn = turn4 (turn3 (turn2 l4) kn) := by
        have e : l4 = turn1 gw := by rw [H4.out, H3.out, H2.out, H1.out]; rfl
        rw [e]; rfl
      have q1 := fun (W : World) (b : Below w6.heap.size w6 W) => refget_any Al nl cl _ l4 ⟨#[101, 116, 97, 103]⟩ W (o.rd.below b) b.size (by omega) (turn_ok1 hok1) (by decide)
      have eg : getL l4 (⟨#[101, 116, 97, 103]⟩ : ByteArray).data.toList = getL l4 etagC := getL_congr (by decide) l4
      rw [eg] at q1
      have hhd := head_le (b := 500000) (fun f hf => (hok1 f hf).2) etagC
      have hok2 := turn_ok2 hok1
      have hln2 := turn2_len l4
      rw [ow_flen o] at hln2
      obtain ⟨g2, hg2⟩ : ∃ g, g = turn2 l4 := ⟨_, rfl⟩
      have hg2' := hg2
      unfold turn2 at hg2'
      rw [← hg2] at hok2 hln2
      have HG3 := hide hg2'
      have HFIN2 := hide (show gt = turn4 (turn3 g2 kn) by rw [hg2, HG2.out]; exact hfin)
      obtain ⟨T, hT⟩ : ∃ T, T = getL l4 etagC := ⟨_, rfl⟩
      rw [← hT] at HG3 hhd
      simp only [← hT] at q1
      have HT := hide hT
      obtain ⟨nT, hnT⟩ : ∃ n, T.length = n := ⟨_, rfl⟩
      simp only [hnT] at q1
      have HNT := hide hnT
      clear hT hnT hg2 hg2' hfin eg HG2 HGT H1 H2 H3 H4 o6
      go_wp2_with fail
      refine (q1 w6 (Below.refl _ _)).mono ?_
      rintro e w7 ⟨A7, c7, rfl, o7, hc7, b7⟩
      have rT := Rd.of_own o7
      have o' := o.below b7
      have t7 := t6.trans (b7.mono t6.size)
      clear o7 q1 o
      go_upto_if 30 with (fail)
      go_cut [14, 15] from 28 to 36 (fun s _ wx => Lst gb s wx g2 ∧ Below w2.heap.size w2 wx)
      case first =>
        by_cases h0 : 0 < nT
        · have hl0 : 0 < T.length := by have := HNT.out; omega
          obtain ⟨a, rfl, -, hcell⟩ := rT.text (k := 0) h0 hl0
          rw [head_of hl0, Addr.add_zero'] at hcell
          obtain ⟨x, hx⟩ : ∃ x, x = T.headD [] := ⟨_, rfl⟩
          rw [← hx] at hcell hhd
          have hg2 : g2 = setL l4 etagC (weakL x) := by rw [HG3.out, if_pos hl0, hx]
          have hwk := fun W => refweak_any ⟨x.toArray⟩ W (by rw [mk_size]; omega)
          rw [mk_list] at hwk
          obtain ⟨bw, hbw⟩ : ∃ b : ByteArray, b = ⟨(weakL x).toArray⟩ := ⟨_, rfl⟩
          have hst := fun (W : World) (b : Below w7.heap.size w7 W) => refset_any Al nl cl _ l4 ⟨#[69, 84, 97, 103]⟩ bw W (o'.rd.below b) b.size (by omega) (turn_ok1 hok1) (by decide)
          have e2 : setL l4 (⟨#[69, 84, 97, 103]⟩ : ByteArray).data.toList bw.data.toList = g2 := by rw [hg2, hbw]; rfl
          rw [e2] at hst
          simp only [← hbw] at hwk
          obtain ⟨sx, hsx⟩ : ∃ s : ByteArray, s = ⟨x.toArray⟩ := ⟨_, rfl⟩
          rw [← hsx] at hcell
          simp only [← hsx] at hwk
          obtain ⟨n2, hn2⟩ : ∃ n, g2.length = n := ⟨_, rfl⟩
          simp only [hn2] at hst
          clear hx hg2 hbw e2 hsx hn2 hl0
          go_wp2_with fail
          refine (hwk w7).mono ?_
          rintro e w8 ⟨rfl, rfl⟩
          go_wp2_with fail
          refine (hst w7 (Below.refl _ _)).mono ?_
          rintro e w9 ⟨A9, c9, rfl, o9, hc9, b9⟩
          have o9' := (Ow.of_row o9).base_ (Nat.le_trans hbz2 t7.size)
          have t9 := t7.trans (b9.mono t7.size)
          clear o9 hwk hst
          go_wp2_with fail
          go_meet
          exact ⟨⟨A9, n2, c9, rfl, o9', hc9⟩, t9⟩
        · have hg2 : g2 = l4 := by rw [HG3.out, if_neg (by have := HNT.out; omega)]
          have HG := hide hg2
          clear hg2
          go_wp2_with fail
          go_meet
          exact ⟨⟨Al, nl, cl, rfl, by rw [HG.out]; exact o', hc6⟩, t7⟩
      case rest =>
        obtain ⟨⟨A8, n8, c8, rfl, o8, hc8⟩, t8⟩ := hcut
        have hl8 := ow_flen o8
        rw [hl8] at hln2
        clear o' rT HG3 HT HNT hhd hok1 t7 hl8
        have hok3 := turn_ok3 hok2 kn
        have hln3 := turn3_len g2 kn
        rw [ow_flen o8] at hln3
        obtain ⟨g3, hg3⟩ : ∃ g, g = turn3 g2 kn := ⟨_, rfl⟩
        have hg3' := hg3
        unfold turn3 at hg3'
        rw [← hg3] at hok3 hln3
        have HG3 := hide hg3'
        have HFIN3 := hide (show gt = turn4 g3 by rw [hg3]; exact HFIN2.out)
        clear hg3 hg3' HFIN2
        go_upto_if 38 with (fail)
        go_cut [14] from 37 to 42 (fun s wx => Lst gb s wx g3 ∧ Below w2.heap.size w2 wx)
        case first =>
          by_cases hk0 : kn = 0
          · subst hk0
            have hg := HG3.out
            rw [if_neg (by simp)] at hg
            have HG := hide hg
            clear hg
            go_wp2_with fail
            go_meet
            exact ⟨⟨A8, n8, c8, rfl, by rw [HG.out]; exact o8, hc8⟩, t8⟩
          · have hg := HG3.out
            rw [if_pos hk0] at hg
            have hnm := fun W => called_any kn hkn W
            obtain ⟨bn, hbn⟩ : ∃ b : ByteArray, b = ⟨(cnameL kn).toArray⟩ := ⟨_, rfl⟩
            have hst := fun (W : World) (b : Below wc.heap.size wc W) => refset_any A8 n8 c8 _ g2 ⟨#[67, 111, 110, 116, 101, 110, 116, 45, 69, 110, 99, 111, 100, 105, 110, 103]⟩ bn W (o8.rd.below b) b.size (by omega) hok2 (by decide)
            have e2 : setL g2 (⟨#[67, 111, 110, 116, 101, 110, 116, 45, 69, 110, 99, 111, 100, 105, 110, 103]⟩ : ByteArray).data.toList bn.data.toList = g3 := by rw [hg, hbn]; rfl
            rw [e2] at hst
            simp only [← hbn] at hnm
            obtain ⟨n3, hn3⟩ : ∃ n, g3.length = n := ⟨_, rfl⟩
            simp only [hn3] at hst
            have hk1 : ((kn : Int) == 0) = false := by simpa using hk0
            have hk2 : ((kn : Int) != 0) = true := by simpa using hk0
            clear hg hbn e2 hn3 hk0
            go_wp2_with fail
            refine (hnm wc).mono ?_
            rintro e w9 ⟨rfl, b9⟩
            go_wp2_with fail
            refine (hst w9 b9).mono ?_
            rintro e w10 ⟨A10, c10, rfl, o10, hc10, b10⟩
            have z9 := Nat.le_trans t8.size b9.size
            have o10' := (Ow.of_row o10).base_ (Nat.le_trans hbz2 z9)
            have t10 := (t8.trans (b9.mono t8.size)).trans (b10.mono z9)
            clear o10 hnm hst
            go_wp2_with fail
            go_meet
            exact ⟨⟨A10, n3, c10, rfl, o10', hc10⟩, t10⟩
        case rest =>
          obtain ⟨⟨A9, n9, c9, rfl, o9, hc9⟩, t9⟩ := hcut
          have hl9 := ow_flen o9
          rw [hl9] at hln3
          clear o8 t8 HG3 hok2 hc8 hl9
          have q1 := fun (W : World) (b : Below wc.heap.size wc W) => refhas_any A9 n9 c9 _ g3 ⟨#[118, 97, 114, 121]⟩ ⟨#[97, 99, 99, 101, 112, 116, 45, 101, 110, 99, 111, 100, 105, 110, 103]⟩ W (o9.rd.below b) b.size (by omega) hok3 (by decide) (by decide)
          have q2 := fun (W : World) (b : Below wc.heap.size wc W) => refhas_any A9 n9 c9 _ g3 ⟨#[118, 97, 114, 121]⟩ ⟨#[42]⟩ W (o9.rd.below b) b.size (by omega) hok3 (by decide) (by decide)
          have e1 : hasL g3 (⟨#[118, 97, 114, 121]⟩ : ByteArray).data.toList (⟨#[97, 99, 99, 101, 112, 116, 45, 101, 110, 99, 111, 100, 105, 110, 103]⟩ : ByteArray).data.toList = hasL g3 varyC aeC := has_congr (by decide) (by decide) g3
          have e2 : hasL g3 (⟨#[118, 97, 114, 121]⟩ : ByteArray).data.toList (⟨#[42]⟩ : ByteArray).data.toList = hasL g3 varyC [42] := has_congr (by decide) (by decide) g3
          rw [e1] at q1
          rw [e2] at q2
          have hwi := fun (W : World) (b : Below wc.heap.size wc W) => and_any A9 n9 c9 _ g3 ⟨#[86, 97, 114, 121]⟩ ⟨#[65, 99, 99, 101, 112, 116, 45, 69, 110, 99, 111, 100, 105, 110, 103]⟩ W (o9.rd.below b) b.size (by omega)
          have hfin := HFIN3.out
          unfold turn4 at hfin
          obtain ⟨x1, hx1⟩ : ∃ x, x = hasL g3 varyC aeC := ⟨_, rfl⟩
          obtain ⟨x2, hx2⟩ : ∃ x, x = hasL g3 varyC [42] := ⟨_, rfl⟩
          rw [← hx1] at q1 hfin
          rw [← hx2] at q2 hfin
          have HF := hide hfin
          clear hx1 hx2 hfin HFIN3 e1 e2
          rcases x1 with _ | _
          · rcases x2 with _ | _
            · go_wp2_with fail
              refine (q1 wc (Below.refl _ _)).mono ?_
              rintro e w10 ⟨rfl, b10⟩
              go_wp2_with fail
              refine (q2 w10 b10).mono ?_
              rintro e w11 ⟨rfl, b11⟩
              have b12 := b10.trans (b11.mono b10.size)
              go_wp2_with fail
              refine (hwi w11 b12).mono ?_
              rintro e w13 ⟨A13, c13, rfl, o13, hc13, b13⟩
              have t13 := t9.trans ((b12.trans (b13.mono b12.size)).mono t9.size)
              have o13' := o13.base_ (Nat.le_trans hbz2 (Nat.le_trans t9.size b12.size))
              clear o13 q1 q2 hwi
              go_wp2_with fail
              go_meet
              exact ⟨⟨A13, n9 + 1, c13, rfl, by rw [HF.out, if_pos (by simp)]; exact o13', hc13⟩, t13⟩
            · go_wp2_with fail
              refine (q1 wc (Below.refl _ _)).mono ?_
              rintro e w10 ⟨rfl, b10⟩
              go_wp2_with fail
              refine (q2 w10 b10).mono ?_
              rintro e w11 ⟨rfl, b11⟩
              have b12 := b10.trans (b11.mono b10.size)
              go_wp2_with fail
              go_meet
              exact ⟨⟨A9, n9, c9, rfl, by rw [HF.out, if_neg (by simp)]; exact o9.below b12, hc9⟩, t9.trans (b12.mono t9.size)⟩
          · go_wp2_with fail
            refine (q1 wc (Below.refl _ _)).mono ?_
            rintro e w10 ⟨rfl, b10⟩
            go_wp2_with fail
            go_meet
            exact ⟨⟨A9, n9, c9, rfl, by rw [HF.out, if_neg (by simp)]; exact o9.below b10, hc9⟩, t9.trans (b10.mono t9.size)⟩
    · have hgt := HGT.out
      rw [if_pos rfl] at hgt
      have HG2 := hide hgt
      clear hgt
      go_wp2_with fail
      go_meet
      exact ⟨⟨A2, L, c2', rfl, by rw [HG2.out]; exact o2, hc2⟩, Below.refl _ _⟩
  case rest =>
    obtain ⟨⟨A3, n3, c3, rfl, o3, hc3⟩, t3⟩ := hcut
    have hl3 := ow_flen o3
    rw [hl3] at hgtl
    clear hl3 o2
    have hgbz := Nat.le_trans hbz2 t3.size
    replace b1 := b1.below t3
    replace b3 := b3.below t3
    replace b4 := b4.below t3
    replace b5 := b5.below t3
    replace t3 := t2.trans (t3.mono (Nat.le_trans (Nat.le_of_lt hg11) hbz2))
    obtain ⟨k0, k1⟩ := b3.two
    go_upto_region 11 with (fail)
    go_cut [64] from 53 to 63 (fun s wx => s = .bool (!decide (kind = 0 ∨ pass = true ∧ kind = 1)) ∧ wx = wc)
    case first =>
      by_cases h0 : kind = 0
      · have e0 : (kind == 0) = true := by simpa using h0
        have e0' : (kind != 0) = false := by simpa using h0
        have HD := hide (show decide (kind = 0 ∨ pass = true ∧ kind = 1) = true by simp [h0])
        clear h0
        go_wp2_with fail
        go_meet
        exact ⟨by rw [HD.out]; rfl, rfl⟩
      · have e0 : (kind == 0) = false := by simpa using h0
        have e0' : (kind != 0) = true := by simpa using h0
        rcases pass with _ | _
        · have HD := hide (show decide (kind = 0 ∨ false = true ∧ kind = 1) = false by simp [h0])
          clear h0
          go_wp2_with fail
          go_meet
          exact ⟨by rw [HD.out]; rfl, rfl⟩
        · by_cases h1 : kind = 1
          · have e1 : (kind == 1) = true := by simpa using h1
            have HD := hide (show decide (kind = 0 ∨ true = true ∧ kind = 1) = true by simp [h1])
            clear h0 h1
            go_wp2_with fail
            go_meet
            exact ⟨by rw [HD.out]; rfl, rfl⟩
          · have e1 : (kind == 1) = false := by simpa using h1
            have HD := hide (show decide (kind = 0 ∨ true = true ∧ kind = 1) = false by simp [h0, h1])
            clear h0 h1
            go_wp2_with fail
            go_meet
            exact ⟨by rw [HD.out]; rfl, rfl⟩
    case rest =>
      obtain ⟨rfl, rfl⟩ := hcut
      clear k0 k1
      obtain ⟨k0, k1⟩ := b3.two
      obtain ⟨K', hK'⟩ : ∃ k, k = respK pass kind minor := ⟨_, rfl⟩
      obtain ⟨N', hN'⟩ : ∃ k, k = respN pass kind len := ⟨_, rfl⟩
      rw [← hK'] at HRF
      have HKE := hide hK'
      have HNE := hide hN'
      have hKK := hK'
      have hNN := hN'
      unfold respK at hKK
      unfold respN at hNN
      have HKK := hide hKK
      have HNN := hide hNN
      clear hK' hN' hKK hNN
      obtain ⟨X, hX⟩ : ∃ l, l = (if ¬ (kind = 0 ∨ pass = true ∧ kind = 1) ∧ minor = 1 then [chunkF] else []) := ⟨_, rfl⟩
      rw [← hX, ← HGT.out] at HRF
      have HX := hide hX
      have hxl : X.length ≤ 1 := by rw [HX.out]; split <;> simp
      clear hX HGT HL
      obtain ⟨f0, f1⟩ := b3.free2
      have hgg : g ≤ g + 1 := by omega
      have hap2 : (Value.slice A3 n3 c3).ownBlock ≠ some (g + 1) := ow_apart o3 (by omega)
      obtain ⟨c1, hc1⟩ : ∃ b, b = decide (kind = 0 ∨ pass = true ∧ kind = 1) := ⟨_, rfl⟩
      rw [← hc1]
      have HC1 := hide hc1
      clear hc1
      go_upto_if 64 with (fail)
      go_cut [14] from 65 to 70 (fun s wx => Lst gb s wx (gt ++ X) ∧ Box wx (g + 1) [.int .i64 K', .int .i64 N'] ∧ Box wx g [.int .i64 minor0, .int .i64 status, .string s_, .slice A n c] ∧ Box wx (g + 1 + 1) [.int .i64 0, .int .i64 0, .string ⟨#[]⟩, .slice none 0 0] ∧ Box wx (g + 1 + 1 + 1) [.int .i64 0, .int .i64 0] ∧ Below g w wx ∧ gb ≤ wx.heap.size)
      case first =>
        rcases c1 with _ | _
        · have hc : ¬ (kind = 0 ∨ pass = true ∧ kind = 1) := of_decide_eq_false HC1.out.symm
          have hk := HKK.out
          have hn' := HNN.out
          rw [if_neg hc] at hk hn'
          by_cases hm : minor = 1
          · have hx := HX.out
            rw [if_pos ⟨hc, hm⟩] at hx
            rw [if_pos hm] at hk
            have hme : (minor == 1) = true := by simpa using hm
            subst hk hn' hx
            clear hc hm HKK HNN HX HC1 HKE HNE HRF
            go_upto_region 14 with (fail)
            have b1' := b1.far2 (g' := g + 1) (by omega) (.int .i64 2) (.int .i64 0)
            have b3' := b3.fill2 (.int .i64 2) (.int .i64 0)
            have b4' := b4.far2 (g' := g + 1) (by omega) (.int .i64 2) (.int .i64 0)
            have b5' := b5.far2 (g' := g + 1) (by omega) (.int .i64 2) (.int .i64 0)
            have o3' := o3.far2 hap2 (.int .i64 2) (.int .i64 0)
            have t3' := below_fill2 t3 hgg (.int .i64 2) (.int .i64 0)
            change Box ((wc.setCell ⟨g + 1, 0, none⟩ (.int .i64 2)).setCell ⟨g + 1, 1, none⟩ (.int .i64 0)) _ _ at b1' b3' b4' b5'
            change Ow ((wc.setCell ⟨g + 1, 0, none⟩ (.int .i64 2)).setCell ⟨g + 1, 1, none⟩ (.int .i64 0)) _ _ _ _ _ at o3'
            change Below g w ((wc.setCell ⟨g + 1, 0, none⟩ (.int .i64 2)).setCell ⟨g + 1, 1, none⟩ (.int .i64 0)) at t3'
            clear b1 b3 b4 b5 o3 t3 f0 f1 k0 k1
            have hgz : gb ≤ ((wc.setCell ⟨g + 1, 0, none⟩ (.int .i64 2)).setCell ⟨g + 1, 1, none⟩ (.int .i64 0)).heap.size := by simpa [World.setCell] using hgbz
            generalize (wc.setCell ⟨g + 1, 0, none⟩ (.int .i64 2)).setCell ⟨g + 1, 1, none⟩ (.int .i64 0) = w4 at b1' b3' b4' b5' o3' t3' hgz ⊢
            go_wp2_with fail
            refine (and_any A3 n3 c3 _ gt ⟨#[84, 114, 97, 110, 115, 102, 101, 114, 45, 69, 110, 99, 111, 100, 105, 110, 103]⟩ ⟨#[99, 104, 117, 110, 107, 101, 100]⟩ w4 o3'.rd (Nat.le_refl _) (by omega)).mono ?_
            rintro e w5 ⟨A5, c5, rfl, o5, hc5, k5⟩
            go_wp2_with fail
            go_meet
            exact ⟨⟨A5, n3 + 1, c5, rfl, o5.base_ hgz, hc5⟩, b3'.below k5, b1'.below k5, b4'.below k5, b5'.below k5, t3'.trans (k5.mono (by have := b1'.1; omega)), Nat.le_trans hgz k5.size⟩
          · have hx := HX.out
            rw [if_neg (fun h => hm h.2)] at hx
            rw [if_neg hm] at hk
            have hme : (minor == 1) = false := by simpa using hm
            subst hk hn' hx
            clear hc hm HKK HNN HX HC1 HKE HNE HRF
            go_wp2_with fail
            go_meet
            exact ⟨⟨A3, n3, c3, rfl, by rw [List.append_nil]; exact o3.far2 hap2 _ _, hc3⟩, b3.fill2 _ _, b1.far2 (g' := g + 1) (by omega) _ _, b4.far2 (g' := g + 1) (by omega) _ _, b5.far2 (g' := g + 1) (by omega) _ _, below_fill2 t3 hgg _ _, by simpa [World.setCell] using hgbz⟩
        · have hc : kind = 0 ∨ pass = true ∧ kind = 1 := of_decide_eq_true HC1.out.symm
          have hk := HKK.out
          have hn' := HNN.out
          have hx := HX.out
          rw [if_pos hc] at hk hn'
          rw [if_neg (fun h => h.1 hc)] at hx
          subst hk hn' hx
          clear hc HKK HNN HX HC1 HKE HNE HRF
          go_wp2_with fail
          go_meet
          exact ⟨⟨A3, n3, c3, rfl, by rw [List.append_nil]; exact o3, hc3⟩, b3, b1, b4, b5, t3, hgbz⟩
      case rest =>
        obtain ⟨⟨A4, n4, c4, rfl, o4, hc4⟩, b3', b1', b4', b5', t4, hgz4⟩ := hcut
        have hl4 := ow_flen o4
        rw [List.length_append, ow_flen o3] at hl4
        clear b1 b3 b4 b5 t3 o3 hgbz k0 k1 hap2 HX HKK HNN
        obtain ⟨Y, hY⟩ : ∃ l, l = (if keep = false ∨ K' = 3 then [closeF] else []) := ⟨_, rfl⟩
        rw [← hY] at HRF
        obtain ⟨Z, hZ⟩ : ∃ l, l = gt ++ X := ⟨_, rfl⟩
        rw [← hZ] at o4 HRF
        have HY := hide hY
        obtain ⟨k0, k1⟩ := b3'.two
        clear hY hZ
        go_upto_region 16 with (fail)
        go_cut [77] from 71 to 76 (fun s wx => s = .bool (decide (keep = false ∨ K' = 3)) ∧ wx = wc)
        case first =>
          rcases keep with _ | _
          · have HD := hide (show decide (false = false ∨ K' = 3) = true by simp)
            go_wp2_with fail
            go_meet
            exact ⟨by rw [HD.out], rfl⟩
          · by_cases h3 : K' = 3
            · have e3 : (K' == 3) = true := by simpa using h3
              have HD := hide (show decide (true = false ∨ K' = 3) = true by simp [h3])
              clear h3
              go_wp2_with fail
              go_meet
              exact ⟨by rw [HD.out], rfl⟩
            · have e3 : (K' == 3) = false := by simpa using h3
              have HD := hide (show decide (true = false ∨ K' = 3) = false by simp [h3])
              clear h3
              go_wp2_with fail
              go_meet
              exact ⟨by rw [HD.out], rfl⟩
        case rest =>
          obtain ⟨rfl, rfl⟩ := hcut
          obtain ⟨c1, hc1⟩ : ∃ b, b = decide (keep = false ∨ K' = 3) := ⟨_, rfl⟩
          rw [← hc1]
          have HC1 := hide hc1
          clear hc1 k0 k1
          go_upto_if 77 with (fail)
          go_cut [14] from 78 to 79 (fun s wx => Lst gb s wx (Z ++ Y) ∧ Below wc.heap.size wc wx)
          case first =>
            rcases c1 with _ | _
            · have hy := HY.out
              rw [if_neg (of_decide_eq_false HC1.out.symm)] at hy
              subst hy
              clear HY HC1 HRF
              go_wp2_with fail
              go_meet
              exact ⟨⟨A4, n4, c4, rfl, by rw [List.append_nil]; exact o4, hc4⟩, Below.refl _ _⟩
            · have hy := HY.out
              rw [if_pos (of_decide_eq_true HC1.out.symm)] at hy
              subst hy
              clear HY HC1 HRF
              go_wp2_with fail
              refine (and_any A4 n4 c4 _ Z ⟨#[67, 111, 110, 110, 101, 99, 116, 105, 111, 110]⟩ ⟨#[99, 108, 111, 115, 101]⟩ wc o4.rd (Nat.le_refl _) (by omega)).mono ?_
              rintro e w5 ⟨A5, c5, rfl, o5, hc5, k5⟩
              go_wp2_with fail
              go_meet
              exact ⟨⟨A5, n4 + 1, c5, rfl, o5.base_ hgz4, hc5⟩, k5⟩
          case rest =>
            obtain ⟨⟨A5, n5, c5, rfl, o5, hc5⟩, t5⟩ := hcut
            replace b1' := b1'.below t5
            replace b3' := b3'.below t5
            replace b4' := b4'.below t5
            replace b5' := b5'.below t5
            replace t5 := t4.trans (t5.mono (by omega))
            clear o4 t4 HY HC1
            have a2 := ow_apart o5 (show g + 1 + 1 < gb by omega)
            have a3 := ow_apart o5 (show g + 1 + 1 + 1 < gb by omega)
            obtain ⟨b1, b3, b4, b5, t6, o6⟩ := (⟨b1', b3', b4', b5', t5, o5⟩ : _ ∧ _ ∧ _ ∧ _ ∧ _ ∧ _)
            clear b1' b3' b4' b5' t5 o5
            obtain ⟨w6, hw6⟩ : ∃ x, x = wc := ⟨_, rfl⟩
            subst hw6
            obtain ⟨c0, c1, c2, c3⟩ := b1.four
            obtain ⟨k0, k1⟩ := b3.two
            obtain ⟨d0, d1, d2, d3⟩ := b4.four
            obtain ⟨f0, f1, f2, f3⟩ := b4.free4
            obtain ⟨e0, e1⟩ := b5.two
            obtain ⟨h0, h1⟩ := b5.free2
            go_upto_region 18 with (fail)
            go_region
            have r1 := box_drew ((b4.fill4 (.int .i64 1) (.int .i64 status) (.string s_) (.slice A5 n5 c5)).far2 (g' := g + 1 + 1 + 1) (by omega) (.int .i64 K') (.int .i64 N'))
            have r2 := box_drew ((b5.far4 (g' := g + 1 + 1) (by omega) (.int .i64 1) (.int .i64 status) (.string s_) (.slice A5 n5 c5)).fill2 (.int .i64 K') (.int .i64 N'))
            have r3 := ow_drew (((o6.far4 a2 (.int .i64 1) (.int .i64 status) (.string s_) (.slice A5 n5 c5)).far2 a3 (.int .i64 K') (.int .i64 N')).base_ (Nat.le_of_lt hg11))
            have r4 := below_drewN (k := 1) (below_fill2 (below_fill4 t6 (show g ≤ g + 1 + 1 by omega) (.int .i64 1) (.int .i64 status) (.string s_) (.slice A5 n5 c5)) (show g ≤ g + 1 + 1 + 1 by omega) (.int .i64 K') (.int .i64 N'))
            change Below g w (fill2 (fill4 w6 (g + 1 + 1) (.int .i64 1) (.int .i64 status) (.string s_) (.slice A5 n5 c5)) (g + 1 + 1 + 1) (.int .i64 K') (.int .i64 N')).drew at r4
            clear b1 b3 b4 b5 o6 t6 c0 c1 c2 c3 k0 k1 d0 d1 d2 d3 f0 f1 f2 f3 e0 e1 h0 h1
            change _ at r1
            have hw7 : ((((((w6.setCell ⟨g + 1 + 1, 0, none⟩ (.int .i64 1)).setCell ⟨g + 1 + 1, 1, none⟩ (.int .i64 status)).setCell ⟨g + 1 + 1, 2, none⟩ (.string s_)).setCell ⟨g + 1 + 1, 3, none⟩ (.slice A5 n5 c5)).setCell ⟨g + 1 + 1 + 1, 0, none⟩ (.int .i64 K')).setCell ⟨g + 1 + 1 + 1, 1, none⟩ (.int .i64 N')).drew = (fill2 (fill4 w6 (g + 1 + 1) (.int .i64 1) (.int .i64 status) (.string s_) (.slice A5 n5 c5)) (g + 1 + 1 + 1) (.int .i64 K') (.int .i64 N')).drew := rfl
            rw [hw7]
            generalize (fill2 (fill4 w6 (g + 1 + 1) (.int .i64 1) (.int .i64 status) (.string s_) (.slice A5 n5 c5)) (g + 1 + 1 + 1) (.int .i64 K') (.int .i64 N')).drew = w7 at r1 r2 r3 r4 ⊢
            clear hw7
            go_wp2
            refine bodyPost_ret (v := .tuple #[.agg #[.int .i64 1, .int .i64 status, .string s_, .slice A5 n5 c5], .agg #[.int .i64 K', .int .i64 N']]) (results_rsf Tryd.results24 _ w7 _ _ _ _ _ _ _ _ r1 r2 rfl rfl) rfl ?_
            refine ⟨A5, n5, c5, by rw [← HKE.out, ← HNE.out], ?_, hc5, ?_⟩
            · rw [HRF.out, ← HG.out]
              exact r3
            · rw [← HG.out]
              exact r4
end Go.Proofs.YtgdjlmpfjmakkaaDoor
