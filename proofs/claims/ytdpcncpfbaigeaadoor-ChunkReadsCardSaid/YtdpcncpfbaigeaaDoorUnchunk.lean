/- The reference's Unchunk: its walk. -/
import Derived.Test.YtdpcncpfbaigeaaDoorUnchSpec
import Derived.Test.YtdpcncpfbaigeaaDoorRefFields
import Derived.Test.YtdpcncpfbaigeaaDoorOwn
namespace Go.Proofs.YtdpcncpfbaigeaaDoor
open Go.RowKit
set_option linter.unusedVariables false
set_option linter.unusedSimpArgs false

theorem good_x {r : List UInt8} (hl : r.length ≤ 4000) : goodValueL ([120] ++ r ++ [120]) = plainL r := by
  rcases hv : r.all valueB with _ | _
  · rw [plainL_of hv]
    unfold goodValueL
    rw [List.all_append, List.all_append, hv]
    simp
  · rw [plainL_of hv]; exact ext_good hv hl
theorem hexI_yes {c : UInt8} (h : hexB c = true) : hexI c = hexV c := by unfold hexI; rw [h]; rfl
theorem hexI_no {c : UInt8} (h : hexB c = false) : hexI c = -1 := by unfold hexI; rw [h]; rfl
set_option maxRecDepth 100000 in
set_option maxHeartbeats 12800000 in
theorem unchunk_any (A : Option Addr) (n c B : Nat) (bs : List UInt8) (w : World) (h : Rd w B 1 A n (bcells bs)) (hB : B ≤ w.heap.size) (hn : n ≤ 100000) :
    Calls Tryd.prog 15 #[.slice A n c] w fun e w' => ∃ (out : List UInt8) (A' : Option Addr) (c' used en : Nat), e = .returned (.tuple #[.slice A' out.length c', .int .i64 used, .int .i64 en]) ∧ Told bs out used en ∧ Ow w' w.heap.size 1 (.slice A' out.length c') out.length (bcells out) ∧ Below w.heap.size w w' := by
  have hlen : bs.length = n := by have := h.1; rw [bcells_length] at this; omega
  obtain ⟨i0, hi0, hz0, hz1, hz2⟩ := info_parts infoU8b
  obtain ⟨g, hg⟩ : ∃ g, w.heap.size = g := ⟨_, rfl⟩
  have HL := hide hlen
  clear hlen
  rw [hg]
  go_enter Tryd.func15, Tryd.ntmps15
  go_wp2_with fail
  go_loopw [5, 6] (fun b i wr => ∃ (o m : Nat) (A' : Option Addr) (c' : Nat) (out : List UInt8), b = .slice A' m c' ∧ i = .int .i64 o ∧ out.length = m ∧ o ≤ n ∧ m ≤ o ∧ Goes bs out o 0 0 0 ∧ Ow wr g 1 (.slice A' m c') m (bcells out) ∧ Below g w wr) (fun _ i _ => n - (intOf i).toNat)
  case atStart => exact ⟨0, 0, none, 0, [], rfl, rfl, rfl, Nat.zero_le _, Nat.le_refl _, fun O F hr => hr, Ow.nil_, Below.refl _ _⟩
  case round =>
    obtain ⟨o, m, A', c', out, rfl, rfl, hm, ho, hmo, hgo, hown, hb⟩ := hrel
    obtain ⟨wo, hwo⟩ : ∃ wo, wo = wr := ⟨_, rfl⟩
    subst hwo
    have hgz : g ≤ wo.heap.size := hg ▸ hb.size
    have HM := hide hm
    have HGO := hide hgo
    clear hm hgo
    have q1 := refline_any A n c B o bs wo (h.below (hb.mono (by omega))) hn ho
    have hpos := lineR_at o (bs := bs) rfl (l := bs.drop o)
    obtain ⟨P, hP⟩ : ∃ x, x = lineP o (bs.drop o) := ⟨_, rfl⟩
    obtain ⟨E, hE⟩ : ∃ x, x = lineE (bs.drop o) := ⟨_, rfl⟩
    obtain ⟨t, ht⟩ : ∃ x, x = lineT (bs.drop o) := ⟨_, rfl⟩
    obtain ⟨s, hs⟩ : ∃ x : ByteArray, x = ⟨t.toArray⟩ := ⟨_, rfl⟩
    rw [← hP, ← hE, ← ht, ← hs] at q1
    rw [← hP, ← hE] at hpos
    have htl' : t.length ≤ 1022 := by rw [ht]; exact lineT_len _
    have hsl : s.data.toList = t := by rw [hs]
    have hss : s.size = t.length := by rw [size_of, hsl]
    have hget : ∀ (i : Nat) (hi : i < s.size) (hj : i < t.length), s[i] = t[i] := fun i hi hj => by subst hs; rfl
    have HP := hide hP
    have HE := hide hE
    have HT := hide ht
    have HSL := hide hsl
    have HGET := hide hget
    have HSS := hide hss
    have hs63 : s.size ≤ 1022 := by omega
    clear hP hE ht hs hsl hget hss
    by_cases hE0 : E = 0
    · subst hE0
      obtain ⟨-, hPn, hoP⟩ := hpos rfl
      rw [HL.out] at hPn
      go_wp2_with fail
      refine q1.mono ?_
      rintro e w1 ⟨rfl, hw1⟩
      obtain rfl : wo = w1 := hw1.symm
      go_wp2_with fail
      go_loopw [10, 11] (fun kk nn wx => ∃ k N : Nat, kk = .int .i64 k ∧ nn = .int .i64 N ∧ k ≤ s.size ∧ (∀ i (hi : i < t.length), i < k → hexB t[i] = true) ∧ N = hexN (t.take (min k 12)) ∧ N < 16 ^ (min k 12) ∧ wx = wo) (fun kk _ _ => s.size - (intOf kk).toNat)
      case atStart => exact ⟨0, 0, rfl, rfl, Nat.zero_le _, fun i _ h => absurd h (Nat.not_lt_zero _), rfl, by decide, rfl⟩
      case round =>
        obtain ⟨k, N, rfl, rfl, hk, hhex, hN, hNb, hww⟩ := hrel
        obtain rfl : wo = wr := hww.symm
        have hN12 : N < 281474976710656 := Nat.lt_of_lt_of_le hNb (by
          have : 16 ^ (min k 12) ≤ 16 ^ 12 := Nat.pow_le_pow_right (by decide) (by omega)
          exact this)
        have HHEX := hide hhex
        have HN := hide hN
        have HNB := hide hNb
        clear hhex hN hNb
        have BADEND : Hid (∀ (w' : World), True) := hide fun _ => trivial
        clear BADEND
        have hk1022 : k ≤ 1022 := by omega
        by_cases hks : k < s.size
        · have hks' : (k : Int) < (s.size : Int) := by omega
          have hg1 := HGET.out k hks (by have := HSS.out; omega)
          obtain ⟨b, hbb⟩ : ∃ b, s[k] = b := ⟨_, rfl⟩
          rw [hbb] at hg1
          have q2 := refhex_any b wo
          rcases hx : hexB b with _ | _
          · rw [hexI_no hx] at q2
            have HX := hide hx
            have HG1 := hide hg1
            clear hx hg1
            go_wp2_with fail
            refine q2.mono ?_
            rintro e w2 ⟨rfl, hw2⟩
            obtain rfl : wo = w2 := hw2.symm
            have hkk : sizeK t = k := sizeK_at (fun j hj hjk => HHEX.out j hj hjk) (by have := HSS.out; omega) (fun hj => by rw [← HG1.out]; exact HX.out)
            have hne : ¬ k = s.size := by omega
            clear q1 q2
            have hsr : sizeR t = t.drop k := by unfold sizeR; rw [hkk]
            have hSO : sizeOk t = (extOk (t.drop k) && (decide (1 ≤ k ∧ k ≤ 12) && (plainL (t.drop k) && decide (sizeN t ≤ 1099511627776)))) := by
              unfold sizeOk; rw [hsr, hkk, good_x (by rw [List.length_drop]; omega)]
            have hSN : k ≤ 12 → sizeN t = N := fun h => by unfold sizeN; rw [hkk, HN.out, show min k 12 = k by omega]
            have BAD : Hid (sizeOk t = false → Told bs out 0 2) := hide fun hb => Goes.size_bad HGO.out HE.out.symm (by rw [← HT.out]; exact hb)
            have GOOD : Hid (sizeOk t = true → Goes bs out P (if N = 0 then 3 else 1) N 0) := hide fun hb => by
              have hk12 : k ≤ 12 := by
                rw [hSO] at hb; simp only [Bool.and_eq_true, decide_eq_true_eq] at hb; exact hb.2.1.2
              have := Goes.size_good HGO.out HE.out.symm (by rw [← HT.out]; exact hb)
              rw [← HP.out, ← HT.out, hSN hk12] at this
              exact this
            have hsd : (s.extract k s.size).data.toList = t.drop k := by
              rw [show (s.extract k s.size).data.toList = s.data.toList.drop k by simp; exact List.take_of_length_le (by rw [List.length_drop, ← size_of]; exact Nat.le_refl _), HSL.out]
            have q3 := plain_any (s.extract k s.size) wo (by rw [ByteArray.size_extract]; omega)
            rw [hsd] at q3
            have HSO := hide hSO
            have HSN := hide hSN
            have hdr : t.drop k = b :: t.drop (k + 1) := by rw [List.drop_eq_getElem_cons (by have := HSS.out; omega), ← HG1.out]
            have hek : extOk (t.drop k) = extB b := by rw [hdr]; rfl
            have HEK := hide hek
            clear hdr hek
            clear hsr hSO hSN hsd hkk
            obtain ⟨pl, hpl⟩ : ∃ x, x = plainL (t.drop k) := ⟨_, rfl⟩
            rw [← hpl] at q3
            have HPL := hide hpl
            clear hpl
            go_upto_region 12 with (fail)
            go_cut [92] from 52 to 92 (fun v wx => v = .bool (!sizeOk t) ∧ wx = wo)
            case first =>
              by_cases h1 : k < 1
              · have i1 : (k : Int) < 1 := by omega
                have told := hide (show sizeOk t = false by rw [HSO.out, decide_eq_false (p := 1 ≤ k ∧ k ≤ 12) (by omega)]; simp)
                clear q3 h1
                go_wp2_with fail
                go_meet
                exact ⟨congrArg Value.bool (by rw [told.out]; rfl), rfl⟩
              have i1 : ¬ (k : Int) < 1 := by omega
              by_cases h2 : 12 < k
              · have i2 : (12 : Int) < (k : Int) := by omega
                have told := hide (show sizeOk t = false by rw [HSO.out, decide_eq_false (p := 1 ≤ k ∧ k ≤ 12) (by omega)]; simp)
                clear q3
                go_wp2_with fail
                go_meet
                exact ⟨congrArg Value.bool (by rw [told.out]; rfl), rfl⟩
              have i2 : ¬ (12 : Int) < (k : Int) := by omega
              by_cases h3 : 1099511627776 < N
              · have i3 : (1099511627776 : Int) < (N : Int) := by omega
                have told := hide (show sizeOk t = false by rw [HSO.out, HSN.out (by omega), decide_eq_false (p := N ≤ 1099511627776) (by omega)]; simp)
                clear q3
                go_wp2_with fail
                go_meet
                exact ⟨congrArg Value.bool (by rw [told.out]; rfl), rfl⟩
              have i3 : ¬ (1099511627776 : Int) < (N : Int) := by omega
              have HSO2 := hide (show sizeOk t = (extOk (t.drop k) && pl) by rw [HSO.out, HSN.out (by omega), decide_eq_true (p := 1 ≤ k ∧ k ≤ 12) (by omega), decide_eq_true (p := N ≤ 1099511627776) (by omega), HPL.out]; simp)
              rcases hxb : extB b with _ | _
              · have fs : ((b.toNat : Int) != 59) = true ∧ ((b.toNat : Int) != 32) = true ∧ ((b.toNat : Int) != 9) = true := by
                  unfold extB at hxb
                  simp only [Bool.or_eq_false_iff, beq_eq_false_iff_ne] at hxb
                  refine ⟨?_, ?_, ?_⟩ <;> (rw [bne_iff_ne]; intro e)
                  · exact hxb.1 (UInt8.toNat_inj.1 (by simp; omega))
                  · exact hxb.2.1 (UInt8.toNat_inj.1 (by simp; omega))
                  · exact hxb.2.2 (UInt8.toNat_inj.1 (by simp; omega))
                obtain ⟨f1, f2, f3⟩ := fs
                have told := hide (show sizeOk t = false by rw [HSO2.out, HEK.out, hxb]; rfl)
                clear q3 hxb
                go_wp2_with fail
                go_meet
                exact ⟨congrArg Value.bool (by rw [told.out]; rfl), rfl⟩
              · have fs : ((b.toNat : Int) != 59) = false ∨ (((b.toNat : Int) != 59) = true ∧ ((b.toNat : Int) != 32) = false) ∨ (((b.toNat : Int) != 59) = true ∧ ((b.toNat : Int) != 32) = true ∧ ((b.toNat : Int) != 9) = false) := by
                  unfold extB at hxb
                  simp only [Bool.or_eq_true, beq_iff_eq] at hxb
                  rcases hxb with h | h | h <;> subst h <;> decide
                have hex2 := HEK.out.trans hxb
                have HEX := hide hex2
                clear hxb hex2
                rcases fs with f1 | ⟨f1, f2⟩ | ⟨f1, f2, f3⟩
                all_goals
                  rcases pl with _ | _
                  · have told := hide (show sizeOk t = false by rw [HSO2.out]; simp)
                    go_wp2_with fail
                    refine q3.mono ?_
                    rintro e w3 ⟨rfl, rfl⟩
                    go_wp2_with fail
                    go_meet
                    exact ⟨congrArg Value.bool (by rw [told.out]; rfl), rfl⟩
                  · have told := hide (show sizeOk t = true by rw [HSO2.out, HEX.out]; rfl)
                    go_wp2_with fail
                    refine q3.mono ?_
                    rintro e w3 ⟨rfl, rfl⟩
                    go_wp2_with fail
                    go_meet
                    exact ⟨congrArg Value.bool (by rw [told.out]; rfl), rfl⟩
            case rest =>
              obtain ⟨rfl, hwc⟩ := hcut
              obtain rfl : wo = wc := hwc.symm
              clear q3
              rcases hsz : sizeOk t with _ | _
              · have told := hide (BAD.out hsz)
                clear hsz
                go_wp2_with fail
                go_ret3
                obtain rfl := HM.out
                exact ⟨out, _, _, 0, 2, rfl, told.out, hown, hb⟩
              · have HGOOD := hide (GOOD.out hsz)
                clear hsz GOOD BAD HSO HSN HGO
                by_cases hN0 : N = 0
                · have HGT := hide (show Goes bs out P 3 0 0 by have := HGOOD.out; rw [hN0, if_pos rfl] at this; exact this)
                  clear HGOOD
                  have hN0' : (N : Int) = 0 := by omega
                  go_wp2_with fail
                  go_loopw [6, 13] (fun a cnt wx => ∃ (o2 fl : Nat), a = .int .i64 o2 ∧ cnt = .int .i64 fl ∧ o2 ≤ n ∧ fl ≤ 64 ∧ Goes bs out o2 3 0 fl ∧ Ow wx g 1 (.slice A' m c') m (bcells out) ∧ Below g w wx) (fun a _ _ => n - (intOf a).toNat)
                  case atStart => exact ⟨P, 0, rfl, rfl, hPn, by omega, HGT.out, hown, hb⟩
                  case round =>
                    obtain ⟨wp, hwp⟩ : ∃ wp, wp = wr := ⟨_, rfl⟩
                    subst hwp
                    obtain ⟨o2, fl, rfl, rfl, ho2, hfl, hg2, hown2, hb2⟩ := hrel
                    have HG2 := hide hg2
                    clear hg2 HGT hown hb hgz
                    have hgz2 : g ≤ wp.heap.size := hg ▸ hb2.size
                    have q1 := refline_any A n c B o2 bs wp (h.below (hb2.mono (by omega))) hn ho2
                    have hpos2 := lineR_at o2 (bs := bs) rfl (l := bs.drop o2)
                    obtain ⟨P2, hP2⟩ : ∃ x, x = lineP o2 (bs.drop o2) := ⟨_, rfl⟩
                    obtain ⟨E2, hE2⟩ : ∃ x, x = lineE (bs.drop o2) := ⟨_, rfl⟩
                    obtain ⟨t2, ht2⟩ : ∃ x, x = lineT (bs.drop o2) := ⟨_, rfl⟩
                    have htl2' : t2.length ≤ 1022 := by rw [ht2]; exact lineT_len _
                    obtain ⟨s2, hs2⟩ : ∃ x : ByteArray, x = ⟨t2.toArray⟩ := ⟨_, rfl⟩
                    rw [← hP2, ← hE2, ← ht2, ← hs2] at q1
                    rw [← hP2, ← hE2] at hpos2
                    have HP2 := hide hP2
                    have HE2 := hide hE2
                    have HT2 := hide ht2
                    have HS2 := hide hs2
                    clear hP2 hE2 ht2 hs2
                    by_cases hE20 : E2 = 0
                    · subst hE20
                      obtain ⟨-, hPn2, hoP2⟩ := hpos2 rfl
                      rw [HL.out] at hPn2
                      by_cases ht0 : t2 = []
                      · have hz : (s2.toList == []) = true := by rw [ByteArray.toList_eq, HS2.out, ht0]; rfl
                        have hz' : s2 = ⟨#[]⟩ := by rw [HS2.out, ht0]
                        have told := hide (show Told bs out P2 0 from HP2.out ▸ Goes.end_ HG2.out HE2.out.symm (HT2.out.symm.trans ht0))
                        subst hz'
                        clear ht0
                        go_wp2_with fail
                        refine q1.mono ?_
                        rintro e w1 ⟨rfl, hw1⟩
                        obtain rfl : wp = w1 := hw1.symm
                        go_wp2_with fail
                        go_ret3
                        obtain rfl := HM.out
                        exact ⟨out, _, _, P2, 0, rfl, told.out, hown2, hb2⟩
                      · have hz : (s2.toList == []) = false := by
                          rw [ByteArray.toList_eq, HS2.out, beq_eq_false_iff_ne]; exact ht0
                        have al : Below wp.heap.size wp (wp.alloc (.cells #[.string s2] 9)) := (Below.refl _ _).alloc (Nat.le_refl _) _
                        have rd : Rd (wp.alloc (.cells #[.string s2] 9)) (wp.heap.size + 1) 1 (some ⟨wp.heap.size, 0, none⟩) 1 (scells [t2]) :=
                          ⟨rfl, .inr ⟨_, rfl, Nat.lt_succ_self _, fun j u hu => by
                            rw [Addr.add_lit, cell_of_row _ wp.heap.size _ _ _ (0, 0) (heap_alloc_new wp _)]
                            show (#[Value.string s2] : Array Value)[0 + j]? = some u
                            rw [HS2.out, Nat.zero_add]; simpa [scells] using hu⟩⟩
                        have q4 := reffields_any (some ⟨wp.heap.size, 0, none⟩) 1 1 _ [t2] _ rd (by simp) (by decide) (fun l hl => by rw [List.mem_singleton.1 hl]; omega)
                        rw [show [t2].all lineOk = lineOk t2 by simp] at q4
                        have HT0 := hide ht0
                        clear rd ht0
                        rcases hok : lineOk t2 with _ | _
                        · rw [hok] at q4
                          have told := hide (Goes.fld_bad HG2.out HE2.out.symm (fun e => HT0.out (HT2.out.trans e)) (e := 2) (.inl ⟨by rw [← HT2.out]; exact hok, rfl⟩))
                          clear hok
                          go_wp2_with fail
                          refine q1.mono ?_
                          rintro e w1 ⟨rfl, hw1⟩
                          obtain rfl : wp = w1 := hw1.symm
                          go_wp2_with fail
                          refine q4.mono ?_
                          rintro e w3 ⟨A9, c9, rfl, -, b3⟩
                          have t3 := al.trans (b3.mono al.size)
                          have o3 := hown2.below t3
                          have b4 := hb2.trans (t3.mono hgz2)
                          clear q4 al b3 hown2 hb2
                          go_wp2_with fail
                          go_ret3
                          obtain rfl := HM.out
                          exact ⟨out, _, _, 0, 2, rfl, told.out, o3, b4⟩
                        · rw [hok] at q4
                          by_cases h64 : 64 ≤ fl
                          · have h64' : (64 : Int) ≤ (fl : Int) := by omega
                            have told := hide (Goes.fld_bad HG2.out HE2.out.symm (fun e => HT0.out (HT2.out.trans e)) (e := 6) (.inr ⟨by rw [← HT2.out]; exact hok, h64, rfl⟩))
                            clear hok
                            go_wp2_with fail
                            refine q1.mono ?_
                            rintro e w1 ⟨rfl, hw1⟩
                            obtain rfl : wp = w1 := hw1.symm
                            go_wp2_with fail
                            refine q4.mono ?_
                            rintro e w3 ⟨A9, c9, rfl, -, b3⟩
                            have t3 := al.trans (b3.mono al.size)
                            have o3 := hown2.below t3
                            have b4 := hb2.trans (t3.mono hgz2)
                            clear q4 al b3 hown2 hb2
                            go_wp2_with fail
                            go_ret3
                            obtain rfl := HM.out
                            exact ⟨out, _, _, 0, 6, rfl, told.out, o3, b4⟩
                          · have h64' : ¬ (64 : Int) ≤ (fl : Int) := by omega
                            have HGN := hide (show Goes bs out P2 3 0 (fl + 1) from HP2.out ▸ Goes.fld_good HG2.out HE2.out.symm (fun e => HT0.out (HT2.out.trans e)) (by rw [← HT2.out]; exact hok) h64)
                            clear hok
                            go_wp2_with fail
                            refine q1.mono ?_
                            rintro e w1 ⟨rfl, hw1⟩
                            obtain rfl : wp = w1 := hw1.symm
                            go_wp2_with fail
                            refine q4.mono ?_
                            rintro e w3 ⟨A9, c9, rfl, -, b3⟩
                            have t3 := al.trans (b3.mono al.size)
                            have o3 := hown2.below t3
                            have b4 := hb2.trans (t3.mono hgz2)
                            clear q4 al b3 hown2 hb2
                            go_wp2_with fail
                            go_roundw
                            case rel => exact ⟨P2, fl + 1, rfl, by go_num, hPn2, by omega, HGN.out, o3, b4⟩
                            case measure => simp [intOf]; omega
                    · have hne : ((E2 : Int) != 0) = true := by simp; omega
                      have told := hide (Goes.line_bad HG2.out (.inr rfl) HE2.out.symm hE20)
                      clear hpos2
                      go_wp2_with fail
                      refine q1.mono ?_
                      rintro e w1 ⟨rfl, hw1⟩
                      obtain rfl : wp = w1 := hw1.symm
                      go_wp2_with fail
                      go_ret3
                      obtain rfl := HM.out
                      exact ⟨out, _, _, 0, E2, rfl, told.out, hown2, hb2⟩
                · have HGD := hide (show Goes bs out P 1 N 0 by have := HGOOD.out; rw [if_neg hN0] at this; exact this)
                  clear HGOOD
                  have hN0' : ¬ (N : Int) = 0 := by omega
                  have hN0'' : ((N : Int) == 0) = false := by rw [beq_eq_false_iff_ne]; omega
                  go_wp2_with fail
                  go_loopw [5, 6, 12] (fun b a i wx => ∃ (j o2 m2 : Nat) (A2 : Option Addr) (c2 : Nat) (out2 : List UInt8), b = .slice A2 m2 c2 ∧ a = .int .i64 o2 ∧ i = .int .i64 j ∧ j ≤ N ∧ o2 = P + j ∧ o2 ≤ n ∧ out2 = out ++ (bs.drop P).take j ∧ out2.length = m2 ∧ m2 ≤ o2 ∧ Ow wx g 1 (.slice A2 m2 c2) m2 (bcells out2) ∧ Below g w wx) (fun _ _ i _ => N - (intOf i).toNat)
                  case atStart => exact ⟨0, P, m, A', c', out, rfl, rfl, rfl, by omega, rfl, hPn, by simp, HM.out, by omega, hown, hb⟩
                  case round =>
                    obtain ⟨wp, hwp⟩ : ∃ wp, wp = wr := ⟨_, rfl⟩
                    subst hwp
                    obtain ⟨j, o2, m2, A2, c2, out2, rfl, rfl, rfl, hj, ho2, ho2n, hout2, hm2, hm2o, hown2, hb2⟩ := hrel
                    have HO2 := hide ho2
                    have HOUT := hide hout2
                    have HM2 := hide hm2
                    clear ho2 hout2 hm2 hown hb hgz
                    have hgz2 : g ≤ wp.heap.size := hg ▸ hb2.size
                    have hr2 := h.below (hb2.mono (by omega))
                    by_cases hjN : j < N
                    · have hjN' : (j : Int) < (N : Int) := by omega
                      by_cases hat : n ≤ o2
                      · have hat' : (n : Int) ≤ (o2 : Int) := by omega
                        have hdl : (bs.drop P).length = j := by rw [List.length_drop, HL.out]; have := HO2.out; omega
                        have told := hide (show Told bs out2 0 5 by
                          have := Goes.data_short HGD.out (by rw [hdl]; exact hjN)
                          rw [HOUT.out, List.take_of_length_le (by omega)]; exact this)
                        clear hdl hr2
                        go_wp2_with fail
                        go_ret3
                        obtain rfl := HM2.out
                        exact ⟨out2, _, _, 0, 5, rfl, told.out, hown2, hb2⟩
                      · have hat' : ¬ (n : Int) ≤ (o2 : Int) := by omega
                        obtain ⟨a, hAa, hab, hcell⟩ := hr2.byte (k := o2) (by omega)
                        have hbl : o2 < bs.length := by have := HL.out; omega
                        have hc8 : wp.cell? (a.add o2) = some (.int .u8 ((bs[o2]'hbl).toNat : Int)) := by rw [hcell, List.getD_eq_getElem?_getD, List.getElem?_eq_getElem hbl]; rfl
                        obtain ⟨x, hx⟩ : ∃ x, x = bs[o2]'hbl := ⟨_, rfl⟩
                        rw [← hx] at hc8
                        have htk : out ++ (bs.drop P).take (j + 1) = out2 ++ [x] := by
                          have hjl : j < (bs.drop P).length := by rw [List.length_drop, HL.out]; have := HO2.out; omega
                          rw [list_take_snoc (bs.drop P) j hjl, ← List.append_assoc, ← HOUT.out, hx]
                          congr 1
                          rw [List.getElem_drop]
                          congr 2
                          exact HO2.out.symm
                        have HTK := hide htk
                        subst hAa
                        clear htk hcell hx hr2
                        go_wp2_with (at_builtin; refine wpl_push_ow rfl _ _ _ rfl g i0 _ 1 1 Tryd.underlying26 hi0 hz0 hz1 hz2 rfl (by omega) _ _ _ rfl _ rfl hown2 rfl (by simp [Value.oneCell']) (by unfold maxLen; omega) (by omega) hgz2 ?_; intro v1 w7 x1 x2 x3 x4)
                        go_roundw
                        case rel =>
                          obtain ⟨A3, c3, rfl, -⟩ := x1.shape
                          refine ⟨j + 1, o2 + 1, m2 + 1, A3, c3, out2 ++ [x], rfl, by go_num, by go_num, by omega, by have := HO2.out; omega, by omega, HTK.out.symm, by rw [List.length_append, HM2.out]; rfl, by omega, ?_, hb2.trans x2⟩
                          have e1 : bcells (out2 ++ [x]) = bcells out2 ++ [Value.int .u8 (x.toNat : Int)] := by unfold bcells; rw [List.map_append]; rfl
                          rw [e1]; exact x1
                        case measure => simp [intOf]; omega
                    · obtain rfl : j = N := by omega
                      have hjN' : ¬ (j : Int) < (j : Int) := by omega
                      have HGO2 := hide (show Goes bs out2 o2 2 0 0 by
                        have := Goes.data_good HGD.out hN0 (by rw [List.length_drop, HL.out]; have := HO2.out; omega)
                        rw [HOUT.out, HO2.out]; exact this)
                      have hd0 : (bs.drop o2)[0]? = bs[o2]? := by rw [List.getElem?_drop]; rfl
                      have hd1 : (bs.drop o2)[1]? = bs[o2 + 1]? := by rw [List.getElem?_drop]
                      have HD0 := hide hd0
                      have HD1 := hide hd1
                      clear hd0 hd1
                      have hdl : (bs.drop o2).length = n - o2 := by rw [List.length_drop, HL.out]
                      have HDL := hide hdl
                      clear hdl
                      by_cases c0 : o2 < n
                      · have c0' : (o2 : Int) < (n : Int) := by omega
                        obtain ⟨a, hAa, hab, hcell⟩ := hr2.byte (k := o2) (by omega)
                        have hbl : o2 < bs.length := by have := HL.out; omega
                        have hc8 : wp.cell? (a.add o2) = some (.int .u8 ((bs[o2]'hbl).toNat : Int)) := by rw [hcell, List.getD_eq_getElem?_getD, List.getElem?_eq_getElem hbl]; rfl
                        have hx0 : bs[o2]? = some (bs[o2]'hbl) := List.getElem?_eq_getElem hbl
                        obtain ⟨x, hx⟩ : ∃ x, x = bs[o2]'hbl := ⟨_, rfl⟩
                        rw [← hx] at hc8 hx0
                        have HX0 := hide (HD0.out.trans hx0)
                        clear hcell hx hx0
                        by_cases e13 : x = 13
                        · have f13 : ((x.toNat : Int) != 13) = false := by subst e13; rfl
                          have H13 := hide (show ∀ y, (bs.drop o2)[0]? = some y → y = 13 from fun y hy => by rw [HX0.out] at hy; cases hy; exact e13)
                          clear e13
                          by_cases c1 : o2 + 1 < n
                          · have c1' : (o2 : Int) + 1 < (n : Int) := by omega
                            obtain ⟨a2, hAa2, hab2, hcell2⟩ := hr2.byte (k := o2 + 1) (by omega)
                            obtain rfl : a = a2 := Option.some.inj (hAa.symm.trans hAa2)
                            have hbl2 : o2 + 1 < bs.length := by have := HL.out; omega
                            have hc9 : wp.cell? (a.add (o2 + 1)) = some (.int .u8 ((bs[o2 + 1]'hbl2).toNat : Int)) := by rw [hcell2, List.getD_eq_getElem?_getD, List.getElem?_eq_getElem hbl2]; rfl
                            have hx1 : bs[o2 + 1]? = some (bs[o2 + 1]'hbl2) := List.getElem?_eq_getElem hbl2
                            obtain ⟨y, hy⟩ : ∃ x, x = bs[o2 + 1]'hbl2 := ⟨_, rfl⟩
                            rw [← hy] at hc9 hx1
                            have HX1 := hide (HD1.out.trans hx1)
                            have hc9' : wp.cell? ⟨a.block, a.off + (o2 + 1), none⟩ = some (.int .u8 (y.toNat : Int)) := hc9
                            have hti : ((o2 : Int) + 1).toNat = o2 + 1 := by omega
                            have hw1 : IntKind.i64.wrap ((o2 : Int) + 1) = (o2 : Int) + 1 := by rw [IntKind.wrap_i64]; omega
                            have hp1 : (0 : Int) ≤ (o2 : Int) + 1 := by omega
                            clear hcell2 hy hx1
                            subst hAa
                            by_cases e10 : y = 10
                            · have f10 : ((y.toNat : Int) != 10) = false := by subst e10; rfl
                              have HGN := hide (Goes.over_good HGO2.out H13.out (fun z hz => by rw [HX1.out] at hz; cases hz; exact e10) (by rw [HDL.out]; omega))
                              have cc2 : ¬ (n : Int) < (o2 : Int) + 2 := by omega
                              clear e10 hr2
                              go_wp2_with fail
                              go_roundw
                              case rel => exact ⟨o2 + 2, m2, A2, c2, out2, rfl, by go_num, HM2.out, by omega, by omega, HGN.out, hown2, hb2⟩
                              case measure => simp [intOf]; have := HO2.out; omega
                            · have f10 : ((y.toNat : Int) != 10) = true := by
                                rw [bne_iff_ne]; intro e; apply e10; apply UInt8.toNat_inj.1; simp; omega
                              have told := hide (Goes.over_wrong HGO2.out (.inr ⟨y, HX1.out, e10⟩))
                              clear e10 hr2
                              go_wp2_with fail
                              go_ret3
                              obtain rfl := HM2.out
                              exact ⟨out2, _, _, 0, 2, rfl, told.out, hown2, hb2⟩
                          · have c1' : ¬ (o2 : Int) + 1 < (n : Int) := by omega
                            have cc2 : (n : Int) < (o2 : Int) + 2 := by omega
                            have told := hide (Goes.over_short HGO2.out H13.out (fun z hz => by
                              have := (List.getElem?_eq_some_iff.1 hz).1; rw [HDL.out] at this; omega) (by rw [HDL.out]; omega))
                            subst hAa
                            clear hr2
                            go_wp2_with fail
                            go_ret3
                            obtain rfl := HM2.out
                            exact ⟨out2, _, _, 0, 5, rfl, told.out, hown2, hb2⟩
                        · have f13 : ((x.toNat : Int) != 13) = true := by
                            rw [bne_iff_ne]; intro e; apply e13; apply UInt8.toNat_inj.1; simp; omega
                          have told := hide (Goes.over_wrong HGO2.out (.inl ⟨x, HX0.out, e13⟩))
                          subst hAa
                          clear e13 hr2
                          go_wp2_with fail
                          go_ret3
                          obtain rfl := HM2.out
                          exact ⟨out2, _, _, 0, 2, rfl, told.out, hown2, hb2⟩
                      · have c0' : ¬ (o2 : Int) < (n : Int) := by omega
                        have c1' : ¬ (o2 : Int) + 1 < (n : Int) := by omega
                        have cc2 : (n : Int) < (o2 : Int) + 2 := by omega
                        have told := hide (Goes.over_short HGO2.out (fun z hz => by
                            have := (List.getElem?_eq_some_iff.1 hz).1; rw [HDL.out] at this; omega) (fun z hz => by
                            have := (List.getElem?_eq_some_iff.1 hz).1; rw [HDL.out] at this; omega) (by rw [HDL.out]; omega))
                        clear hr2
                        go_wp2_with fail
                        go_ret3
                        obtain rfl := HM2.out
                        exact ⟨out2, _, _, 0, 5, rfl, told.out, hown2, hb2⟩
          · rw [hexI_yes hx] at q2
            have hvl : hexV b < 16 := hexV_lt hx
            obtain ⟨v, hv⟩ : ∃ v, v = hexV b := ⟨_, rfl⟩
            rw [← hv] at q2 hvl
            have hv0 : (0 : Int) ≤ (v : Int) := by omega
            have hhex' : Hid (∀ i (hi : i < t.length), i < k + 1 → hexB t[i] = true) := hide fun i hi hik => by
              rcases Nat.lt_or_ge i k with h1 | h1
              · exact HHEX.out i hi h1
              · obtain rfl : i = k := by omega
                rw [← hg1]; exact hx
            by_cases hk12 : k < 12
            · have hk12' : (k : Int) < 12 := by omega
              have htk : t.take (k + 1) = t.take k ++ [t[k]'(by have := HSS.out; omega)] := list_take_snoc t k (by have := HSS.out; omega)
              have hN2 : 16 * N + v = hexN (t.take (min (k + 1) 12)) := by
                rw [show min (k + 1) 12 = k + 1 by omega, htk, hexN_snoc, ← hg1, ← hv, HN.out, show min k 12 = k by omega]
              have hNb2 : 16 * N + v < 16 ^ (min (k + 1) 12) := by
                have := HNB.out
                rw [show min k 12 = k by omega] at this
                rw [show min (k + 1) 12 = k + 1 by omega, Nat.pow_succ]; omega
              have HN2 := hide hN2
              have HNB2 := hide hNb2
              have z1 : IntKind.i64.wrap (16 * (N : Int)) = ((16 * N : Nat) : Int) := by rw [IntKind.wrap_i64]; omega
              have z2 : IntKind.i64.wrap ((16 * N : Nat) + (v : Int)) = ((16 * N + v : Nat) : Int) := by rw [IntKind.wrap_i64]; omega
              clear hx hg1 hv htk hN2 hNb2
              go_wp2_with fail
              refine q2.mono ?_
              rintro e w2 ⟨rfl, hw2⟩
              obtain rfl : wo = w2 := hw2.symm
              go_wp2_with fail
              refine q2.mono ?_
              rintro e w2 ⟨rfl, hw2⟩
              obtain rfl : wo = w2 := hw2.symm
              go_wp2_with fail
              go_roundw
              case rel => exact ⟨k + 1, 16 * N + v, by go_num, by go_num, by omega, hhex'.out, HN2.out, HNB2.out, by first | rfl | trivial⟩
              case measure => simp [intOf]; omega
            · have hk12' : ¬ (k : Int) < 12 := by omega
              clear hx hg1 hv
              go_wp2_with fail
              refine q2.mono ?_
              rintro e w2 ⟨rfl, hw2⟩
              obtain rfl : wo = w2 := hw2.symm
              go_wp2_with fail
              go_roundw
              case rel => exact ⟨k + 1, N, by go_num, rfl, by omega, hhex'.out, by rw [HN.out, show min (k + 1) 12 = min k 12 by omega], by have := HNB.out; rw [show min (k + 1) 12 = min k 12 by omega]; exact this, by first | rfl | trivial⟩
              case measure => simp [intOf]; omega
        · have hks' : ¬ (k : Int) < (s.size : Int) := by omega
          have hkk : sizeK t = k := sizeK_at (fun j hj hjk => HHEX.out j hj hjk) (by have := HSS.out; omega) (fun hj => by have := HSS.out; omega)
          have hke : k = s.size := by omega
          clear q1
          have hsr : sizeR t = t.drop k := by unfold sizeR; rw [hkk]
          have hSO : sizeOk t = (extOk (t.drop k) && (decide (1 ≤ k ∧ k ≤ 12) && (plainL (t.drop k) && decide (sizeN t ≤ 1099511627776)))) := by
            unfold sizeOk; rw [hsr, hkk, good_x (by rw [List.length_drop]; omega)]
          have hSN : k ≤ 12 → sizeN t = N := fun h => by unfold sizeN; rw [hkk, HN.out, show min k 12 = k by omega]
          have BAD : Hid (sizeOk t = false → Told bs out 0 2) := hide fun hb => Goes.size_bad HGO.out HE.out.symm (by rw [← HT.out]; exact hb)
          have GOOD : Hid (sizeOk t = true → Goes bs out P (if N = 0 then 3 else 1) N 0) := hide fun hb => by
            have hk12 : k ≤ 12 := by
              rw [hSO] at hb; simp only [Bool.and_eq_true, decide_eq_true_eq] at hb; exact hb.2.1.2
            have := Goes.size_good HGO.out HE.out.symm (by rw [← HT.out]; exact hb)
            rw [← HP.out, ← HT.out, hSN hk12] at this
            exact this
          have hsd : (s.extract k s.size).data.toList = t.drop k := by
            rw [show (s.extract k s.size).data.toList = s.data.toList.drop k by simp; exact List.take_of_length_le (by rw [List.length_drop, ← size_of]; exact Nat.le_refl _), HSL.out]
          have q3 := plain_any (s.extract k s.size) wo (by rw [ByteArray.size_extract]; omega)
          rw [hsd] at q3
          have HSO := hide hSO
          have HSN := hide hSN
          have hdr : t.drop k = [] := List.drop_eq_nil_of_le (by have := HSS.out; omega)
          have HDR := hide hdr
          clear hdr
          have hkl : (k : Int) ≤ (s.size : Int) := by omega
          have HKE := hide hke
          clear hke
          clear hsr hSO hSN hsd hkk
          obtain ⟨pl, hpl⟩ : ∃ x, x = plainL (t.drop k) := ⟨_, rfl⟩
          rw [← hpl] at q3
          have HPL := hide hpl
          clear hpl
          go_upto_region 12 with (fail)
          go_cut [92] from 52 to 92 (fun v wx => v = .bool (!sizeOk t) ∧ wx = wo)
          case first =>
            by_cases h1 : k < 1
            · have i1 : (k : Int) < 1 := by omega
              have told := hide (show sizeOk t = false by rw [HSO.out, decide_eq_false (p := 1 ≤ k ∧ k ≤ 12) (by omega)]; simp)
              clear q3 h1
              go_wp2_with fail
              go_meet
              exact ⟨congrArg Value.bool (by rw [told.out]; rfl), rfl⟩
            have i1 : ¬ (k : Int) < 1 := by omega
            by_cases h2 : 12 < k
            · have i2 : (12 : Int) < (k : Int) := by omega
              have told := hide (show sizeOk t = false by rw [HSO.out, decide_eq_false (p := 1 ≤ k ∧ k ≤ 12) (by omega)]; simp)
              clear q3
              go_wp2_with fail
              go_meet
              exact ⟨congrArg Value.bool (by rw [told.out]; rfl), rfl⟩
            have i2 : ¬ (12 : Int) < (k : Int) := by omega
            by_cases h3 : 1099511627776 < N
            · have i3 : (1099511627776 : Int) < (N : Int) := by omega
              have told := hide (show sizeOk t = false by rw [HSO.out, HSN.out (by omega), decide_eq_false (p := N ≤ 1099511627776) (by omega)]; simp)
              clear q3
              go_wp2_with fail
              go_meet
              exact ⟨congrArg Value.bool (by rw [told.out]; rfl), rfl⟩
            have i3 : ¬ (1099511627776 : Int) < (N : Int) := by omega
            have HSO2 := hide (show sizeOk t = (extOk (t.drop k) && pl) by rw [HSO.out, HSN.out (by omega), decide_eq_true (p := 1 ≤ k ∧ k ≤ 12) (by omega), decide_eq_true (p := N ≤ 1099511627776) (by omega), HPL.out]; simp)
            have hex2 : extOk (t.drop k) = true := by rw [HDR.out]; rfl
            have HEX := hide hex2
            clear hex2
            rcases pl with _ | _
            · have told := hide (show sizeOk t = false by rw [HSO2.out]; simp)
              go_wp2_with fail
              refine q3.mono ?_
              rintro e w3 ⟨rfl, rfl⟩
              go_wp2_with fail
              go_meet
              exact ⟨congrArg Value.bool (by rw [told.out]; rfl), rfl⟩
            · have told := hide (show sizeOk t = true by rw [HSO2.out, HEX.out]; rfl)
              go_wp2_with fail
              refine q3.mono ?_
              rintro e w3 ⟨rfl, rfl⟩
              go_wp2_with fail
              go_meet
              exact ⟨congrArg Value.bool (by rw [told.out]; rfl), rfl⟩
          case rest =>
            obtain ⟨rfl, hwc⟩ := hcut
            obtain rfl : wo = wc := hwc.symm
            clear q3
            rcases hsz : sizeOk t with _ | _
            · have told := hide (BAD.out hsz)
              clear hsz
              go_wp2_with fail
              go_ret3
              obtain rfl := HM.out
              exact ⟨out, _, _, 0, 2, rfl, told.out, hown, hb⟩
            · have HGOOD := hide (GOOD.out hsz)
              clear hsz GOOD BAD HSO HSN HGO
              by_cases hN0 : N = 0
              · have HGT := hide (show Goes bs out P 3 0 0 by have := HGOOD.out; rw [hN0, if_pos rfl] at this; exact this)
                clear HGOOD
                have hN0' : (N : Int) = 0 := by omega
                go_wp2_with fail
                go_loopw [6, 13] (fun a cnt wx => ∃ (o2 fl : Nat), a = .int .i64 o2 ∧ cnt = .int .i64 fl ∧ o2 ≤ n ∧ fl ≤ 64 ∧ Goes bs out o2 3 0 fl ∧ Ow wx g 1 (.slice A' m c') m (bcells out) ∧ Below g w wx) (fun a _ _ => n - (intOf a).toNat)
                case atStart => exact ⟨P, 0, rfl, rfl, hPn, by omega, HGT.out, hown, hb⟩
                case round =>
                  obtain ⟨wp, hwp⟩ : ∃ wp, wp = wr := ⟨_, rfl⟩
                  subst hwp
                  obtain ⟨o2, fl, rfl, rfl, ho2, hfl, hg2, hown2, hb2⟩ := hrel
                  have HG2 := hide hg2
                  clear hg2 HGT hown hb hgz
                  have hgz2 : g ≤ wp.heap.size := hg ▸ hb2.size
                  have q1 := refline_any A n c B o2 bs wp (h.below (hb2.mono (by omega))) hn ho2
                  have hpos2 := lineR_at o2 (bs := bs) rfl (l := bs.drop o2)
                  obtain ⟨P2, hP2⟩ : ∃ x, x = lineP o2 (bs.drop o2) := ⟨_, rfl⟩
                  obtain ⟨E2, hE2⟩ : ∃ x, x = lineE (bs.drop o2) := ⟨_, rfl⟩
                  obtain ⟨t2, ht2⟩ : ∃ x, x = lineT (bs.drop o2) := ⟨_, rfl⟩
                  have htl2' : t2.length ≤ 1022 := by rw [ht2]; exact lineT_len _
                  obtain ⟨s2, hs2⟩ : ∃ x : ByteArray, x = ⟨t2.toArray⟩ := ⟨_, rfl⟩
                  rw [← hP2, ← hE2, ← ht2, ← hs2] at q1
                  rw [← hP2, ← hE2] at hpos2
                  have HP2 := hide hP2
                  have HE2 := hide hE2
                  have HT2 := hide ht2
                  have HS2 := hide hs2
                  clear hP2 hE2 ht2 hs2
                  by_cases hE20 : E2 = 0
                  · subst hE20
                    obtain ⟨-, hPn2, hoP2⟩ := hpos2 rfl
                    rw [HL.out] at hPn2
                    by_cases ht0 : t2 = []
                    · have hz : (s2.toList == []) = true := by rw [ByteArray.toList_eq, HS2.out, ht0]; rfl
                      have hz' : s2 = ⟨#[]⟩ := by rw [HS2.out, ht0]
                      have told := hide (show Told bs out P2 0 from HP2.out ▸ Goes.end_ HG2.out HE2.out.symm (HT2.out.symm.trans ht0))
                      subst hz'
                      clear ht0
                      go_wp2_with fail
                      refine q1.mono ?_
                      rintro e w1 ⟨rfl, hw1⟩
                      obtain rfl : wp = w1 := hw1.symm
                      go_wp2_with fail
                      go_ret3
                      obtain rfl := HM.out
                      exact ⟨out, _, _, P2, 0, rfl, told.out, hown2, hb2⟩
                    · have hz : (s2.toList == []) = false := by
                        rw [ByteArray.toList_eq, HS2.out, beq_eq_false_iff_ne]; exact ht0
                      have al : Below wp.heap.size wp (wp.alloc (.cells #[.string s2] 9)) := (Below.refl _ _).alloc (Nat.le_refl _) _
                      have rd : Rd (wp.alloc (.cells #[.string s2] 9)) (wp.heap.size + 1) 1 (some ⟨wp.heap.size, 0, none⟩) 1 (scells [t2]) :=
                        ⟨rfl, .inr ⟨_, rfl, Nat.lt_succ_self _, fun j u hu => by
                          rw [Addr.add_lit, cell_of_row _ wp.heap.size _ _ _ (0, 0) (heap_alloc_new wp _)]
                          show (#[Value.string s2] : Array Value)[0 + j]? = some u
                          rw [HS2.out, Nat.zero_add]; simpa [scells] using hu⟩⟩
                      have q4 := reffields_any (some ⟨wp.heap.size, 0, none⟩) 1 1 _ [t2] _ rd (by simp) (by decide) (fun l hl => by rw [List.mem_singleton.1 hl]; omega)
                      rw [show [t2].all lineOk = lineOk t2 by simp] at q4
                      have HT0 := hide ht0
                      clear rd ht0
                      rcases hok : lineOk t2 with _ | _
                      · rw [hok] at q4
                        have told := hide (Goes.fld_bad HG2.out HE2.out.symm (fun e => HT0.out (HT2.out.trans e)) (e := 2) (.inl ⟨by rw [← HT2.out]; exact hok, rfl⟩))
                        clear hok
                        go_wp2_with fail
                        refine q1.mono ?_
                        rintro e w1 ⟨rfl, hw1⟩
                        obtain rfl : wp = w1 := hw1.symm
                        go_wp2_with fail
                        refine q4.mono ?_
                        rintro e w3 ⟨A9, c9, rfl, -, b3⟩
                        have t3 := al.trans (b3.mono al.size)
                        have o3 := hown2.below t3
                        have b4 := hb2.trans (t3.mono hgz2)
                        clear q4 al b3 hown2 hb2
                        go_wp2_with fail
                        go_ret3
                        obtain rfl := HM.out
                        exact ⟨out, _, _, 0, 2, rfl, told.out, o3, b4⟩
                      · rw [hok] at q4
                        by_cases h64 : 64 ≤ fl
                        · have h64' : (64 : Int) ≤ (fl : Int) := by omega
                          have told := hide (Goes.fld_bad HG2.out HE2.out.symm (fun e => HT0.out (HT2.out.trans e)) (e := 6) (.inr ⟨by rw [← HT2.out]; exact hok, h64, rfl⟩))
                          clear hok
                          go_wp2_with fail
                          refine q1.mono ?_
                          rintro e w1 ⟨rfl, hw1⟩
                          obtain rfl : wp = w1 := hw1.symm
                          go_wp2_with fail
                          refine q4.mono ?_
                          rintro e w3 ⟨A9, c9, rfl, -, b3⟩
                          have t3 := al.trans (b3.mono al.size)
                          have o3 := hown2.below t3
                          have b4 := hb2.trans (t3.mono hgz2)
                          clear q4 al b3 hown2 hb2
                          go_wp2_with fail
                          go_ret3
                          obtain rfl := HM.out
                          exact ⟨out, _, _, 0, 6, rfl, told.out, o3, b4⟩
                        · have h64' : ¬ (64 : Int) ≤ (fl : Int) := by omega
                          have HGN := hide (show Goes bs out P2 3 0 (fl + 1) from HP2.out ▸ Goes.fld_good HG2.out HE2.out.symm (fun e => HT0.out (HT2.out.trans e)) (by rw [← HT2.out]; exact hok) h64)
                          clear hok
                          go_wp2_with fail
                          refine q1.mono ?_
                          rintro e w1 ⟨rfl, hw1⟩
                          obtain rfl : wp = w1 := hw1.symm
                          go_wp2_with fail
                          refine q4.mono ?_
                          rintro e w3 ⟨A9, c9, rfl, -, b3⟩
                          have t3 := al.trans (b3.mono al.size)
                          have o3 := hown2.below t3
                          have b4 := hb2.trans (t3.mono hgz2)
                          clear q4 al b3 hown2 hb2
                          go_wp2_with fail
                          go_roundw
                          case rel => exact ⟨P2, fl + 1, rfl, by go_num, hPn2, by omega, HGN.out, o3, b4⟩
                          case measure => simp [intOf]; omega
                  · have hne : ((E2 : Int) != 0) = true := by simp; omega
                    have told := hide (Goes.line_bad HG2.out (.inr rfl) HE2.out.symm hE20)
                    clear hpos2
                    go_wp2_with fail
                    refine q1.mono ?_
                    rintro e w1 ⟨rfl, hw1⟩
                    obtain rfl : wp = w1 := hw1.symm
                    go_wp2_with fail
                    go_ret3
                    obtain rfl := HM.out
                    exact ⟨out, _, _, 0, E2, rfl, told.out, hown2, hb2⟩
              · have HGD := hide (show Goes bs out P 1 N 0 by have := HGOOD.out; rw [if_neg hN0] at this; exact this)
                clear HGOOD
                have hN0' : ¬ (N : Int) = 0 := by omega
                have hN0'' : ((N : Int) == 0) = false := by rw [beq_eq_false_iff_ne]; omega
                go_wp2_with fail
                go_loopw [5, 6, 12] (fun b a i wx => ∃ (j o2 m2 : Nat) (A2 : Option Addr) (c2 : Nat) (out2 : List UInt8), b = .slice A2 m2 c2 ∧ a = .int .i64 o2 ∧ i = .int .i64 j ∧ j ≤ N ∧ o2 = P + j ∧ o2 ≤ n ∧ out2 = out ++ (bs.drop P).take j ∧ out2.length = m2 ∧ m2 ≤ o2 ∧ Ow wx g 1 (.slice A2 m2 c2) m2 (bcells out2) ∧ Below g w wx) (fun _ _ i _ => N - (intOf i).toNat)
                case atStart => exact ⟨0, P, m, A', c', out, rfl, rfl, rfl, by omega, rfl, hPn, by simp, HM.out, by omega, hown, hb⟩
                case round =>
                  obtain ⟨wp, hwp⟩ : ∃ wp, wp = wr := ⟨_, rfl⟩
                  subst hwp
                  obtain ⟨j, o2, m2, A2, c2, out2, rfl, rfl, rfl, hj, ho2, ho2n, hout2, hm2, hm2o, hown2, hb2⟩ := hrel
                  have HO2 := hide ho2
                  have HOUT := hide hout2
                  have HM2 := hide hm2
                  clear ho2 hout2 hm2 hown hb hgz
                  have hgz2 : g ≤ wp.heap.size := hg ▸ hb2.size
                  have hr2 := h.below (hb2.mono (by omega))
                  by_cases hjN : j < N
                  · have hjN' : (j : Int) < (N : Int) := by omega
                    by_cases hat : n ≤ o2
                    · have hat' : (n : Int) ≤ (o2 : Int) := by omega
                      have hdl : (bs.drop P).length = j := by rw [List.length_drop, HL.out]; have := HO2.out; omega
                      have told := hide (show Told bs out2 0 5 by
                        have := Goes.data_short HGD.out (by rw [hdl]; exact hjN)
                        rw [HOUT.out, List.take_of_length_le (by omega)]; exact this)
                      clear hdl hr2
                      go_wp2_with fail
                      go_ret3
                      obtain rfl := HM2.out
                      exact ⟨out2, _, _, 0, 5, rfl, told.out, hown2, hb2⟩
                    · have hat' : ¬ (n : Int) ≤ (o2 : Int) := by omega
                      obtain ⟨a, hAa, hab, hcell⟩ := hr2.byte (k := o2) (by omega)
                      have hbl : o2 < bs.length := by have := HL.out; omega
                      have hc8 : wp.cell? (a.add o2) = some (.int .u8 ((bs[o2]'hbl).toNat : Int)) := by rw [hcell, List.getD_eq_getElem?_getD, List.getElem?_eq_getElem hbl]; rfl
                      obtain ⟨x, hx⟩ : ∃ x, x = bs[o2]'hbl := ⟨_, rfl⟩
                      rw [← hx] at hc8
                      have htk : out ++ (bs.drop P).take (j + 1) = out2 ++ [x] := by
                        have hjl : j < (bs.drop P).length := by rw [List.length_drop, HL.out]; have := HO2.out; omega
                        rw [list_take_snoc (bs.drop P) j hjl, ← List.append_assoc, ← HOUT.out, hx]
                        congr 1
                        rw [List.getElem_drop]
                        congr 2
                        exact HO2.out.symm
                      have HTK := hide htk
                      subst hAa
                      clear htk hcell hx hr2
                      go_wp2_with (at_builtin; refine wpl_push_ow rfl _ _ _ rfl g i0 _ 1 1 Tryd.underlying26 hi0 hz0 hz1 hz2 rfl (by omega) _ _ _ rfl _ rfl hown2 rfl (by simp [Value.oneCell']) (by unfold maxLen; omega) (by omega) hgz2 ?_; intro v1 w7 x1 x2 x3 x4)
                      go_roundw
                      case rel =>
                        obtain ⟨A3, c3, rfl, -⟩ := x1.shape
                        refine ⟨j + 1, o2 + 1, m2 + 1, A3, c3, out2 ++ [x], rfl, by go_num, by go_num, by omega, by have := HO2.out; omega, by omega, HTK.out.symm, by rw [List.length_append, HM2.out]; rfl, by omega, ?_, hb2.trans x2⟩
                        have e1 : bcells (out2 ++ [x]) = bcells out2 ++ [Value.int .u8 (x.toNat : Int)] := by unfold bcells; rw [List.map_append]; rfl
                        rw [e1]; exact x1
                      case measure => simp [intOf]; omega
                  · obtain rfl : j = N := by omega
                    have hjN' : ¬ (j : Int) < (j : Int) := by omega
                    have HGO2 := hide (show Goes bs out2 o2 2 0 0 by
                      have := Goes.data_good HGD.out hN0 (by rw [List.length_drop, HL.out]; have := HO2.out; omega)
                      rw [HOUT.out, HO2.out]; exact this)
                    have hd0 : (bs.drop o2)[0]? = bs[o2]? := by rw [List.getElem?_drop]; rfl
                    have hd1 : (bs.drop o2)[1]? = bs[o2 + 1]? := by rw [List.getElem?_drop]
                    have HD0 := hide hd0
                    have HD1 := hide hd1
                    clear hd0 hd1
                    have hdl : (bs.drop o2).length = n - o2 := by rw [List.length_drop, HL.out]
                    have HDL := hide hdl
                    clear hdl
                    by_cases c0 : o2 < n
                    · have c0' : (o2 : Int) < (n : Int) := by omega
                      obtain ⟨a, hAa, hab, hcell⟩ := hr2.byte (k := o2) (by omega)
                      have hbl : o2 < bs.length := by have := HL.out; omega
                      have hc8 : wp.cell? (a.add o2) = some (.int .u8 ((bs[o2]'hbl).toNat : Int)) := by rw [hcell, List.getD_eq_getElem?_getD, List.getElem?_eq_getElem hbl]; rfl
                      have hx0 : bs[o2]? = some (bs[o2]'hbl) := List.getElem?_eq_getElem hbl
                      obtain ⟨x, hx⟩ : ∃ x, x = bs[o2]'hbl := ⟨_, rfl⟩
                      rw [← hx] at hc8 hx0
                      have HX0 := hide (HD0.out.trans hx0)
                      clear hcell hx hx0
                      by_cases e13 : x = 13
                      · have f13 : ((x.toNat : Int) != 13) = false := by subst e13; rfl
                        have H13 := hide (show ∀ y, (bs.drop o2)[0]? = some y → y = 13 from fun y hy => by rw [HX0.out] at hy; cases hy; exact e13)
                        clear e13
                        by_cases c1 : o2 + 1 < n
                        · have c1' : (o2 : Int) + 1 < (n : Int) := by omega
                          obtain ⟨a2, hAa2, hab2, hcell2⟩ := hr2.byte (k := o2 + 1) (by omega)
                          obtain rfl : a = a2 := Option.some.inj (hAa.symm.trans hAa2)
                          have hbl2 : o2 + 1 < bs.length := by have := HL.out; omega
                          have hc9 : wp.cell? (a.add (o2 + 1)) = some (.int .u8 ((bs[o2 + 1]'hbl2).toNat : Int)) := by rw [hcell2, List.getD_eq_getElem?_getD, List.getElem?_eq_getElem hbl2]; rfl
                          have hx1 : bs[o2 + 1]? = some (bs[o2 + 1]'hbl2) := List.getElem?_eq_getElem hbl2
                          obtain ⟨y, hy⟩ : ∃ x, x = bs[o2 + 1]'hbl2 := ⟨_, rfl⟩
                          rw [← hy] at hc9 hx1
                          have HX1 := hide (HD1.out.trans hx1)
                          have hc9' : wp.cell? ⟨a.block, a.off + (o2 + 1), none⟩ = some (.int .u8 (y.toNat : Int)) := hc9
                          have hti : ((o2 : Int) + 1).toNat = o2 + 1 := by omega
                          have hw1 : IntKind.i64.wrap ((o2 : Int) + 1) = (o2 : Int) + 1 := by rw [IntKind.wrap_i64]; omega
                          have hp1 : (0 : Int) ≤ (o2 : Int) + 1 := by omega
                          clear hcell2 hy hx1
                          subst hAa
                          by_cases e10 : y = 10
                          · have f10 : ((y.toNat : Int) != 10) = false := by subst e10; rfl
                            have HGN := hide (Goes.over_good HGO2.out H13.out (fun z hz => by rw [HX1.out] at hz; cases hz; exact e10) (by rw [HDL.out]; omega))
                            have cc2 : ¬ (n : Int) < (o2 : Int) + 2 := by omega
                            clear e10 hr2
                            go_wp2_with fail
                            go_roundw
                            case rel => exact ⟨o2 + 2, m2, A2, c2, out2, rfl, by go_num, HM2.out, by omega, by omega, HGN.out, hown2, hb2⟩
                            case measure => simp [intOf]; have := HO2.out; omega
                          · have f10 : ((y.toNat : Int) != 10) = true := by
                              rw [bne_iff_ne]; intro e; apply e10; apply UInt8.toNat_inj.1; simp; omega
                            have told := hide (Goes.over_wrong HGO2.out (.inr ⟨y, HX1.out, e10⟩))
                            clear e10 hr2
                            go_wp2_with fail
                            go_ret3
                            obtain rfl := HM2.out
                            exact ⟨out2, _, _, 0, 2, rfl, told.out, hown2, hb2⟩
                        · have c1' : ¬ (o2 : Int) + 1 < (n : Int) := by omega
                          have cc2 : (n : Int) < (o2 : Int) + 2 := by omega
                          have told := hide (Goes.over_short HGO2.out H13.out (fun z hz => by
                            have := (List.getElem?_eq_some_iff.1 hz).1; rw [HDL.out] at this; omega) (by rw [HDL.out]; omega))
                          subst hAa
                          clear hr2
                          go_wp2_with fail
                          go_ret3
                          obtain rfl := HM2.out
                          exact ⟨out2, _, _, 0, 5, rfl, told.out, hown2, hb2⟩
                      · have f13 : ((x.toNat : Int) != 13) = true := by
                          rw [bne_iff_ne]; intro e; apply e13; apply UInt8.toNat_inj.1; simp; omega
                        have told := hide (Goes.over_wrong HGO2.out (.inl ⟨x, HX0.out, e13⟩))
                        subst hAa
                        clear e13 hr2
                        go_wp2_with fail
                        go_ret3
                        obtain rfl := HM2.out
                        exact ⟨out2, _, _, 0, 2, rfl, told.out, hown2, hb2⟩
                    · have c0' : ¬ (o2 : Int) < (n : Int) := by omega
                      have c1' : ¬ (o2 : Int) + 1 < (n : Int) := by omega
                      have cc2 : (n : Int) < (o2 : Int) + 2 := by omega
                      have told := hide (Goes.over_short HGO2.out (fun z hz => by
                          have := (List.getElem?_eq_some_iff.1 hz).1; rw [HDL.out] at this; omega) (fun z hz => by
                          have := (List.getElem?_eq_some_iff.1 hz).1; rw [HDL.out] at this; omega) (by rw [HDL.out]; omega))
                      clear hr2
                      go_wp2_with fail
                      go_ret3
                      obtain rfl := HM2.out
                      exact ⟨out2, _, _, 0, 5, rfl, told.out, hown2, hb2⟩
    · have hne : ((E : Int) != 0) = true := by simp; omega
      have hTold := hide (Goes.line_bad HGO.out (.inl rfl) HE.out.symm hE0)
      clear hpos
      go_wp2_with fail
      refine q1.mono ?_
      rintro e w1 ⟨rfl, hw1⟩
      obtain rfl : wo = w1 := hw1.symm
      go_wp2_with fail
      go_ret3
      obtain rfl := HM.out
      exact ⟨out, _, _, 0, E, rfl, hTold.out, hown, hb⟩
end Go.Proofs.YtdpcncpfbaigeaaDoor
