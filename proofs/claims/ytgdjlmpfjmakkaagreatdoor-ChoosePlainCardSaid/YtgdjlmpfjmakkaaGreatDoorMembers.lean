/- The reference's Members. -/
import Derived.Test.YtgdjlmpfjmakkaaGreatDoorItems
namespace Go.Proofs.YtgdjlmpfjmakkaaGreatDoor
open Go.RowKit

theorem nameB_low (c : UInt8) : nameB (lowB c) = nameB c := by
  have h : ∀ n, n < 256 → nameB (lowB (UInt8.ofNat n)) = nameB (UInt8.ofNat n) := by decide +kernel
  have := h c.toNat c.toNat_lt
  rwa [UInt8.ofNat_toNat] at this
theorem goodNameL_low (l : List UInt8) : goodNameL (lowL l) = goodNameL l := by
  unfold goodNameL
  rw [lowL_length]
  congr 2
  unfold lowL
  rw [List.all_map]
  exact congrArg (fun f => l.all f) (funext nameB_low)
theorem head_get_ne (b : UInt8) : ∀ (l : List UInt8) (p : Nat), p < (cutHead b l).length → ∃ c, l[p]? = some c ∧ c ≠ b
  | [], p, h => by simp [cutHead] at h
  | c :: l, p, h => by
    rw [cutHead_cons] at h
    by_cases hc : (c == b) = true
    · rw [if_pos hc] at h; simp at h
    · rw [if_neg hc] at h
      cases p with
      | zero => exact ⟨c, rfl, by simpa using hc⟩
      | succ p => rw [List.getElem?_cons_succ]; exact head_get_ne b l p (by simpa using h)
theorem head_end_eq (b : UInt8) : ∀ (l : List UInt8), cutHas b l = true → l[(cutHead b l).length]? = some b
  | [], h => by simp [cutHas, cutHead] at h
  | c :: l, h => by
    unfold cutHas at h
    rw [cutHead_cons] at h ⊢
    by_cases hc : (c == b) = true
    · rw [if_pos hc]; simpa using hc
    · rw [if_neg hc] at h ⊢
      rw [List.length_cons, List.getElem?_cons_succ]
      refine head_end_eq b l ?_
      unfold cutHas
      simpa using h
theorem cell_keep {w w' : World} {a : Addr} {u : Value} (h : w.cell? a = some u) (b : Below w.heap.size w w') : w'.cell? a = some u := (b.cell (World.block_lt_of_cell? w _ h)).trans h
theorem free_keep {w w' : World} {a : Addr} {u : Value} (h : w.cell? a = some u) (f : w.frozen? a = false) (b : Below w.heap.size w w') : w'.frozen? a = false := (World.frozen?_of_block (b.block a.block (World.block_lt_of_cell? w _ h))).trans f

set_option maxRecDepth 100000 in
set_option maxHeartbeats 16000000 in
theorem members_any (A : Option Addr) (n c B : Nat) (vs : List (List UInt8)) (w : World) (h : Rd w B 1 A n (scells vs)) (hB : B ≤ w.heap.size) (hn : n ≤ 1000) (hok : ∀ v ∈ vs, v.length ≤ 1000000) :
    Calls Tryz.prog 26 #[.slice A n c] w fun e w' => ∃ A' c', e = .returned (.slice A' (membersL vs).length c') ∧
      Ow w' w.heap.size 2 (.slice A' (membersL vs).length c') (membersL vs).length (icells (membersL vs)) ∧ (membersL vs).length ≤ c' ∧ Below w.heap.size w w' := by
  obtain ⟨i0, hi0, hz0, hz1, hz2⟩ := info_parts infoItem
  have hlen : vs.length = n := by have := h.1; simpa [scells] using this
  have HLEN := hide hlen
  have HM := hide hok
  clear hlen hok
  go_enter Tryz.func26, Tryz.ntmps26
  go_wp2_with fail
  go_loopw [3, 4] (fun o i wr => ∃ k : Nat, k ≤ n ∧ i = .int .i64 k ∧ Ow wr w.heap.size 2 o (membersL (vs.take k)).length (icells (membersL (vs.take k))) ∧ Below w.heap.size w wr) (fun _ i _ => n - (intOf i).toNat)
  case atStart => exact ⟨0, Nat.zero_le _, rfl, Ow.nil_, Below.refl _ _⟩
  case round =>
    obtain ⟨k, hk, rfl, ho, hb⟩ := hrel
    by_cases hlt : k < n
    · have hkl : k < vs.length := by have := HLEN.out; omega
      obtain ⟨a, rfl, -, hcell⟩ := (h.below (hb.mono hB)).text hlt hkl
      have hsn := allV_snoc vs k hkl
      have hal := allV_len (vs.take k) fun v hv => HM.out v (List.mem_of_mem_take hv)
      rw [List.length_take, Nat.min_eq_left (by omega)] at hal
      have hml := memL_len (allV (vs.take k))
      have hxs := HM.out vs[k] (List.getElem_mem hkl)
      have hbz := hb.size
      obtain ⟨x, hx⟩ : ∃ x, x = vs[k] := ⟨_, rfl⟩
      rw [← hx] at hcell hsn hxs
      have hs := fun w => refsplit_any ⟨x.toArray⟩ w (by rw [mk_size]; omega)
      rw [mk_list] at hs
      have hsl := split_length x
      have hsm := fun y hy => FieldSplitsP.split_mem _ _ (Nat.le_refl _) y (hy : y ∈ splitL x)
      obtain ⟨ys, hys⟩ : ∃ ys, ys = splitL x := ⟨_, rfl⟩
      rw [← hys] at hs hsn hsl hsm
      have hsn2 : membersL (vs.take (k + 1)) = membersL (vs.take k) ++ memL ys := by unfold membersL; rw [hsn, memL_append]
      have hgk2 : (membersL (vs.take k)).length ≤ 2000000000 := by unfold membersL; omega
      obtain ⟨gk, hgk⟩ : ∃ gk, gk = membersL (vs.take k) := ⟨_, rfl⟩
      rw [← hgk] at hsn2 hgk2 ho
      obtain ⟨sx, hsx⟩ : ∃ sx : ByteArray, sx = ⟨x.toArray⟩ := ⟨_, rfl⟩
      rw [← hsx] at hcell hs
      have HS := hide hsn2
      have HSM := hide hsm
      clear hsn hsn2 hal hml hx hys hgk hsx hsm
      go_wp2_with fail
      refine (hs _).mono ?_
      rintro e w2 ⟨A2, c2, rfl, o2, hc2, b2⟩
      have r2 := Rd.of_own o2
      have hap := apart_of o2 ho
      have ho2 := ho.below b2
      have hb2 := hb.trans (b2.mono hbz)
      clear o2 hs ho
      obtain ⟨m, hm⟩ : ∃ m, ys.length = m := ⟨_, rfl⟩
      rw [hm] at r2 hc2 hsl ⊢
      have HM2 := hide hm
      clear hm
      go_wp2_with fail
      go_loopw [3, 6] (fun o i wr2 => ∃ j : Nat, j ≤ m ∧ i = .int .i64 j ∧ Ow wr2 w.heap.size 2 o (gk ++ memL (ys.take j)).length (icells (gk ++ memL (ys.take j))) ∧ Rd wr2 w2.heap.size 1 A2 m (scells ys) ∧ Apart A2 o ∧ w2.heap.size ≤ wr2.heap.size ∧ Below w.heap.size w wr2) (fun _ i _ => m - (intOf i).toNat)
      case atStart => exact ⟨0, Nat.zero_le _, rfl, by simpa [memL] using ho2, r2, hap, Nat.le_refl _, hb2⟩
      case round =>
        clear ho2 hap r2
        obtain ⟨j, hj, rfl, ho3, r3, ap3, hz3, hb3⟩ := hrel
        by_cases hlj : j < m
        · have hjl : j < ys.length := by have := HM2.out; omega
          obtain ⟨a2, hA2, hab, hc2'⟩ := r3.text hlj hjl
          subst hA2
          have hms := memL_snoc ys j hjl
          have hml := memL_len (ys.take j)
          rw [List.length_take] at hml
          have hyl := HSM.out ys[j] (List.getElem_mem hjl)
          obtain ⟨y, hy⟩ : ∃ y, y = ys[j] := ⟨_, rfl⟩
          rw [← hy] at hc2' hms hyl
          have hh1 := cutHead_le 59 y
          have hgn := head_get_ne 59 y
          have hge := head_end_eq 59 y
          have htk := cutHead_take 59 y
          obtain ⟨mm, hmm⟩ : ∃ mm, mm = memberL y := ⟨_, rfl⟩
          rw [← hmm] at hms
          unfold memberL mnameL at hmm
          have hhas : cutHas 59 y = decide ((cutHead 59 y).length < y.length) := rfl
          have htl0 : cutTail 59 y = y.drop ((cutHead 59 y).length + 1) := rfl
          rw [goodNameL_low] at hmm
          obtain ⟨hd, hhd⟩ : ∃ hd, hd = cutHead 59 y := ⟨_, rfl⟩
          obtain ⟨tl, htl⟩ : ∃ tl, tl = cutTail 59 y := ⟨_, rfl⟩
          obtain ⟨bs, hbs⟩ : ∃ h, h = cutHas 59 y := ⟨_, rfl⟩
          rw [← hhd, ← htl, ← hbs] at hmm
          rw [← hhd] at hh1 hgn hge htk hhas htl0
          rw [← htl] at htl0
          rw [← hbs] at hge hhas
          have hle1 := trimL_le hd
          have hle2 := trimL_le tl
          have htll : tl.length ≤ y.length := by rw [htl0, List.length_drop]; omega
          obtain ⟨hl, hhl⟩ : ∃ n, hd.length = n := ⟨_, rfl⟩
          rw [hhl] at hh1 hgn hge htk hhas htl0 hle1
          obtain ⟨th, hth⟩ : ∃ t, t = trimL hd := ⟨_, rfl⟩
          obtain ⟨tt, htt⟩ : ∃ t, t = trimL tl := ⟨_, rfl⟩
          rw [← hth] at hmm hle1
          rw [← htt] at hmm hle2
          have q1 := fun w => reftrim_any ⟨hd.toArray⟩ w (by rw [mk_size]; omega)
          have q2 := fun w => refname_any ⟨th.toArray⟩ w (by rw [mk_size]; omega)
          have q3 := fun w => reflower_any ⟨th.toArray⟩ w (by rw [mk_size]; omega)
          have q4 := fun w => reftrim_any ⟨tl.toArray⟩ w (by rw [mk_size]; omega)
          have q5 := fun w => reflower_any ⟨(tt.take 2).toArray⟩ w (by rw [mk_size, List.length_take]; omega)
          have q6 := fun w => refweight_any ⟨(tt.drop 2).toArray⟩ w
          change ∀ w, Calls Tryz.prog 39 _ w (fun e w' => e = .returned (.string ⟨(trimL hd).toArray⟩) ∧ w = w') at q1
          change ∀ w, Calls Tryz.prog 40 _ w (fun e w' => e = .returned (.bool (goodNameL th)) ∧ w = w') at q2
          change ∀ w, Calls Tryz.prog 23 _ w (fun e w' => e = .returned (.string ⟨(lowL th).toArray⟩) ∧ Below w.heap.size w w') at q3
          change ∀ w, Calls Tryz.prog 39 _ w (fun e w' => e = .returned (.string ⟨(trimL tl).toArray⟩) ∧ w = w') at q4
          change ∀ w, Calls Tryz.prog 23 _ w (fun e w' => e = .returned (.string ⟨(lowL (tt.take 2)).toArray⟩) ∧ Below w.heap.size w w') at q5
          change ∀ w, Calls Tryz.prog 41 _ w (fun e w' => e = .returned (.tuple #[.int .i64 (weightL (tt.drop 2)).1, .bool (weightL (tt.drop 2)).2]) ∧ w = w') at q6
          simp only [← hth] at q1
          simp only [← htt] at q4
          obtain ⟨nm, hnm⟩ : ∃ n, n = lowL th := ⟨_, rfl⟩
          rw [← hnm] at hmm
          simp only [← hnm] at q3
          have hx1 : (⟨tt.toArray⟩ : ByteArray).extract 0 2 = ⟨(tt.take 2).toArray⟩ := bytes_ext (by rw [extract_list, mk_list, mk_list]; simp)
          have hx2 : (⟨tt.toArray⟩ : ByteArray).extract 2 (⟨tt.toArray⟩ : ByteArray).size = ⟨(tt.drop 2).toArray⟩ := bytes_ext (by rw [extract_list, mk_list, mk_list, mk_size]; simp)
          have hx3 : (⟨y.toArray⟩ : ByteArray).extract 0 hl = ⟨hd.toArray⟩ := bytes_ext (by rw [extract_list, mk_list, mk_list, List.drop_zero]; exact htk)
          have hx4 : (⟨y.toArray⟩ : ByteArray).extract (hl + 1) (⟨y.toArray⟩ : ByteArray).size = ⟨tl.toArray⟩ := bytes_ext (by rw [extract_list, mk_list, mk_list, mk_size, List.take_of_length_le (by omega)]; exact htl0.symm)
          have hcx : ((⟨nm.toArray⟩ : ByteArray).toList == [120, 45, 103, 122, 105, 112]) = decide (nm = xgzipL) := by rw [ByteArray.toList_eq, Bool.eq_iff_iff, decide_eq_true_iff]; simp [xgzipL]
          have hcq : ((⟨(lowL (tt.take 2)).toArray⟩ : ByteArray).toList == [113, 61]) = sameL (tt.take 2) qeqL := by rw [ByteArray.toList_eq]; rfl
          have hzt := mk_size tt
          have hzy := mk_size y
          obtain ⟨sy, hsy⟩ : ∃ sy : ByteArray, sy = ⟨y.toArray⟩ := ⟨_, rfl⟩
          obtain ⟨bhd, e1⟩ : ∃ b : ByteArray, b = ⟨hd.toArray⟩ := ⟨_, rfl⟩
          obtain ⟨btl, e2⟩ : ∃ b : ByteArray, b = ⟨tl.toArray⟩ := ⟨_, rfl⟩
          obtain ⟨bth, e3⟩ : ∃ b : ByteArray, b = ⟨th.toArray⟩ := ⟨_, rfl⟩
          obtain ⟨btt, e4⟩ : ∃ b : ByteArray, b = ⟨tt.toArray⟩ := ⟨_, rfl⟩
          obtain ⟨bnm, e5⟩ : ∃ b : ByteArray, b = ⟨nm.toArray⟩ := ⟨_, rfl⟩
          obtain ⟨bq, e6⟩ : ∃ b : ByteArray, b = ⟨(tt.take 2).toArray⟩ := ⟨_, rfl⟩
          obtain ⟨br, e7⟩ : ∃ b : ByteArray, b = ⟨(tt.drop 2).toArray⟩ := ⟨_, rfl⟩
          obtain ⟨bl, e8⟩ : ∃ b : ByteArray, b = ⟨(lowL (tt.take 2)).toArray⟩ := ⟨_, rfl⟩
          have hgs : ∀ k (hk : k < sy.size), y[k]? = some sy[k] := fun k hk => by
            have hsyl : sy.data.toList = y := by rw [hsy]
            have := get_toList sy k hk
            rw [hsyl] at this
            exact this
          rw [← hsy] at hc2' hx3 hx4 hzy
          rw [← e1] at hx3
          rw [← e2] at hx4
          simp only [← e1, ← e3] at q1
          simp only [← e3] at q2
          simp only [← e3, ← e5] at q3
          simp only [← e5] at hcx
          simp only [← e2, ← e4] at q4
          simp only [← e6, ← e8] at q5
          simp only [← e7] at q6
          rw [← e8] at hcq
          rw [← e4, ← e6] at hx1
          rw [← e4, ← e7] at hx2
          rw [← e4] at hzt
          have HN := hide (show bnm.data.toList = nm by rw [e5])
          obtain ⟨wv, hwv⟩ : ∃ x, x = (weightL (tt.drop 2)).1 := ⟨_, rfl⟩
          obtain ⟨wb, hwb⟩ : ∃ x, x = (weightL (tt.drop 2)).2 := ⟨_, rfl⟩
          obtain ⟨sm, hsm⟩ : ∃ x, x = sameL (tt.take 2) qeqL := ⟨_, rfl⟩
          obtain ⟨gd, hgd⟩ : ∃ x, x = goodNameL th := ⟨_, rfl⟩
          rw [← hwv, ← hwb, ← hsm, ← hgd] at hmm
          simp only [← hwv, ← hwb] at q6
          rw [← hsm] at hcq
          simp only [← hgd] at q2
          obtain ⟨nt, hnt⟩ : ∃ n, n = tt.length := ⟨_, rfl⟩
          rw [← hnt] at hmm hzt hle2
          have HZ := hide hzt
          have HR := hide hmm
          obtain ⟨gj, hgj⟩ : ∃ g, g = memL (ys.take j) := ⟨_, rfl⟩
          rw [← hgj] at hms hml ho3
          have HMS := hide hms
          have hgl : (gk ++ gj).length ≤ 3000000000 := by rw [List.length_append]; have := Nat.min_le_left j ys.length; have := HM2.out; omega
          have hb3z := hb3.size
          obtain ⟨ng, hng⟩ : ∃ n, (gk ++ gj).length = n := ⟨_, rfl⟩
          rw [hng] at hgl ho3
          have HNG := hide hng
          have HY := hide hzy
          have hyi : (hl : Int) ≤ (sy.size : Int) := by omega
          have hsyb : sy.size ≤ 1000000 := by omega
          have HKC := hide (show ∀ X, Below wr.heap.size wr X → X.cell? (a2.add j) = some (.string sy) from fun X b => cell_keep hc2' b)
          have HHAS := hide hhas
          have HGN := hide hgn
          have HGE := hide hge
          have HGS := hide hgs
          clear hms hml hy hgj hsy hmm hng hh1 hle1 hle2 htll htk htl0 hhd htl hbs hhl hth htt hnm e1 e2 e3 e4 e5 e6 e7 e8 hwv hwb hsm hgd hnt hzt hzy hhas hgn hge hgs
          go_wp2_with fail
          go_loopw [7] (fun a wr3 => ∃ p : Nat, p ≤ hl ∧ a = .int .i64 p ∧ wr3 = wr) (fun a _ => hl - (intOf a).toNat)
          case atStart => exact ⟨0, Nat.zero_le _, rfl, rfl⟩
          case round =>
            obtain ⟨p, hp, rfl, hwr⟩ := hrel
            subst hwr
            by_cases hpl : p < hl
            · have hpy : p < y.length := by have := HY.out; omega
              obtain ⟨cc, hcc, hne⟩ := HGN.out p hpl
              have hps : p < sy.size := by have := HY.out; omega
              have hgp := HGS.out p hps
              have hb : sy[p] = cc := by rw [hcc] at hgp; exact (Option.some.inj hgp).symm
              have hn59 : ((cc.toNat : Int) != 59) = true := by
                simp; intro e; exact hne (UInt8.toNat_inj.1 (by simpa using (by omega : cc.toNat = 59)))
              clear hcc hgp hne
              go_wp2
              go_roundw
              case rel => exact ⟨p + 1, by omega, by go_num, trivial⟩
              case measure => simp [intOf]; omega
            · obtain rfl : p = hl := by omega
              rcases bs with _ | _
              · have hps : (p : Int) = (sy.size : Int) := by
                  have h1 := HHAS.out
                  have h2 := HY.out
                  simp at h1; omega
                have hbe : bhd = sy := by
                  rw [← hx3, show p = sy.size by omega]
                  exact bytes_ext (by rw [extract_list, List.drop_zero, List.take_of_length_le (by rw [← size_of]; omega)])
                rw [hbe] at q1
                go_wp2_with fail
                refine (q1 wr).mono ?_
                rintro e w5 ⟨rfl, hw5⟩
                subst hw5
                go_upto_region 13 with (fail)
                have T : Below wr.heap.size wr (wr.alloc (.cells #[.string bth, .int .i64 1000] 60)) := (Below.refl _ _).alloc (Nat.le_refl _) _
                have c0 : (wr.alloc (.cells #[.string bth, .int .i64 1000] 60)).cell? ⟨wr.heap.size, 0, none⟩ = some (.string bth) := new_kept (n := wr.heap.size + 1) (i := 0) (Below.refl _ _) rfl rfl
                have c1 : (wr.alloc (.cells #[.string bth, .int .i64 1000] 60)).cell? ⟨wr.heap.size, 1, none⟩ = some (.int .i64 1000) := new_kept (n := wr.heap.size + 1) (i := 1) (Below.refl _ _) rfl rfl
                have f0 : (wr.alloc (.cells #[.string bth, .int .i64 1000] 60)).frozen? ⟨wr.heap.size, 0, none⟩ = false := new_free (n := wr.heap.size + 1) (i := 0) (Below.refl _ _) rfl
                have f1 : (wr.alloc (.cells #[.string bth, .int .i64 1000] 60)).frozen? ⟨wr.heap.size, 1, none⟩ = false := new_free (n := wr.heap.size + 1) (i := 1) (Below.refl _ _) rfl
                obtain ⟨g, hg⟩ : ∃ g, g = wr.heap.size := ⟨_, rfl⟩
                have hgT : wr.heap.size ≤ g := by omega
                rw [← hg] at c0 c1 f0 f1
                simp only [← hg]
                generalize wr.alloc (.cells #[.string bth, .int .i64 1000] 60) = w6 at T c0 c1 f0 f1 ⊢
                clear hg
                go_wp2_with fail
                refine (q2 w6).mono ?_
                rintro e w7 ⟨rfl, hw7⟩
                subst hw7
                rcases gd with _ | _
                · have ho6 := ho3.below T
                  have r6 := r3.below (T.mono hz3)
                  have t6 := hb3.trans (T.mono hb3z)
                  have t6z := t6.size
                  have z6 := Nat.le_trans hz3 T.size
                  have hmm2 : mm.2 = false := by rw [HR.out, if_neg (by simp)] <;> rfl
                  have HMM2 := hide hmm2
                  clear hmm2
                  go_wp2
                  go_roundw
                  case rel => exact ⟨j + 1, by omega, by go_num, by rw [HMS.out, if_neg (by rw [HMM2.out]; simp), List.append_nil, HNG.out]; exact ho6, r6, ap3, z6, t6⟩
                  case measure => simp [intOf]; omega
                · go_wp2_with fail
                  refine (q3 w6).mono ?_
                  rintro e w7 ⟨rfl, k⟩
                  replace f0 := free_keep c0 f0 k
                  replace f1 := free_keep c1 f1 k
                  replace c0 := cell_keep c0 k
                  replace c1 := cell_keep c1 k
                  replace T := T.trans (k.mono T.size)
                  clear k
                  go_upto_region 15 with (fail)
                  have d0 : (w7.setCell ⟨g, 0, none⟩ (.string bnm)).cell? ⟨g, 0, none⟩ = some (.string bnm) := World.cell?_setCell_same' w7 _ _ (by rw [c0]; rfl)
                  have d1 : (w7.setCell ⟨g, 0, none⟩ (.string bnm)).cell? ⟨g, 1, none⟩ = some (.int .i64 1000) := (World.cell?_setCell_other _ _ _ _ (by simp)).trans c1
                  have e0 : (w7.setCell ⟨g, 0, none⟩ (.string bnm)).frozen? ⟨g, 0, none⟩ = false := by rw [World.frozen?_setCell]; exact f0
                  have e1 : (w7.setCell ⟨g, 0, none⟩ (.string bnm)).frozen? ⟨g, 1, none⟩ = false := by rw [World.frozen?_setCell]; exact f1
                  replace T : Below wr.heap.size wr (w7.setCell ⟨g, 0, none⟩ (.string bnm)) := T.setCell hgT _
                  clear c0 c1 f0 f1
                  generalize w7.setCell ⟨g, 0, none⟩ (.string bnm) = w8 at d0 d1 e0 e1 T ⊢
                  have c0 := d0
                  have c1 := d1
                  have f0 := e0
                  have f1 := e1
                  clear d0 d1 e0 e1
                  by_cases hxg : nm = xgzipL
                  · have hcx' : (bnm.toList == [120, 45, 103, 122, 105, 112]) = true := by rw [hcx]; simpa using hxg
                    have HX := hide hxg
                    clear hcx hxg
                    go_upto_region 17 with (fail)
                    have d0 : (w8.setCell ⟨g, 0, none⟩ (.string ⟨#[103, 122, 105, 112]⟩)).cell? ⟨g, 0, none⟩ = some (.string ⟨#[103, 122, 105, 112]⟩) := World.cell?_setCell_same' w8 _ _ (by rw [c0]; rfl)
                    have d1 : (w8.setCell ⟨g, 0, none⟩ (.string ⟨#[103, 122, 105, 112]⟩)).cell? ⟨g, 1, none⟩ = some (.int .i64 1000) := (World.cell?_setCell_other _ _ _ _ (by simp)).trans c1
                    have e0 : (w8.setCell ⟨g, 0, none⟩ (.string ⟨#[103, 122, 105, 112]⟩)).frozen? ⟨g, 0, none⟩ = false := by rw [World.frozen?_setCell]; exact f0
                    have e1 : (w8.setCell ⟨g, 0, none⟩ (.string ⟨#[103, 122, 105, 112]⟩)).frozen? ⟨g, 1, none⟩ = false := by rw [World.frozen?_setCell]; exact f1
                    replace T : Below wr.heap.size wr (w8.setCell ⟨g, 0, none⟩ (.string ⟨#[103, 122, 105, 112]⟩)) := T.setCell hgT _
                    clear c0 c1 f0 f1
                    generalize w8.setCell ⟨g, 0, none⟩ (.string ⟨#[103, 122, 105, 112]⟩) = w9 at d0 d1 e0 e1 T ⊢
                    have c0 := d0
                    have c1 := d1
                    have f0 := e0
                    have f1 := e1
                    clear d0 d1 e0 e1
                    have cy := HKC.out w9 T
                    have ho6 := ho3.below T
                    have r6 := r3.below (T.mono hz3)
                    have t6 := hb3.trans (T.mono hb3z)
                    have t6z := t6.size
                    have z6 := Nat.le_trans hz3 T.size
                    have hmm1 : mm = ((gzipL, 1000), true) := by rw [HR.out, if_pos (by trivial), if_neg (by simp), if_pos HX.out] <;> rfl
                    have HMM1 := hide hmm1
                    clear hmm1
                    go_wp2_with (at_builtin; refine wpl_push_ow rfl _ _ _ rfl w.heap.size i0 _ 2 24 Tryz.underlying57 hi0 hz0 hz1 hz2 rfl (by omega) _ _ _ rfl _ rfl ho6 rfl (by simp [Value.oneCell']) (by unfold maxLen; omega) (by omega) t6z ?_; intro v1 w99 hown1 hbel1 hg1 hv1)
                    have r7 := r6.grown hg1 z6 ap3
                    have ap7 := ap3.step r6 (by omega) z6 hv1
                    have z7 := Nat.le_trans z6 hg1.size
                    clear r6 ap3 hg1 hv1
                    go_roundw
                    case rel =>
                      refine ⟨j + 1, by omega, by go_num, ?_, r7, ap7, z7, t6.trans hbel1⟩
                      rw [HMS.out, HMM1.out, if_pos rfl, ← List.append_assoc, List.length_append, HNG.out]
                      exact own_snoc_it hown1 rfl rfl
                    case measure => simp [intOf]; omega
                  · have hcx' : (bnm.toList == [120, 45, 103, 122, 105, 112]) = false := by rw [hcx]; simpa using hxg
                    have HX := hide hxg
                    clear hcx hxg
                    go_upto_region 17 with (fail)
                    have cy := HKC.out w8 T
                    have ho6 := ho3.below T
                    have r6 := r3.below (T.mono hz3)
                    have t6 := hb3.trans (T.mono hb3z)
                    have t6z := t6.size
                    have z6 := Nat.le_trans hz3 T.size
                    have hmm1 : mm = ((nm, 1000), true) := by rw [HR.out, if_pos (by trivial), if_neg (by simp), if_neg HX.out] <;> rfl
                    have HMM1 := hide hmm1
                    clear hmm1
                    go_wp2_with (at_builtin; refine wpl_push_ow rfl _ _ _ rfl w.heap.size i0 _ 2 24 Tryz.underlying57 hi0 hz0 hz1 hz2 rfl (by omega) _ _ _ rfl _ rfl ho6 rfl (by simp [Value.oneCell']) (by unfold maxLen; omega) (by omega) t6z ?_; intro v1 w99 hown1 hbel1 hg1 hv1)
                    have r7 := r6.grown hg1 z6 ap3
                    have ap7 := ap3.step r6 (by omega) z6 hv1
                    have z7 := Nat.le_trans z6 hg1.size
                    clear r6 ap3 hg1 hv1
                    go_roundw
                    case rel =>
                      refine ⟨j + 1, by omega, by go_num, ?_, r7, ap7, z7, t6.trans hbel1⟩
                      rw [HMS.out, HMM1.out, if_pos rfl, ← List.append_assoc, List.length_append, HNG.out]
                      exact own_snoc_it hown1 HN.out rfl
                    case measure => simp [intOf]; omega
              · have hps : p < sy.size := by
                  have h1 := HHAS.out
                  have h2 := HY.out
                  simp at h1; omega
                have hb59 : sy[p] = 59 := by
                  have h1 := HGE.out rfl
                  have h2 := HGS.out p hps
                  rw [h1] at h2
                  exact (Option.some.inj h2).symm
                have hn59 : (((59 : UInt8).toNat : Int) != 59) = false := by decide
                go_wp2_with fail
                refine (q1 wr).mono ?_
                rintro e w5 ⟨rfl, hw5⟩
                subst hw5
                go_upto_region 13 with (fail)
                have T : Below wr.heap.size wr (wr.alloc (.cells #[.string bth, .int .i64 1000] 60)) := (Below.refl _ _).alloc (Nat.le_refl _) _
                have c0 : (wr.alloc (.cells #[.string bth, .int .i64 1000] 60)).cell? ⟨wr.heap.size, 0, none⟩ = some (.string bth) := new_kept (n := wr.heap.size + 1) (i := 0) (Below.refl _ _) rfl rfl
                have c1 : (wr.alloc (.cells #[.string bth, .int .i64 1000] 60)).cell? ⟨wr.heap.size, 1, none⟩ = some (.int .i64 1000) := new_kept (n := wr.heap.size + 1) (i := 1) (Below.refl _ _) rfl rfl
                have f0 : (wr.alloc (.cells #[.string bth, .int .i64 1000] 60)).frozen? ⟨wr.heap.size, 0, none⟩ = false := new_free (n := wr.heap.size + 1) (i := 0) (Below.refl _ _) rfl
                have f1 : (wr.alloc (.cells #[.string bth, .int .i64 1000] 60)).frozen? ⟨wr.heap.size, 1, none⟩ = false := new_free (n := wr.heap.size + 1) (i := 1) (Below.refl _ _) rfl
                obtain ⟨g, hg⟩ : ∃ g, g = wr.heap.size := ⟨_, rfl⟩
                have hgT : wr.heap.size ≤ g := by omega
                rw [← hg] at c0 c1 f0 f1
                simp only [← hg]
                generalize wr.alloc (.cells #[.string bth, .int .i64 1000] 60) = w6 at T c0 c1 f0 f1 ⊢
                clear hg
                go_wp2_with fail
                refine (q2 w6).mono ?_
                rintro e w7 ⟨rfl, hw7⟩
                subst hw7
                rcases gd with _ | _
                · have ho6 := ho3.below T
                  have r6 := r3.below (T.mono hz3)
                  have t6 := hb3.trans (T.mono hb3z)
                  have t6z := t6.size
                  have z6 := Nat.le_trans hz3 T.size
                  have hmm2 : mm.2 = false := by rw [HR.out, if_neg (by simp)] <;> rfl
                  have HMM2 := hide hmm2
                  clear hmm2
                  go_wp2
                  go_roundw
                  case rel => exact ⟨j + 1, by omega, by go_num, by rw [HMS.out, if_neg (by rw [HMM2.out]; simp), List.append_nil, HNG.out]; exact ho6, r6, ap3, z6, t6⟩
                  case measure => simp [intOf]; omega
                · go_wp2_with fail
                  refine (q3 w6).mono ?_
                  rintro e w7 ⟨rfl, k⟩
                  replace f0 := free_keep c0 f0 k
                  replace f1 := free_keep c1 f1 k
                  replace c0 := cell_keep c0 k
                  replace c1 := cell_keep c1 k
                  replace T := T.trans (k.mono T.size)
                  clear k
                  go_upto_region 15 with (fail)
                  have d0 : (w7.setCell ⟨g, 0, none⟩ (.string bnm)).cell? ⟨g, 0, none⟩ = some (.string bnm) := World.cell?_setCell_same' w7 _ _ (by rw [c0]; rfl)
                  have d1 : (w7.setCell ⟨g, 0, none⟩ (.string bnm)).cell? ⟨g, 1, none⟩ = some (.int .i64 1000) := (World.cell?_setCell_other _ _ _ _ (by simp)).trans c1
                  have e0 : (w7.setCell ⟨g, 0, none⟩ (.string bnm)).frozen? ⟨g, 0, none⟩ = false := by rw [World.frozen?_setCell]; exact f0
                  have e1 : (w7.setCell ⟨g, 0, none⟩ (.string bnm)).frozen? ⟨g, 1, none⟩ = false := by rw [World.frozen?_setCell]; exact f1
                  replace T : Below wr.heap.size wr (w7.setCell ⟨g, 0, none⟩ (.string bnm)) := T.setCell hgT _
                  clear c0 c1 f0 f1
                  generalize w7.setCell ⟨g, 0, none⟩ (.string bnm) = w8 at d0 d1 e0 e1 T ⊢
                  have c0 := d0
                  have c1 := d1
                  have f0 := e0
                  have f1 := e1
                  clear d0 d1 e0 e1
                  by_cases hxg : nm = xgzipL
                  · have hcx' : (bnm.toList == [120, 45, 103, 122, 105, 112]) = true := by rw [hcx]; simpa using hxg
                    have HX := hide hxg
                    clear hcx hxg
                    go_upto_region 17 with (fail)
                    have d0 : (w8.setCell ⟨g, 0, none⟩ (.string ⟨#[103, 122, 105, 112]⟩)).cell? ⟨g, 0, none⟩ = some (.string ⟨#[103, 122, 105, 112]⟩) := World.cell?_setCell_same' w8 _ _ (by rw [c0]; rfl)
                    have d1 : (w8.setCell ⟨g, 0, none⟩ (.string ⟨#[103, 122, 105, 112]⟩)).cell? ⟨g, 1, none⟩ = some (.int .i64 1000) := (World.cell?_setCell_other _ _ _ _ (by simp)).trans c1
                    have e0 : (w8.setCell ⟨g, 0, none⟩ (.string ⟨#[103, 122, 105, 112]⟩)).frozen? ⟨g, 0, none⟩ = false := by rw [World.frozen?_setCell]; exact f0
                    have e1 : (w8.setCell ⟨g, 0, none⟩ (.string ⟨#[103, 122, 105, 112]⟩)).frozen? ⟨g, 1, none⟩ = false := by rw [World.frozen?_setCell]; exact f1
                    replace T : Below wr.heap.size wr (w8.setCell ⟨g, 0, none⟩ (.string ⟨#[103, 122, 105, 112]⟩)) := T.setCell hgT _
                    clear c0 c1 f0 f1
                    generalize w8.setCell ⟨g, 0, none⟩ (.string ⟨#[103, 122, 105, 112]⟩) = w9 at d0 d1 e0 e1 T ⊢
                    have c0 := d0
                    have c1 := d1
                    have f0 := e0
                    have f1 := e1
                    clear d0 d1 e0 e1
                    have cy := HKC.out w9 T
                    go_wp2_with fail
                    refine (q4 w9).mono ?_
                    rintro e w10 ⟨rfl, hw⟩
                    subst hw
                    by_cases h2 : btt.size < 2
                    · have ho6 := ho3.below T
                      have r6 := r3.below (T.mono hz3)
                      have t6 := hb3.trans (T.mono hb3z)
                      have t6z := t6.size
                      have z6 := Nat.le_trans hz3 T.size
                      have hmm2 : mm.2 = false := by rw [HR.out, if_pos (by trivial), if_pos (by trivial), if_neg (fun h => by have := HZ.out; omega)] <;> rfl
                      have HMM2 := hide hmm2
                      clear hmm2
                      go_wp2
                      go_roundw
                      case rel => exact ⟨j + 1, by omega, by go_num, by rw [HMS.out, if_neg (by rw [HMM2.out]; simp), List.append_nil, HNG.out]; exact ho6, r6, ap3, z6, t6⟩
                      case measure => simp [intOf]; omega
                    · have h2' : 2 ≤ btt.size := by omega
                      go_wp2_with fail
                      refine (q5 w9).mono ?_
                      rintro e w11 ⟨rfl, k⟩
                      replace f0 := free_keep c0 f0 k
                      replace f1 := free_keep c1 f1 k
                      replace c0 := cell_keep c0 k
                      replace c1 := cell_keep c1 k
                      replace T := T.trans (k.mono T.size)
                      clear k
                      rcases sm with _ | _
                      · have ho6 := ho3.below T
                        have r6 := r3.below (T.mono hz3)
                        have t6 := hb3.trans (T.mono hb3z)
                        have t6z := t6.size
                        have z6 := Nat.le_trans hz3 T.size
                        have hmm2 : mm.2 = false := by rw [HR.out, if_pos (by trivial), if_pos (by trivial), if_neg (fun h => by simp at h)] <;> rfl
                        have HMM2 := hide hmm2
                        clear hmm2
                        go_wp2
                        go_roundw
                        case rel => exact ⟨j + 1, by omega, by go_num, by rw [HMS.out, if_neg (by rw [HMM2.out]; simp), List.append_nil, HNG.out]; exact ho6, r6, ap3, z6, t6⟩
                        case measure => simp [intOf]; omega
                      · go_wp2_with fail
                        refine (q6 w11).mono ?_
                        rintro e w12 ⟨rfl, hw⟩
                        subst hw
                        rcases wb with _ | _
                        · have ho6 := ho3.below T
                          have r6 := r3.below (T.mono hz3)
                          have t6 := hb3.trans (T.mono hb3z)
                          have t6z := t6.size
                          have z6 := Nat.le_trans hz3 T.size
                          have hmm2 : mm.2 = false := by rw [HR.out, if_pos (by trivial), if_pos (by trivial), if_neg (fun h => by simp at h)] <;> rfl
                          have HMM2 := hide hmm2
                          clear hmm2
                          go_wp2
                          go_roundw
                          case rel => exact ⟨j + 1, by omega, by go_num, by rw [HMS.out, if_neg (by rw [HMM2.out]; simp), List.append_nil, HNG.out]; exact ho6, r6, ap3, z6, t6⟩
                          case measure => simp [intOf]; omega
                        · go_upto_region 23 with (fail)
                          have d0 : (w11.setCell ⟨g, 1, none⟩ (.int .i64 wv)).cell? ⟨g, 1, none⟩ = some (.int .i64 wv) := World.cell?_setCell_same' w11 _ _ (by rw [c1]; rfl)
                          have d1 : (w11.setCell ⟨g, 1, none⟩ (.int .i64 wv)).cell? ⟨g, 0, none⟩ = some (.string ⟨#[103, 122, 105, 112]⟩) := (World.cell?_setCell_other _ _ _ _ (by simp)).trans c0
                          have e0 : (w11.setCell ⟨g, 1, none⟩ (.int .i64 wv)).frozen? ⟨g, 0, none⟩ = false := by rw [World.frozen?_setCell]; exact f0
                          have e1 : (w11.setCell ⟨g, 1, none⟩ (.int .i64 wv)).frozen? ⟨g, 1, none⟩ = false := by rw [World.frozen?_setCell]; exact f1
                          replace T : Below wr.heap.size wr (w11.setCell ⟨g, 1, none⟩ (.int .i64 wv)) := T.setCell hgT _
                          clear c0 c1 f0 f1
                          generalize w11.setCell ⟨g, 1, none⟩ (.int .i64 wv) = w13 at d0 d1 e0 e1 T ⊢
                          have c1 := d0
                          have c0 := d1
                          have f0 := e0
                          have f1 := e1
                          clear d0 d1 e0 e1
                          have ho6 := ho3.below T
                          have r6 := r3.below (T.mono hz3)
                          have t6 := hb3.trans (T.mono hb3z)
                          have t6z := t6.size
                          have z6 := Nat.le_trans hz3 T.size
                          have hmm1 : mm = ((gzipL, wv), true) := by rw [HR.out, if_pos (by trivial), if_pos (by trivial), if_pos (by refine ⟨?_, ?_, ?_⟩ <;> first | trivial | (have := HZ.out; omega)), if_pos HX.out] <;> rfl
                          have HMM1 := hide hmm1
                          clear hmm1
                          go_wp2_with (at_builtin; refine wpl_push_ow rfl _ _ _ rfl w.heap.size i0 _ 2 24 Tryz.underlying57 hi0 hz0 hz1 hz2 rfl (by omega) _ _ _ rfl _ rfl ho6 rfl (by simp [Value.oneCell']) (by unfold maxLen; omega) (by omega) t6z ?_; intro v1 w99 hown1 hbel1 hg1 hv1)
                          have r7 := r6.grown hg1 z6 ap3
                          have ap7 := ap3.step r6 (by omega) z6 hv1
                          have z7 := Nat.le_trans z6 hg1.size
                          clear r6 ap3 hg1 hv1
                          go_roundw
                          case rel =>
                            refine ⟨j + 1, by omega, by go_num, ?_, r7, ap7, z7, t6.trans hbel1⟩
                            rw [HMS.out, HMM1.out, if_pos rfl, ← List.append_assoc, List.length_append, HNG.out]
                            exact own_snoc_it hown1 rfl rfl
                          case measure => simp [intOf]; omega
                  · have hcx' : (bnm.toList == [120, 45, 103, 122, 105, 112]) = false := by rw [hcx]; simpa using hxg
                    have HX := hide hxg
                    clear hcx hxg
                    go_upto_region 17 with (fail)
                    have cy := HKC.out w8 T
                    go_wp2_with fail
                    refine (q4 w8).mono ?_
                    rintro e w10 ⟨rfl, hw⟩
                    subst hw
                    by_cases h2 : btt.size < 2
                    · have ho6 := ho3.below T
                      have r6 := r3.below (T.mono hz3)
                      have t6 := hb3.trans (T.mono hb3z)
                      have t6z := t6.size
                      have z6 := Nat.le_trans hz3 T.size
                      have hmm2 : mm.2 = false := by rw [HR.out, if_pos (by trivial), if_pos (by trivial), if_neg (fun h => by have := HZ.out; omega)] <;> rfl
                      have HMM2 := hide hmm2
                      clear hmm2
                      go_wp2
                      go_roundw
                      case rel => exact ⟨j + 1, by omega, by go_num, by rw [HMS.out, if_neg (by rw [HMM2.out]; simp), List.append_nil, HNG.out]; exact ho6, r6, ap3, z6, t6⟩
                      case measure => simp [intOf]; omega
                    · have h2' : 2 ≤ btt.size := by omega
                      go_wp2_with fail
                      refine (q5 w8).mono ?_
                      rintro e w11 ⟨rfl, k⟩
                      replace f0 := free_keep c0 f0 k
                      replace f1 := free_keep c1 f1 k
                      replace c0 := cell_keep c0 k
                      replace c1 := cell_keep c1 k
                      replace T := T.trans (k.mono T.size)
                      clear k
                      rcases sm with _ | _
                      · have ho6 := ho3.below T
                        have r6 := r3.below (T.mono hz3)
                        have t6 := hb3.trans (T.mono hb3z)
                        have t6z := t6.size
                        have z6 := Nat.le_trans hz3 T.size
                        have hmm2 : mm.2 = false := by rw [HR.out, if_pos (by trivial), if_pos (by trivial), if_neg (fun h => by simp at h)] <;> rfl
                        have HMM2 := hide hmm2
                        clear hmm2
                        go_wp2
                        go_roundw
                        case rel => exact ⟨j + 1, by omega, by go_num, by rw [HMS.out, if_neg (by rw [HMM2.out]; simp), List.append_nil, HNG.out]; exact ho6, r6, ap3, z6, t6⟩
                        case measure => simp [intOf]; omega
                      · go_wp2_with fail
                        refine (q6 w11).mono ?_
                        rintro e w12 ⟨rfl, hw⟩
                        subst hw
                        rcases wb with _ | _
                        · have ho6 := ho3.below T
                          have r6 := r3.below (T.mono hz3)
                          have t6 := hb3.trans (T.mono hb3z)
                          have t6z := t6.size
                          have z6 := Nat.le_trans hz3 T.size
                          have hmm2 : mm.2 = false := by rw [HR.out, if_pos (by trivial), if_pos (by trivial), if_neg (fun h => by simp at h)] <;> rfl
                          have HMM2 := hide hmm2
                          clear hmm2
                          go_wp2
                          go_roundw
                          case rel => exact ⟨j + 1, by omega, by go_num, by rw [HMS.out, if_neg (by rw [HMM2.out]; simp), List.append_nil, HNG.out]; exact ho6, r6, ap3, z6, t6⟩
                          case measure => simp [intOf]; omega
                        · go_upto_region 23 with (fail)
                          have d0 : (w11.setCell ⟨g, 1, none⟩ (.int .i64 wv)).cell? ⟨g, 1, none⟩ = some (.int .i64 wv) := World.cell?_setCell_same' w11 _ _ (by rw [c1]; rfl)
                          have d1 : (w11.setCell ⟨g, 1, none⟩ (.int .i64 wv)).cell? ⟨g, 0, none⟩ = some (.string bnm) := (World.cell?_setCell_other _ _ _ _ (by simp)).trans c0
                          have e0 : (w11.setCell ⟨g, 1, none⟩ (.int .i64 wv)).frozen? ⟨g, 0, none⟩ = false := by rw [World.frozen?_setCell]; exact f0
                          have e1 : (w11.setCell ⟨g, 1, none⟩ (.int .i64 wv)).frozen? ⟨g, 1, none⟩ = false := by rw [World.frozen?_setCell]; exact f1
                          replace T : Below wr.heap.size wr (w11.setCell ⟨g, 1, none⟩ (.int .i64 wv)) := T.setCell hgT _
                          clear c0 c1 f0 f1
                          generalize w11.setCell ⟨g, 1, none⟩ (.int .i64 wv) = w13 at d0 d1 e0 e1 T ⊢
                          have c1 := d0
                          have c0 := d1
                          have f0 := e0
                          have f1 := e1
                          clear d0 d1 e0 e1
                          have ho6 := ho3.below T
                          have r6 := r3.below (T.mono hz3)
                          have t6 := hb3.trans (T.mono hb3z)
                          have t6z := t6.size
                          have z6 := Nat.le_trans hz3 T.size
                          have hmm1 : mm = ((nm, wv), true) := by rw [HR.out, if_pos (by trivial), if_pos (by trivial), if_pos (by refine ⟨?_, ?_, ?_⟩ <;> first | trivial | (have := HZ.out; omega)), if_neg HX.out] <;> rfl
                          have HMM1 := hide hmm1
                          clear hmm1
                          go_wp2_with (at_builtin; refine wpl_push_ow rfl _ _ _ rfl w.heap.size i0 _ 2 24 Tryz.underlying57 hi0 hz0 hz1 hz2 rfl (by omega) _ _ _ rfl _ rfl ho6 rfl (by simp [Value.oneCell']) (by unfold maxLen; omega) (by omega) t6z ?_; intro v1 w99 hown1 hbel1 hg1 hv1)
                          have r7 := r6.grown hg1 z6 ap3
                          have ap7 := ap3.step r6 (by omega) z6 hv1
                          have z7 := Nat.le_trans z6 hg1.size
                          clear r6 ap3 hg1 hv1
                          go_roundw
                          case rel =>
                            refine ⟨j + 1, by omega, by go_num, ?_, r7, ap7, z7, t6.trans hbel1⟩
                            rw [HMS.out, HMM1.out, if_pos rfl, ← List.append_assoc, List.length_append, HNG.out]
                            exact own_snoc_it hown1 HN.out rfl
                          case measure => simp [intOf]; omega
        · rw [List.take_of_length_le (by have := HM2.out; omega)] at ho3
          go_wp2
          go_roundw
          case rel => exact ⟨k + 1, by omega, by go_num, by rw [HS.out]; exact ho3, hb3⟩
          case measure => simp [intOf]; omega
    · rw [List.take_of_length_le (by have := HLEN.out; omega)] at ho
      go_wp2
      go_ret
      obtain ⟨A', c', rfl, hc', -⟩ := ho.shape
      exact ⟨A', c', rfl, ho, hc', hb⟩
end Go.Proofs.YtgdjlmpfjmakkaaGreatDoor
