/- accept.Weight and the reference's. -/
import Derived.Test.YtgdjlmpfjmakkaaDoorCut
namespace Go.Proofs.YtgdjlmpfjmakkaaDoor
open Go.RowKit

/-- Three digits: padded by noughts. -/
def pad3 (t : List UInt8) : List UInt8 := (t ++ [48, 48, 48]).take 3
/-- A weight in thousandths, and whether it is one. -/
def weightL (s : List UInt8) : Nat × Bool :=
  if (cutHead 46 s = [48] ∨ cutHead 46 s = [49]) ∧ (cutTail 46 s).length ≤ 3 ∧ (cutTail 46 s).all digB = true then
    (if cutHead 46 s = [49] then (if 0 < decV (pad3 (cutTail 46 s)) then (0, false) else (1000, true)) else (decV (pad3 (cutTail 46 s)), true))
  else (0, false)
theorem pad3_len (t : List UInt8) : (pad3 t).length = 3 := by unfold pad3; rw [List.length_take, List.length_append]; simp
theorem pad3_all (t : List UInt8) (h : t.all digB = true) : (pad3 t).all digB = true := by
  rw [List.all_eq_true] at h ⊢
  intro x hx
  have := List.mem_of_mem_take hx
  rcases List.mem_append.1 this with h1 | h1
  · exact h x h1
  · have : x = 48 := by simpa using h1
    subst this; decide
theorem pad3_lt (t : List UInt8) (h : t.all digB = true) : decV (pad3 t) < 1000 := by
  have := decV_lt (pad3 t) (pad3_all t h) 3 (by rw [pad3_len]; omega)
  rwa [List.take_of_length_le (by rw [pad3_len]; omega)] at this

set_option maxRecDepth 100000 in
set_option maxHeartbeats 3200000 in
theorem weight_any (s : ByteArray) (w : World) (hs : s.size ≤ 9223372036854775807) :
    Calls Tryd.prog 65 #[.string s] w fun e w' => e = .returned (.tuple #[.int .i64 (weightL s.data.toList).1, .bool (weightL s.data.toList).2]) ∧ Below w.heap.size w w' := by
  have hc := strcut_any s 46 w hs
  have hle := cutHead_le 46 s.data.toList
  obtain ⟨r, hr⟩ : ∃ r, r = weightL s.data.toList := ⟨_, rfl⟩
  rw [← hr]
  unfold weightL at hr
  obtain ⟨hd, hhd⟩ : ∃ hd, hd = cutHead 46 s.data.toList := ⟨_, rfl⟩
  obtain ⟨tl, htl⟩ : ∃ tl, tl = cutTail 46 s.data.toList := ⟨_, rfl⟩
  rw [← hhd, ← htl] at hr
  rw [← hhd, ← htl] at hc
  obtain ⟨hs', hhs⟩ : ∃ h, h = cutHas 46 s.data.toList := ⟨_, rfl⟩
  rw [← hhs] at hc
  have hz2 := mk_size tl
  have e0 : ((⟨hd.toArray⟩ : ByteArray).toList == [48]) = decide (hd = [48]) := by rw [ByteArray.toList_eq, Bool.eq_iff_iff]; simp
  have e1 : ((⟨hd.toArray⟩ : ByteArray).toList == [49]) = decide (hd = [49]) := by rw [ByteArray.toList_eq, Bool.eq_iff_iff]; simp
  obtain ⟨bh, hbh⟩ : ∃ b : ByteArray, b = ⟨hd.toArray⟩ := ⟨_, rfl⟩
  rw [← hbh] at hc e0 e1
  have htz : (⟨tl.toArray⟩ : ByteArray).size ≤ 9223372036854775807 := by rw [mk_size, htl]; unfold cutTail; rw [List.length_drop, ← size_of]; omega
  have htr : ∀ W, Calls Tryd.prog 89 #[.string ⟨tl.toArray⟩, .string ⟨#[48, 49, 50, 51, 52, 53, 54, 55, 56, 57]⟩] W (fun e w' => e = .returned (.string ⟨(Lib.trimS tl digs).toArray⟩) ∧ Below W.heap.size W w') := fun (W : World) => Tryd.strings_Trim_ascii ⟨tl.toArray⟩ ⟨#[48, 49, 50, 51, 52, 53, 54, 55, 56, 57]⟩ W htz (by decide) (fun j b h => by
    have hb : b ∈ digs := List.mem_of_getElem? h
    simp [digs] at hb; rcases hb with rfl | rfl | rfl | rfl | rfl | rfl | rfl | rfl | rfl | rfl <;> decide)
  have hcv := fun w => run_bytes_of_string (P := Tryd.prog) w 9 66 5 ⟨(pad3 tl).toArray⟩ Tryd.underlying9 Tryd.underlying66 Tryd.underlying5
  have hpz := mk_size (pad3 tl)
  have hpl := mk_list (pad3 tl)
  have hp3 := pad3_len tl
  have hpe : ((⟨tl.toArray⟩ : ByteArray) ++ ⟨#[48, 48, 48]⟩).extract 0 3 = ⟨(pad3 tl).toArray⟩ := bytes_ext (by rw [extract_list, mk_list]; unfold pad3; simp)
  have htn := trim_nil tl
  have hpa := pad3_all tl
  have hlt := pad3_lt tl
  have hdt := decV_take (pad3 tl)
  have hsm := fun k (h : tl.all digB = true) (hk : k ≤ (pad3 tl).length) => decV_lt (pad3 tl) (hpa h) k hk
  obtain ⟨pd, hpd⟩ : ∃ p, p = pad3 tl := ⟨_, rfl⟩
  rw [← hpd] at hr hcv hpz hpl hp3 hpe hpa hlt hdt hsm
  obtain ⟨bp, hbp⟩ : ∃ b : ByteArray, b = ⟨pd.toArray⟩ := ⟨_, rfl⟩
  rw [← hbp] at hcv hpz hpl hpe
  have hne : ∀ (h : ¬ tl.all digB = true), (⟨(Lib.trimS tl digs).toArray⟩ : ByteArray).toList.isEmpty = false := fun h => by
    rw [ByteArray.toList_eq]
    have : ¬ Lib.trimS tl digs = [] := fun e => h (htn.1 e)
    simpa using this
  obtain ⟨tb, htb⟩ : ∃ b : ByteArray, b = ⟨tl.toArray⟩ := ⟨_, rfl⟩
  rw [← htb] at hc htr hpe hz2
  have HR := hide hr
  have HZ2 := hide hz2
  rw [hp3] at hpz
  have HDT := hide hdt
  have HPL := hide hpl
  have HP3 := hide hp3
  clear hr hle hhd htl hhs hbh hpd hbp htb hdt hpl hp3
  by_cases h48 : hd = [48]
  · have E0 : (bh.toList == [48]) = true := by rw [e0]; simp [h48]
    have E1 : (bh.toList == [49]) = false := by rw [e1]; simp [h48]
    clear e0 e1
    by_cases h3 : tl.length ≤ 3
    · by_cases hall : tl.all digB = true
      · have h48' := hide h48
        clear h48
        have hsm' := fun k hk => hsm k hall hk
        have hpa' := hpa hall
        have hlt' := hlt hall
        have hnil := htn.2 hall
        rw [hnil] at htr
        have HS := hide hsm'
        have HA := hide hpa'
        have HQ := hide hall
        have htl3 : tb.size ≤ 3 := by rw [hz2]; exact h3
        have HL3 := hide h3
        clear hsm hpa hlt hnil htn hne hsm' hpa' hall hz2 h3 htz
        go_enter Tryd.func65, Tryd.ntmps65
        go_wp2_with fail
        refine hc.mono ?_
        rintro e w1 ⟨rfl, b1⟩
        clear hc
        go_wp2_with fail
        refine (htr _).mono ?_
        rintro e w2 ⟨rfl, b2⟩
        have t2 := b1.trans (b2.mono b1.size)
        obtain ⟨c, hc'⟩ : ∃ c, c = grownCap w2 bp.size 0 5 := ⟨_, rfl⟩
        have hc1 : bp.size ≤ c := by rw [hc']; exact grownCap_ge _ _ _ _
        have hc2 : c ≤ maxLen := by rw [hc']; exact grownCap_le_maxLen _ _ _ _ (by simp [maxLen]; omega)
        have hcv1 := hcv w2
        rw [← hc'] at hcv1
        have ho := ow_of_string w2 5 bp c hc1 hc2
        rw [hpz] at hc1 hcv1 ho
        rw [HPL.out] at ho
        clear hcv hc' htr b1 b2
        go_wp2_with fail
        go_loopw [7, 37] (fun v i wr => ∃ k : Nat, k ≤ 3 ∧ i = .int .i64 k ∧ v = .int .i64 (decV (pd.take k)) ∧ Ow wr w2.heap.size 1 (.slice (some ⟨w2.heap.size, 0, none⟩) 3 c) 3 (pd.map fun b => .int .u8 b.toNat) ∧ Below w.heap.size w wr) (fun _ i _ => 3 - (intOf i).toNat)
        case atStart => exact ⟨0, Nat.zero_le _, rfl, rfl, ho, t2.drew.alloc t2.size _⟩
        case round =>
          clear ho hcv1 t2
          obtain ⟨k, hk, rfl, rfl, ho, hb⟩ := hrel
          have hsk := HS.out k (by rw [HP3.out]; exact hk)
          have hpw : 10 ^ k ≤ 10 ^ 3 := Nat.pow_le_pow_right (by decide) hk
          have hsk' : decV (pd.take k) < 1000 := by omega
          clear hsk hpw
          by_cases hkl : k < 3
          · obtain ⟨g, off, hA, -, hg2, hcell, hfr⟩ := ho.at_ (j := k) (by omega)
            cases hA
            have hkp : k < pd.length := by rw [HP3.out]; exact hkl
            have hdv := HDT.out k hkp
            have hdg := (digB_iff _).1 (List.all_eq_true.1 HA.out _ (List.getElem_mem hkp))
            rw [List.getElem?_map, List.getElem?_eq_getElem hkp, Option.map_some] at hcell
            obtain ⟨b, hbb⟩ : ∃ b, b = pd[k] := ⟨_, rfl⟩
            rw [← hbb] at hcell hdv hdg
            simp only [Nat.zero_add] at hcell
            obtain ⟨q, hq⟩ : ∃ q, q = decV (pd.take k) := ⟨_, rfl⟩
            rw [← hq] at hdv hsk' ⊢
            have HV := hide hdv
            clear hbb hkp hdv hq
            go_wp2
            go_roundw
            case rel => exact ⟨k + 1, by omega, by go_num, by rw [HV.out]; exact congrArg (Value.int .i64) (by omega), ho, hb⟩
            case measure => simp [intOf]; omega
          · have hfin : pd.take k = pd := List.take_of_length_le (by rw [HP3.out]; omega)
            rw [hfin] at hsk' ⊢
            obtain ⟨q, hq⟩ : ∃ q, q = decV pd := ⟨_, rfl⟩
            have HV := hide hq
            rw [← hq] at hsk' hlt' ⊢
            clear hfin ho hq
            go_wp2
            go_ret2
            exact ⟨by rw [HR.out, if_pos ⟨.inl h48'.out, HL3.out, HQ.out⟩, if_neg (by rw [h48'.out]; decide), ← HV.out] <;> rfl, hb⟩
      · clear h48
        have hne' := hne hall
        have HQ := hide hall
        have htl3 : tb.size ≤ 3 := by rw [hz2]; exact h3
        obtain ⟨tt, htt⟩ : ∃ tt : ByteArray, tt = ⟨(Lib.trimS tl digs).toArray⟩ := ⟨_, rfl⟩
        rw [← htt] at hne'
        simp only [← htt] at htr
        clear hsm hpa hlt htn hne hall hz2 h3 hcv htt htz
        go_enter Tryd.func65, Tryd.ntmps65
        go_wp2_with fail
        refine hc.mono ?_
        rintro e w1 ⟨rfl, b1⟩
        clear hc
        go_wp2_with fail
        refine (htr _).mono ?_
        rintro e w2 ⟨rfl, b2⟩
        go_wp2
        go_ret2
        exact ⟨by rw [HR.out, if_neg (fun h => HQ.out h.2.2)] <;> rfl, b1.trans (b2.mono b1.size)⟩
    · clear h48
      have htl3 : 3 < tb.size := by rw [hz2]; omega
      have HL3 := hide h3
      clear hsm hpa hlt htn hne hz2 h3 hcv htr
      go_enter Tryd.func65, Tryd.ntmps65
      go_wp2_with fail
      refine hc.mono ?_
      rintro e w1 ⟨rfl, b1⟩
      clear hc
      go_wp2
      go_ret2
      exact ⟨by rw [HR.out, if_neg (fun h => HL3.out h.2.1)] <;> rfl, b1⟩
  · by_cases h49 : hd = [49]
    · have E0 : (bh.toList == [48]) = false := by rw [e0]; simp [h49]
      have E1 : (bh.toList == [49]) = true := by rw [e1]; simp [h49]
      clear e0 e1 h48
      by_cases h3 : tl.length ≤ 3
      · by_cases hall : tl.all digB = true
        · have h49' := hide h49
          clear h49
          have hsm' := fun k hk => hsm k hall hk
          have hpa' := hpa hall
          have hlt' := hlt hall
          have hnil := htn.2 hall
          rw [hnil] at htr
          have HS := hide hsm'
          have HA := hide hpa'
          have HQ := hide hall
          have htl3 : tb.size ≤ 3 := by rw [hz2]; exact h3
          have HL3 := hide h3
          clear hsm hpa hlt hnil htn hne hsm' hpa' hall hz2 h3 htz
          go_enter Tryd.func65, Tryd.ntmps65
          go_wp2_with fail
          refine hc.mono ?_
          rintro e w1 ⟨rfl, b1⟩
          clear hc
          go_wp2_with fail
          refine (htr _).mono ?_
          rintro e w2 ⟨rfl, b2⟩
          have t2 := b1.trans (b2.mono b1.size)
          obtain ⟨c, hc'⟩ : ∃ c, c = grownCap w2 bp.size 0 5 := ⟨_, rfl⟩
          have hc1 : bp.size ≤ c := by rw [hc']; exact grownCap_ge _ _ _ _
          have hc2 : c ≤ maxLen := by rw [hc']; exact grownCap_le_maxLen _ _ _ _ (by simp [maxLen]; omega)
          have hcv1 := hcv w2
          rw [← hc'] at hcv1
          have ho := ow_of_string w2 5 bp c hc1 hc2
          rw [hpz] at hc1 hcv1 ho
          rw [HPL.out] at ho
          clear hcv hc' htr b1 b2
          go_wp2_with fail
          go_loopw [7, 37] (fun v i wr => ∃ k : Nat, k ≤ 3 ∧ i = .int .i64 k ∧ v = .int .i64 (decV (pd.take k)) ∧ Ow wr w2.heap.size 1 (.slice (some ⟨w2.heap.size, 0, none⟩) 3 c) 3 (pd.map fun b => .int .u8 b.toNat) ∧ Below w.heap.size w wr) (fun _ i _ => 3 - (intOf i).toNat)
          case atStart => exact ⟨0, Nat.zero_le _, rfl, rfl, ho, t2.drew.alloc t2.size _⟩
          case round =>
            clear ho hcv1 t2
            obtain ⟨k, hk, rfl, rfl, ho, hb⟩ := hrel
            have hsk := HS.out k (by rw [HP3.out]; exact hk)
            have hpw : 10 ^ k ≤ 10 ^ 3 := Nat.pow_le_pow_right (by decide) hk
            have hsk' : decV (pd.take k) < 1000 := by omega
            clear hsk hpw
            by_cases hkl : k < 3
            · obtain ⟨g, off, hA, -, hg2, hcell, hfr⟩ := ho.at_ (j := k) (by omega)
              cases hA
              have hkp : k < pd.length := by rw [HP3.out]; exact hkl
              have hdv := HDT.out k hkp
              have hdg := (digB_iff _).1 (List.all_eq_true.1 HA.out _ (List.getElem_mem hkp))
              rw [List.getElem?_map, List.getElem?_eq_getElem hkp, Option.map_some] at hcell
              obtain ⟨b, hbb⟩ : ∃ b, b = pd[k] := ⟨_, rfl⟩
              rw [← hbb] at hcell hdv hdg
              simp only [Nat.zero_add] at hcell
              obtain ⟨q, hq⟩ : ∃ q, q = decV (pd.take k) := ⟨_, rfl⟩
              rw [← hq] at hdv hsk' ⊢
              have HV := hide hdv
              clear hbb hkp hdv hq
              go_wp2
              go_roundw
              case rel => exact ⟨k + 1, by omega, by go_num, by rw [HV.out]; exact congrArg (Value.int .i64) (by omega), ho, hb⟩
              case measure => simp [intOf]; omega
            · have hfin : pd.take k = pd := List.take_of_length_le (by rw [HP3.out]; omega)
              rw [hfin] at hsk' ⊢
              obtain ⟨q, hq⟩ : ∃ q, q = decV pd := ⟨_, rfl⟩
              have HV := hide hq
              rw [← hq] at hsk' hlt' ⊢
              clear hfin ho hq
              by_cases hq0 : 0 < q
              · go_wp2
                go_ret2
                exact ⟨by rw [HR.out, if_pos ⟨.inr h49'.out, HL3.out, HQ.out⟩, if_pos h49'.out, ← HV.out, if_pos hq0] <;> rfl, hb⟩
              · go_wp2
                go_ret2
                exact ⟨by rw [HR.out, if_pos ⟨.inr h49'.out, HL3.out, HQ.out⟩, if_pos h49'.out, ← HV.out, if_neg hq0] <;> rfl, hb⟩
        · clear h49
          have hne' := hne hall
          have HQ := hide hall
          have htl3 : tb.size ≤ 3 := by rw [hz2]; exact h3
          obtain ⟨tt, htt⟩ : ∃ tt : ByteArray, tt = ⟨(Lib.trimS tl digs).toArray⟩ := ⟨_, rfl⟩
          rw [← htt] at hne'
          simp only [← htt] at htr
          clear hsm hpa hlt htn hne hall hz2 h3 hcv htt htz
          go_enter Tryd.func65, Tryd.ntmps65
          go_wp2_with fail
          refine hc.mono ?_
          rintro e w1 ⟨rfl, b1⟩
          clear hc
          go_wp2_with fail
          refine (htr _).mono ?_
          rintro e w2 ⟨rfl, b2⟩
          go_wp2
          go_ret2
          exact ⟨by rw [HR.out, if_neg (fun h => HQ.out h.2.2)] <;> rfl, b1.trans (b2.mono b1.size)⟩
      · clear h49
        have htl3 : 3 < tb.size := by rw [hz2]; omega
        have HL3 := hide h3
        clear hsm hpa hlt htn hne hz2 h3 hcv htr
        go_enter Tryd.func65, Tryd.ntmps65
        go_wp2_with fail
        refine hc.mono ?_
        rintro e w1 ⟨rfl, b1⟩
        clear hc
        go_wp2
        go_ret2
        exact ⟨by rw [HR.out, if_neg (fun h => HL3.out h.2.1)] <;> rfl, b1⟩
    · have E0 : (bh.toList == [48]) = false := by rw [e0]; simp [h48]
      have E1 : (bh.toList == [49]) = false := by rw [e1]; simp [h49]
      have H8 := hide h48
      have H9 := hide h49
      clear e0 e1 h48 h49 hsm hpa hlt htn hne hz2 hcv htr
      go_enter Tryd.func65, Tryd.ntmps65
      go_wp2_with fail
      refine hc.mono ?_
      rintro e w1 ⟨rfl, b1⟩
      clear hc
      go_wp2
      go_ret2
      exact ⟨by rw [HR.out, if_neg (fun h => h.1.elim H8.out H9.out)] <;> rfl, b1⟩

/- The reference. -/
theorem weight_cons (c : UInt8) (r : List UInt8) : weightL (c :: r) =
    if (c = 48 ∨ c = 49) ∧ (r = [] ∨ r.head? = some 46) ∧ (r.drop 1).length ≤ 3 ∧ (r.drop 1).all digB = true then
      (if c = 49 then (if 0 < decV (pad3 (r.drop 1)) then (0, false) else (1000, true)) else (decV (pad3 (r.drop 1)), true)) else (0, false) := by
  unfold weightL cutTail
  rw [cutHead_cons]
  by_cases hc : (c == 46) = true
  · have : c = 46 := by simpa using hc
    subst this
    simp
  · rw [if_neg hc]
    cases r with
    | nil => simp [cutHead]
    | cons d r =>
      rw [cutHead_cons]
      by_cases hd : (d == 46) = true
      · have : d = 46 := by simpa using hd
        subst this
        simp
      · have hd' : ¬ d = 46 := by simpa using hd
        rw [if_neg hd]
        simp [hd']
end Go.Proofs.YtgdjlmpfjmakkaaDoor
