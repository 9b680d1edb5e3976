/- accept.Weight and the reference's. -/
import Derived.Test.YtgdjlmpfjmakkaaGreatDoorCut
import Derived.Test.YtgdjlmpfjmakkaaGreatDoorTold
import Derived.Test.YtgdjlmpfjmakkaaGreatDoorRefName
namespace Go.Proofs.YtgdjlmpfjmakkaaGreatDoor
open Go.RowKit

/-- Three digits: padded by noughts. -/
def pad3 (t : List UInt8) : List UInt8 := (t ++ [48, 48, 48]).take 3
/-- A weight in thousandths, and whether it is one. -/
def weightL (s : List UInt8) : Nat × Bool :=
  if (cutHead 46 s = [48] ∨ cutHead 46 s = [49]) ∧ (cutTail 46 s).length ≤ 3 ∧ (cutTail 46 s).all digB = true then
    (if cutHead 46 s = [49] then (if 0 < decV (pad3 (cutTail 46 s)) then (0, false) else (1000, true)) else (decV (pad3 (cutTail 46 s)), true))
  else (0, false)
theorem pad3_len (t : List UInt8) : (pad3 t).length = 3 := by unfold pad3; rw [List.length_take, List.length_append]; simp
theorem pad3_all (t : List UInt8) (h : t.all digB = true) : (pad3 t).all digB = true := by
  rw [List.all_eq_true] at h ⊢
  intro x hx
  have := List.mem_of_mem_take hx
  rcases List.mem_append.1 this with h1 | h1
  · exact h x h1
  · have : x = 48 := by simpa using h1
    subst this; decide
theorem pad3_lt (t : List UInt8) (h : t.all digB = true) : decV (pad3 t) < 1000 := by
  have := decV_lt (pad3 t) (pad3_all t h) 3 (by rw [pad3_len]; omega)
  rwa [List.take_of_length_le (by rw [pad3_len]; omega)] at this

set_option maxRecDepth 100000 in
set_option maxHeartbeats 3200000 in
theorem weight_any (s : ByteArray) (w : World) (hs : s.size ≤ 9223372036854775807) :
    Calls Tryz.prog 73 #[.string s] w fun e w' => e = .returned (.tuple #[.int .i64 (weightL s.data.toList).1, .bool (weightL s.data.toList).2]) ∧ Below w.heap.size w w' := by
  have hc := strcut_any s 46 w hs
  have hle := cutHead_le 46 s.data.toList
  obtain ⟨r, hr⟩ : ∃ r, r = weightL s.data.toList := ⟨_, rfl⟩
  rw [← hr]
  unfold weightL at hr
  obtain ⟨hd, hhd⟩ : ∃ hd, hd = cutHead 46 s.data.toList := ⟨_, rfl⟩
  obtain ⟨tl, htl⟩ : ∃ tl, tl = cutTail 46 s.data.toList := ⟨_, rfl⟩
  rw [← hhd, ← htl] at hr
  rw [← hhd, ← htl] at hc
  obtain ⟨hs', hhs⟩ : ∃ h, h = cutHas 46 s.data.toList := ⟨_, rfl⟩
  rw [← hhs] at hc
  have hz2 := mk_size tl
  have e0 : ((⟨hd.toArray⟩ : ByteArray).toList == [48]) = decide (hd = [48]) := by rw [ByteArray.toList_eq, Bool.eq_iff_iff]; simp
  have e1 : ((⟨hd.toArray⟩ : ByteArray).toList == [49]) = decide (hd = [49]) := by rw [ByteArray.toList_eq, Bool.eq_iff_iff]; simp
  obtain ⟨bh, hbh⟩ : ∃ b : ByteArray, b = ⟨hd.toArray⟩ := ⟨_, rfl⟩
  rw [← hbh] at hc e0 e1
  have htz : (⟨tl.toArray⟩ : ByteArray).size ≤ 9223372036854775807 := by rw [mk_size, htl]; unfold cutTail; rw [List.length_drop, ← size_of]; omega
  have htr : ∀ W, Calls Tryz.prog 57 #[.string ⟨tl.toArray⟩, .string ⟨#[48, 49, 50, 51, 52, 53, 54, 55, 56, 57]⟩] W (fun e w' => e = .returned (.string ⟨(Lib.trimS tl digs).toArray⟩) ∧ Below W.heap.size W w') := fun (W : World) => Tryz.strings_Trim_ascii ⟨tl.toArray⟩ ⟨#[48, 49, 50, 51, 52, 53, 54, 55, 56, 57]⟩ W htz (by decide) (fun j b h => by
    have hb : b ∈ digs := List.mem_of_getElem? h
    simp [digs] at hb; rcases hb with rfl | rfl | rfl | rfl | rfl | rfl | rfl | rfl | rfl | rfl <;> decide)
  have hcv := fun w => run_bytes_of_string (P := Tryz.prog) w 9 68 5 ⟨(pad3 tl).toArray⟩ Tryz.underlying9 Tryz.underlying68 Tryz.underlying5
  have hpz := mk_size (pad3 tl)
  have hpl := mk_list (pad3 tl)
  have hp3 := pad3_len tl
  have hpe : ((⟨tl.toArray⟩ : ByteArray) ++ ⟨#[48, 48, 48]⟩).extract 0 3 = ⟨(pad3 tl).toArray⟩ := bytes_ext (by rw [extract_list, mk_list]; unfold pad3; simp)
  have htn := trim_nil tl
  have hpa := pad3_all tl
  have hlt := pad3_lt tl
  have hdt := decV_take (pad3 tl)
  have hsm := fun k (h : tl.all digB = true) (hk : k ≤ (pad3 tl).length) => decV_lt (pad3 tl) (hpa h) k hk
  obtain ⟨pd, hpd⟩ : ∃ p, p = pad3 tl := ⟨_, rfl⟩
  rw [← hpd] at hr hcv hpz hpl hp3 hpe hpa hlt hdt hsm
  obtain ⟨bp, hbp⟩ : ∃ b : ByteArray, b = ⟨pd.toArray⟩ := ⟨_, rfl⟩
  rw [← hbp] at hcv hpz hpl hpe
  have hne : ∀ (h : ¬ tl.all digB = true), (⟨(Lib.trimS tl digs).toArray⟩ : ByteArray).toList.isEmpty = false := fun h => by
    rw [ByteArray.toList_eq]
    have : ¬ Lib.trimS tl digs = [] := fun e => h (htn.1 e)
    simpa using this
  obtain ⟨tb, htb⟩ : ∃ b : ByteArray, b = ⟨tl.toArray⟩ := ⟨_, rfl⟩
  rw [← htb] at hc htr hpe hz2
  have HR := hide hr
  have HZ2 := hide hz2
  rw [hp3] at hpz
  have HDT := hide hdt
  have HPL := hide hpl
  have HP3 := hide hp3
  clear hr hle hhd htl hhs hbh hpd hbp htb hdt hpl hp3
  by_cases h48 : hd = [48]
  · have E0 : (bh.toList == [48]) = true := by rw [e0]; simp [h48]
    have E1 : (bh.toList == [49]) = false := by rw [e1]; simp [h48]
    clear e0 e1
    by_cases h3 : tl.length ≤ 3
    · by_cases hall : tl.all digB = true
      · have h48' := hide h48
        clear h48
        have hsm' := fun k hk => hsm k hall hk
        have hpa' := hpa hall
        have hlt' := hlt hall
        have hnil := htn.2 hall
        rw [hnil] at htr
        have HS := hide hsm'
        have HA := hide hpa'
        have HQ := hide hall
        have htl3 : tb.size ≤ 3 := by rw [hz2]; exact h3
        have HL3 := hide h3
        clear hsm hpa hlt hnil htn hne hsm' hpa' hall hz2 h3 htz
        go_enter Tryz.func73, Tryz.ntmps73
        go_wp2_with fail
        refine hc.mono ?_
        rintro e w1 ⟨rfl, b1⟩
        clear hc
        go_wp2_with fail
        refine (htr _).mono ?_
        rintro e w2 ⟨rfl, b2⟩
        have t2 := b1.trans (b2.mono b1.size)
        obtain ⟨c, hc'⟩ : ∃ c, c = grownCap w2 bp.size 0 5 := ⟨_, rfl⟩
        have hc1 : bp.size ≤ c := by rw [hc']; exact grownCap_ge _ _ _ _
        have hc2 : c ≤ maxLen := by rw [hc']; exact grownCap_le_maxLen _ _ _ _ (by simp [maxLen]; omega)
        have hcv1 := hcv w2
        rw [← hc'] at hcv1
        have ho := ow_of_string w2 5 bp c hc1 hc2
        rw [hpz] at hc1 hcv1 ho
        rw [HPL.out] at ho
        clear hcv hc' htr b1 b2
        go_wp2_with fail
        go_loopw [7, 37] (fun v i wr => ∃ k : Nat, k ≤ 3 ∧ i = .int .i64 k ∧ v = .int .i64 (decV (pd.take k)) ∧ Ow wr w2.heap.size 1 (.slice (some ⟨w2.heap.size, 0, none⟩) 3 c) 3 (pd.map fun b => .int .u8 b.toNat) ∧ Below w.heap.size w wr) (fun _ i _ => 3 - (intOf i).toNat)
        case atStart => exact ⟨0, Nat.zero_le _, rfl, rfl, ho, t2.drew.alloc t2.size _⟩
        case round =>
          clear ho hcv1 t2
          obtain ⟨k, hk, rfl, rfl, ho, hb⟩ := hrel
          have hsk := HS.out k (by rw [HP3.out]; exact hk)
          have hpw : 10 ^ k ≤ 10 ^ 3 := Nat.pow_le_pow_right (by decide) hk
          have hsk' : decV (pd.take k) < 1000 := by omega
          clear hsk hpw
          by_cases hkl : k < 3
          · obtain ⟨g, off, hA, -, hg2, hcell, hfr⟩ := ho.at_ (j := k) (by omega)
            cases hA
            have hkp : k < pd.length := by rw [HP3.out]; exact hkl
            have hdv := HDT.out k hkp
            have hdg := (digB_iff _).1 (List.all_eq_true.1 HA.out _ (List.getElem_mem hkp))
            rw [List.getElem?_map, List.getElem?_eq_getElem hkp, Option.map_some] at hcell
            obtain ⟨b, hbb⟩ : ∃ b, b = pd[k] := ⟨_, rfl⟩
            rw [← hbb] at hcell hdv hdg
            simp only [Nat.zero_add] at hcell
            obtain ⟨q, hq⟩ : ∃ q, q = decV (pd.take k) := ⟨_, rfl⟩
            rw [← hq] at hdv hsk' ⊢
            have HV := hide hdv
            clear hbb hkp hdv hq
            go_wp2
            go_roundw
            case rel => exact ⟨k + 1, by omega, by go_num, by rw [HV.out]; exact congrArg (Value.int .i64) (by omega), ho, hb⟩
            case measure => simp [intOf]; omega
          · have hfin : pd.take k = pd := List.take_of_length_le (by rw [HP3.out]; omega)
            rw [hfin] at hsk' ⊢
            obtain ⟨q, hq⟩ : ∃ q, q = decV pd := ⟨_, rfl⟩
            have HV := hide hq
            rw [← hq] at hsk' hlt' ⊢
            clear hfin ho hq
            go_wp2
            go_ret2
            exact ⟨by rw [HR.out, if_pos ⟨.inl h48'.out, HL3.out, HQ.out⟩, if_neg (by rw [h48'.out]; decide), ← HV.out] <;> rfl, hb⟩
      · clear h48
        have hne' := hne hall
        have HQ := hide hall
        have htl3 : tb.size ≤ 3 := by rw [hz2]; exact h3
        obtain ⟨tt, htt⟩ : ∃ tt : ByteArray, tt = ⟨(Lib.trimS tl digs).toArray⟩ := ⟨_, rfl⟩
        rw [← htt] at hne'
        simp only [← htt] at htr
        clear hsm hpa hlt htn hne hall hz2 h3 hcv htt htz
        go_enter Tryz.func73, Tryz.ntmps73
        go_wp2_with fail
        refine hc.mono ?_
        rintro e w1 ⟨rfl, b1⟩
        clear hc
        go_wp2_with fail
        refine (htr _).mono ?_
        rintro e w2 ⟨rfl, b2⟩
        go_wp2
        go_ret2
        exact ⟨by rw [HR.out, if_neg (fun h => HQ.out h.2.2)] <;> rfl, b1.trans (b2.mono b1.size)⟩
    · clear h48
      have htl3 : 3 < tb.size := by rw [hz2]; omega
      have HL3 := hide h3
      clear hsm hpa hlt htn hne hz2 h3 hcv htr
      go_enter Tryz.func73, Tryz.ntmps73
      go_wp2_with fail
      refine hc.mono ?_
      rintro e w1 ⟨rfl, b1⟩
      clear hc
      go_wp2
      go_ret2
      exact ⟨by rw [HR.out, if_neg (fun h => HL3.out h.2.1)] <;> rfl, b1⟩
  · by_cases h49 : hd = [49]
    · have E0 : (bh.toList == [48]) = false := by rw [e0]; simp [h49]
      have E1 : (bh.toList == [49]) = true := by rw [e1]; simp [h49]
      clear e0 e1 h48
      by_cases h3 : tl.length ≤ 3
      · by_cases hall : tl.all digB = true
        · have h49' := hide h49
          clear h49
          have hsm' := fun k hk => hsm k hall hk
          have hpa' := hpa hall
          have hlt' := hlt hall
          have hnil := htn.2 hall
          rw [hnil] at htr
          have HS := hide hsm'
          have HA := hide hpa'
          have HQ := hide hall
          have htl3 : tb.size ≤ 3 := by rw [hz2]; exact h3
          have HL3 := hide h3
          clear hsm hpa hlt hnil htn hne hsm' hpa' hall hz2 h3 htz
          go_enter Tryz.func73, Tryz.ntmps73
          go_wp2_with fail
          refine hc.mono ?_
          rintro e w1 ⟨rfl, b1⟩
          clear hc
          go_wp2_with fail
          refine (htr _).mono ?_
          rintro e w2 ⟨rfl, b2⟩
          have t2 := b1.trans (b2.mono b1.size)
          obtain ⟨c, hc'⟩ : ∃ c, c = grownCap w2 bp.size 0 5 := ⟨_, rfl⟩
          have hc1 : bp.size ≤ c := by rw [hc']; exact grownCap_ge _ _ _ _
          have hc2 : c ≤ maxLen := by rw [hc']; exact grownCap_le_maxLen _ _ _ _ (by simp [maxLen]; omega)
          have hcv1 := hcv w2
          rw [← hc'] at hcv1
          have ho := ow_of_string w2 5 bp c hc1 hc2
          rw [hpz] at hc1 hcv1 ho
          rw [HPL.out] at ho
          clear hcv hc' htr b1 b2
          go_wp2_with fail
          go_loopw [7, 37] (fun v i wr => ∃ k : Nat, k ≤ 3 ∧ i = .int .i64 k ∧ v = .int .i64 (decV (pd.take k)) ∧ Ow wr w2.heap.size 1 (.slice (some ⟨w2.heap.size, 0, none⟩) 3 c) 3 (pd.map fun b => .int .u8 b.toNat) ∧ Below w.heap.size w wr) (fun _ i _ => 3 - (intOf i).toNat)
          case atStart => exact ⟨0, Nat.zero_le _, rfl, rfl, ho, t2.drew.alloc t2.size _⟩
          case round =>
            clear ho hcv1 t2
            obtain ⟨k, hk, rfl, rfl, ho, hb⟩ := hrel
            have hsk := HS.out k (by rw [HP3.out]; exact hk)
            have hpw : 10 ^ k ≤ 10 ^ 3 := Nat.pow_le_pow_right (by decide) hk
            have hsk' : decV (pd.take k) < 1000 := by omega
            clear hsk hpw
            by_cases hkl : k < 3
            · obtain ⟨g, off, hA, -, hg2, hcell, hfr⟩ := ho.at_ (j := k) (by omega)
              cases hA
              have hkp : k < pd.length := by rw [HP3.out]; exact hkl
              have hdv := HDT.out k hkp
              have hdg := (digB_iff _).1 (List.all_eq_true.1 HA.out _ (List.getElem_mem hkp))
              rw [List.getElem?_map, List.getElem?_eq_getElem hkp, Option.map_some] at hcell
              obtain ⟨b, hbb⟩ : ∃ b, b = pd[k] := ⟨_, rfl⟩
              rw [← hbb] at hcell hdv hdg
              simp only [Nat.zero_add] at hcell
              obtain ⟨q, hq⟩ : ∃ q, q = decV (pd.take k) := ⟨_, rfl⟩
              rw [← hq] at hdv hsk' ⊢
              have HV := hide hdv
              clear hbb hkp hdv hq
              go_wp2
              go_roundw
              case rel => exact ⟨k + 1, by omega, by go_num, by rw [HV.out]; exact congrArg (Value.int .i64) (by omega), ho, hb⟩
              case measure => simp [intOf]; omega
            · have hfin : pd.take k = pd := List.take_of_length_le (by rw [HP3.out]; omega)
              rw [hfin] at hsk' ⊢
              obtain ⟨q, hq⟩ : ∃ q, q = decV pd := ⟨_, rfl⟩
              have HV := hide hq
              rw [← hq] at hsk' hlt' ⊢
              clear hfin ho hq
              by_cases hq0 : 0 < q
              · go_wp2
                go_ret2
                exact ⟨by rw [HR.out, if_pos ⟨.inr h49'.out, HL3.out, HQ.out⟩, if_pos h49'.out, ← HV.out, if_pos hq0] <;> rfl, hb⟩
              · go_wp2
                go_ret2
                exact ⟨by rw [HR.out, if_pos ⟨.inr h49'.out, HL3.out, HQ.out⟩, if_pos h49'.out, ← HV.out, if_neg hq0] <;> rfl, hb⟩
        · clear h49
          have hne' := hne hall
          have HQ := hide hall
          have htl3 : tb.size ≤ 3 := by rw [hz2]; exact h3
          obtain ⟨tt, htt⟩ : ∃ tt : ByteArray, tt = ⟨(Lib.trimS tl digs).toArray⟩ := ⟨_, rfl⟩
          rw [← htt] at hne'
          simp only [← htt] at htr
          clear hsm hpa hlt htn hne hall hz2 h3 hcv htt htz
          go_enter Tryz.func73, Tryz.ntmps73
          go_wp2_with fail
          refine hc.mono ?_
          rintro e w1 ⟨rfl, b1⟩
          clear hc
          go_wp2_with fail
          refine (htr _).mono ?_
          rintro e w2 ⟨rfl, b2⟩
          go_wp2
          go_ret2
          exact ⟨by rw [HR.out, if_neg (fun h => HQ.out h.2.2)] <;> rfl, b1.trans (b2.mono b1.size)⟩
      · clear h49
        have htl3 : 3 < tb.size := by rw [hz2]; omega
        have HL3 := hide h3
        clear hsm hpa hlt htn hne hz2 h3 hcv htr
        go_enter Tryz.func73, Tryz.ntmps73
        go_wp2_with fail
        refine hc.mono ?_
        rintro e w1 ⟨rfl, b1⟩
        clear hc
        go_wp2
        go_ret2
        exact ⟨by rw [HR.out, if_neg (fun h => HL3.out h.2.1)] <;> rfl, b1⟩
    · have E0 : (bh.toList == [48]) = false := by rw [e0]; simp [h48]
      have E1 : (bh.toList == [49]) = false := by rw [e1]; simp [h49]
      have H8 := hide h48
      have H9 := hide h49
      clear e0 e1 h48 h49 hsm hpa hlt htn hne hz2 hcv htr
      go_enter Tryz.func73, Tryz.ntmps73
      go_wp2_with fail
      refine hc.mono ?_
      rintro e w1 ⟨rfl, b1⟩
      clear hc
      go_wp2
      go_ret2
      exact ⟨by rw [HR.out, if_neg (fun h => h.1.elim H8.out H9.out)] <;> rfl, b1⟩

/- The reference. -/
theorem weight_cons (c : UInt8) (r : List UInt8) : weightL (c :: r) =
    if (c = 48 ∨ c = 49) ∧ (r = [] ∨ r.head? = some 46) ∧ (r.drop 1).length ≤ 3 ∧ (r.drop 1).all digB = true then
      (if c = 49 then (if 0 < decV (pad3 (r.drop 1)) then (0, false) else (1000, true)) else (decV (pad3 (r.drop 1)), true)) else (0, false) := by
  unfold weightL cutTail
  rw [cutHead_cons]
  by_cases hc : (c == 46) = true
  · have : c = 46 := by simpa using hc
    subst this
    simp
  · rw [if_neg hc]
    cases r with
    | nil => simp [cutHead]
    | cons d r =>
      rw [cutHead_cons]
      by_cases hd : (d == 46) = true
      · have : d = 46 := by simpa using hd
        subst this
        simp
      · have hd' : ¬ d = 46 := by simpa using hd
        rw [if_neg hd]
        simp [hd']
end Go.Proofs.YtgdjlmpfjmakkaaGreatDoor

/- The reference's Weight. -/
namespace Go.Proofs.YtgdjlmpfjmakkaaGreatDoor
open Go.RowKit

theorem pad3_at (t : List UInt8) (k : Nat) (hk : k < 3) : (pad3 t)[k]? = some ((t[k]?).getD 48) := by
  unfold pad3
  rw [List.getElem?_take, if_pos hk, List.getElem?_append]
  split
  · rename_i h
    rw [List.getElem?_eq_getElem h]; rfl
  · rename_i h
    rw [List.getElem?_eq_none (l := t) (by omega)]
    have : ∀ j, j < 3 → ([48, 48, 48] : List UInt8)[j]? = some 48 := by decide
    rw [this _ (by omega)]; rfl
theorem decV_consk (c : UInt8) (l : List UInt8) : ∀ k, k ≤ l.length → decV (c :: l.take k) = (c.toNat - 48) * 10 ^ k + decV (l.take k)
  | 0, _ => by simp [decV]
  | k + 1, h => by
    have ih := decV_consk c l k (by omega)
    have e : c :: l.take (k + 1) = (c :: l.take k) ++ [l[k]] := by rw [list_take_snoc l k (by omega)]; rfl
    rw [e, decV_snoc, ih, decV_take l k (by omega), Nat.pow_succ, Nat.mul_add]
    rw [show 10 * ((c.toNat - 48) * 10 ^ k) = (c.toNat - 48) * (10 ^ k * 10) by rw [← Nat.mul_assoc, Nat.mul_comm 10, Nat.mul_assoc, Nat.mul_comm 10]]
    omega

set_option maxRecDepth 100000 in
set_option maxHeartbeats 3200000 in
theorem refweight_any (s : ByteArray) (w : World) :
    Calls Tryz.prog 41 #[.string s] w fun e w' => e = .returned (.tuple #[.int .i64 (weightL s.data.toList).1, .bool (weightL s.data.toList).2]) ∧ w = w' := by
  have hsz := size_of s
  obtain ⟨v, hv⟩ : ∃ v, v = weightL s.data.toList := ⟨_, rfl⟩
  rw [← hv]
  by_cases h1 : s.size < 1
  · have hnil : s.data.toList = [] := List.eq_nil_of_length_eq_zero (by omega)
    rw [hnil] at hv
    have HV := hide hv
    clear hv hsz hnil
    go_enter Tryz.func41, Tryz.ntmps41
    go_wp2
    go_ret2
    exact ⟨by rw [HV.out] <;> rfl, rfl⟩
  · have hp0 : 0 < s.size := by omega
    have hg0 := get_toList s 0 hp0
    obtain ⟨c, r, hcr⟩ : ∃ c r, s.data.toList = c :: r := by
      cases h : s.data.toList with
      | nil =>
        have h0 : s.size = 0 := by rw [size_of, h]; rfl
        omega
      | cons c r => exact ⟨c, r, rfl⟩
    have hrl : r.length + 1 = s.size := by rw [hsz, hcr]; rfl
    have hb0 : s[0] = c := by rw [hcr] at hg0; simpa using hg0.symm
    rw [hcr, weight_cons] at hv
    by_cases h5 : 5 < s.size
    · have hv' : v = (0, false) := by rw [hv, if_neg]; rintro ⟨_, _, h, _⟩; rw [List.length_drop] at h; omega
      have HV := hide hv'
      clear hv hv' hsz hg0 hcr hrl hb0
      go_enter Tryz.func41, Tryz.ntmps41
      go_wp2
      go_ret2
      exact ⟨by rw [HV.out] <;> rfl, rfl⟩
    · have hi0 : (0 : Int) < (s.size : Int) := by omega
      by_cases hc : c = 48 ∨ c = 49
      · have hc' : ((c.toNat : Int) != 48) = false ∨ (((c.toNat : Int) != 48) = true ∧ ((c.toNat : Int) != 49) = false) := by rcases hc with rfl | rfl <;> decide
        by_cases h2 : 1 < s.size
        · have hg1 := get_toList s 1 h2
          obtain ⟨d, r2, hr2⟩ : ∃ d r2, r = d :: r2 := by
            cases r with
            | nil => simp at hrl; omega
            | cons d r2 => exact ⟨d, r2, rfl⟩
          have hb1 : s[1] = d := by rw [hcr, hr2] at hg1; simpa using hg1.symm
          have hi1 : (1 : Int) < (s.size : Int) := by omega
          by_cases hd : d = 46
          · subst hd
            have hr0 : r = [] ∨ r.head? = some 46 := .inr (by rw [hr2]; rfl)
            have hd' : (((46 : UInt8).toNat : Int) != 46) = false := by decide
            obtain ⟨tl, htl⟩ : ∃ tl, tl = r.drop 1 := ⟨_, rfl⟩
            rw [← htl] at hv
            have htll : tl.length = s.size - 2 := by rw [htl, List.length_drop]; omega
            have HTL := hide htll
            obtain ⟨pd, hpd⟩ : ∃ pd, pd = pad3 tl := ⟨_, rfl⟩
            rw [← hpd] at hv
            have hp3 : pd.length = 3 := by rw [hpd]; exact pad3_len tl
            have HT := hide (show ∀ k (h : k + 2 < s.size), tl[k]? = some s[k + 2] from fun k h => by
              have := get_toList s (k + 2) h
              rw [hcr, List.getElem?_cons_succ] at this
              rw [htl, List.getElem?_drop, Nat.add_comm]; exact this)
            have HPA := hide (show ∀ k (h : k < 3), pd[k]? = some ((tl[k]?).getD 48) from fun k h => by rw [hpd]; exact pad3_at tl k h)
            have HST := hide (show ∀ k (h : k < 3), decV (c :: pd.take (k + 1)) = 10 * decV (c :: pd.take k) + (((pd[k]?).getD 48).toNat - 48) from fun k h => by
              have e : c :: pd.take (k + 1) = (c :: pd.take k) ++ [pd[k]'(by omega)] := by rw [list_take_snoc pd k (by omega)]; rfl
              rw [e, decV_snoc, List.getElem?_eq_getElem (by omega)]; rfl)
            have hcn : c.toNat - 48 ≤ 1 := by rcases hc with rfl | rfl <;> decide
            have hcd : 48 ≤ c.toNat ∧ c.toNat ≤ 49 := by rcases hc with rfl | rfl <;> decide
            have HC01 := hide hcn
            have HC0 := hide (show Value.int .i64 ((c.toNat : Int) - 48) = Value.int .i64 (decV (c :: pd.take 0)) from congrArg (Value.int .i64) (by show (c.toNat : Int) - 48 = ((10 * 0 + (c.toNat - 48) : Nat) : Int); omega))
            have HB := hide (show ∀ k, k ≤ 3 → (tl.take k).all digB = true → decV (c :: pd.take k) < 1000000 from fun k hk ha => by
              rw [decV_consk c pd k (by omega)]
              have hpk : (pd.take k).all digB = true := by
                rw [List.all_eq_true]
                intro x hx
                obtain ⟨j, hj, rfl⟩ := List.mem_iff_getElem.1 hx
                rw [List.length_take] at hj
                have h1 : pd[j]? = some ((tl[j]?).getD 48) := by rw [hpd]; exact pad3_at tl j (by omega)
                rw [List.getElem_take]
                have h2 := (List.getElem?_eq_some_iff.1 h1).2
                rw [h2]
                rcases hjt : tl[j]? with _ | y
                · decide
                · exact List.all_eq_true.1 ha y (List.mem_of_getElem? (i := j) (by rw [List.getElem?_take, if_pos (by omega)]; exact hjt))
              have h1 := decV_lt (pd.take k) hpk k (by rw [List.length_take]; omega)
              rw [List.take_take, Nat.min_self] at h1
              have h2 : 10 ^ k ≤ 10 ^ 3 := Nat.pow_le_pow_right (by decide) hk
              have h3 : (c.toNat - 48) * 10 ^ k ≤ 1 * 10 ^ 3 := Nat.mul_le_mul hcn h2
              omega)
            have HBAD := hide (show ¬ tl.all digB = true → v = (0, false) from fun h => by rw [hv, if_neg (fun x => h x.2.2.2)])
            have HFIN := hide (show tl.all digB = true → decV (c :: pd.take 3) = (c.toNat - 48) * 1000 + decV pd ∧ decV pd < 1000 ∧ v = (if 1000 < (c.toNat - 48) * 1000 + decV pd then (0, false) else ((c.toNat - 48) * 1000 + decV pd, true)) from fun h => by
              have hlt : decV pd < 1000 := by rw [hpd]; exact pad3_lt tl h
              refine ⟨?_, hlt, ?_⟩
              · have := decV_consk c pd 3 (by omega)
                rw [List.take_of_length_le (l := pd) (by omega)] at this ⊢
                exact this
              · rw [hv, if_pos ⟨hc, hr0, by omega, h⟩]
                rcases hc with rfl | rfl
                · rw [if_neg (by decide)]
                  show _ = if 1000 < 0 * 1000 + decV pd then _ else _
                  rw [if_neg (by omega)]
                  show _ = (0 * 1000 + decV pd, true)
                  rw [Nat.zero_mul, Nat.zero_add]
                · rw [if_pos rfl]
                  show _ = if 1000 < 1 * 1000 + decV pd then _ else (1 * 1000 + decV pd, true)
                  by_cases h0 : 0 < decV pd
                  · rw [if_pos h0, if_pos (by omega)]
                  · have : decV pd = 0 := by omega
                    rw [if_neg h0, if_neg (by omega), this])
            clear hv htl hpd htll hsz hg0 hg1 hcr hr2 hrl hr0 hp3 hcn
            rcases hc' with hn8 | ⟨hn8, hn9⟩
            all_goals
              clear hc
              go_enter Tryz.func41, Tryz.ntmps41
              go_wp2_with fail
              go_loop [4, 5] (fun n i => ∃ k : Nat, k ≤ 3 ∧ i = .int .i64 (k + 2) ∧ n = .int .i64 (decV (c :: pd.take k)) ∧ (tl.take k).all digB = true) (fun _ i => 5 - (intOf i).toNat)
              case atStart => exact ⟨0, Nat.zero_le _, rfl, HC0.out, rfl⟩
              case round =>
                obtain ⟨k, hk, rfl, rfl, hall⟩ := hrel
                by_cases hk3 : k < 3
                · obtain ⟨q, hq⟩ : ∃ q, q = decV (c :: pd.take k) := ⟨_, rfl⟩
                  have hq6 := HB.out k hk hall
                  have hst := HST.out k hk3
                  rw [← hq] at hq6 hst ⊢
                  have hpa := HPA.out k hk3
                  clear hq
                  by_cases hin : k + 2 < s.size
                  · have hbt := HT.out k hin
                    have hkt : k < tl.length := by have := HTL.out; omega
                    obtain ⟨b, hb⟩ : ∃ b, s[k + 2] = b := ⟨_, rfl⟩
                    rw [hb] at hbt
                    rw [hbt] at hpa
                    have hb256 := b.toNat_lt
                    have hs2 : (tl.take (k + 1)).all digB = digB b := by
                      have e := (List.getElem?_eq_some_iff.1 hbt).2
                      rw [list_take_snoc tl k hkt, List.all_append, hall, e]; simp
                    have hbad : digB b = false → v = (0, false) := fun hd => HBAD.out (fun ha => by
                      have := List.all_eq_true.1 ha b (List.mem_of_getElem? hbt)
                      rw [hd] at this; cases this)
                    have HS2 := hide hs2
                    have HBD := hide hbad
                    have HP := hide hpa
                    have HS := hide hst
                    clear hs2 hbad hpa hst hbt hall
                    by_cases h48 : b.toNat < 48
                    · have HF := hide (HBD.out (by rcases hd : digB b with _ | _; rfl; rw [digB_iff] at hd; omega))
                      go_wp2
                      go_ret2
                      exact ⟨by rw [HF.out] <;> rfl, rfl⟩
                    · by_cases h57 : 57 < b.toNat
                      · have HF := hide (HBD.out (by rcases hd : digB b with _ | _; rfl; rw [digB_iff] at hd; omega))
                        go_wp2
                        go_ret2
                        exact ⟨by rw [HF.out] <;> rfl, rfl⟩
                      · have hd : digB b = true := (digB_iff b).2 ⟨by omega, by omega⟩
                        have HD := hide hd
                        clear hd
                        go_wp2
                        go_round
                        case rel => exact ⟨k + 1, by omega, by go_num, by rw [HS.out, HP.out]; exact congrArg (Value.int .i64) (by simp only [Option.getD_some]; omega), by rw [HS2.out, HD.out]⟩
                        case measure => simp [intOf]; omega
                  · have hnt : tl[k]? = none := List.getElem?_eq_none (by have := HTL.out; omega)
                    rw [hnt] at hpa
                    have hs2 : (tl.take (k + 1)).all digB = true := by
                      rw [List.take_of_length_le (by have := HTL.out; omega)] at hall ⊢; exact hall
                    have HS2 := hide hs2
                    have HP := hide hpa
                    have HS := hide hst
                    clear hs2 hpa hst hnt hall
                    go_wp2
                    go_round
                    case rel => exact ⟨k + 1, by omega, by go_num, by rw [HS.out, HP.out]; exact congrArg (Value.int .i64) (by simp), HS2.out⟩
                    case measure => simp [intOf]; omega
                · obtain rfl : k = 3 := by omega
                  have hall3 : tl.all digB = true := by rwa [List.take_of_length_le (by have := HTL.out; omega)] at hall
                  have hfin := HFIN.out hall3
                  rw [hfin.1]
                  obtain ⟨hlt, hval⟩ := hfin.2
                  obtain ⟨q, hq⟩ : ∃ q, q = decV pd := ⟨_, rfl⟩
                  rw [← hq] at hlt hval ⊢
                  have hc01 := HC01.out
                  obtain ⟨m, hm⟩ : ∃ m, m = c.toNat - 48 := ⟨_, rfl⟩
                  rw [← hm] at hc01 hval ⊢
                  have HVAL := hide hval
                  clear hfin hval hall hall3 hq hm
                  by_cases hg : 1000 < m * 1000 + q
                  · go_wp2
                    go_ret2
                    exact ⟨by rw [HVAL.out, if_pos hg] <;> rfl, rfl⟩
                  · go_wp2
                    go_ret2
                    exact ⟨by rw [HVAL.out, if_neg hg] <;> rfl, rfl⟩
          · have hv' : v = (0, false) := by
              rw [hv, if_neg]
              rintro ⟨_, h, _⟩
              rw [hr2] at h
              rcases h with h | h
              · cases h
              · simp at h; exact hd h
            have hd' : ((d.toNat : Int) != 46) = true := by
              simp; intro h; exact hd (UInt8.toNat_inj.1 (by simpa using (by omega : d.toNat = 46)))
            have HV := hide hv'
            clear hv hv' hsz hg0 hg1 hcr hr2 hrl hd hc
            rcases hc' with hn8 | ⟨hn8, hn9⟩
            all_goals
              go_enter Tryz.func41, Tryz.ntmps41
              go_wp2
              go_ret2
              exact ⟨by rw [HV.out] <;> rfl, rfl⟩
        · have hr0 : r = [] ∨ r.head? = some 46 := .inl (List.eq_nil_of_length_eq_zero (by omega))
          obtain ⟨tl, htl⟩ : ∃ tl, tl = r.drop 1 := ⟨_, rfl⟩
          rw [← htl] at hv
          have htll : tl.length = s.size - 2 := by rw [htl, List.length_drop]; omega
          have HTL := hide htll
          obtain ⟨pd, hpd⟩ : ∃ pd, pd = pad3 tl := ⟨_, rfl⟩
          rw [← hpd] at hv
          have hp3 : pd.length = 3 := by rw [hpd]; exact pad3_len tl
          have HT := hide (show ∀ k (h : k + 2 < s.size), tl[k]? = some s[k + 2] from fun k h => by
            have := get_toList s (k + 2) h
            rw [hcr, List.getElem?_cons_succ] at this
            rw [htl, List.getElem?_drop, Nat.add_comm]; exact this)
          have HPA := hide (show ∀ k (h : k < 3), pd[k]? = some ((tl[k]?).getD 48) from fun k h => by rw [hpd]; exact pad3_at tl k h)
          have HST := hide (show ∀ k (h : k < 3), decV (c :: pd.take (k + 1)) = 10 * decV (c :: pd.take k) + (((pd[k]?).getD 48).toNat - 48) from fun k h => by
            have e : c :: pd.take (k + 1) = (c :: pd.take k) ++ [pd[k]'(by omega)] := by rw [list_take_snoc pd k (by omega)]; rfl
            rw [e, decV_snoc, List.getElem?_eq_getElem (by omega)]; rfl)
          have hcn : c.toNat - 48 ≤ 1 := by rcases hc with rfl | rfl <;> decide
          have hcd : 48 ≤ c.toNat ∧ c.toNat ≤ 49 := by rcases hc with rfl | rfl <;> decide
          have HC01 := hide hcn
          have HC0 := hide (show Value.int .i64 ((c.toNat : Int) - 48) = Value.int .i64 (decV (c :: pd.take 0)) from congrArg (Value.int .i64) (by show (c.toNat : Int) - 48 = ((10 * 0 + (c.toNat - 48) : Nat) : Int); omega))
          have HB := hide (show ∀ k, k ≤ 3 → (tl.take k).all digB = true → decV (c :: pd.take k) < 1000000 from fun k hk ha => by
            rw [decV_consk c pd k (by omega)]
            have hpk : (pd.take k).all digB = true := by
              rw [List.all_eq_true]
              intro x hx
              obtain ⟨j, hj, rfl⟩ := List.mem_iff_getElem.1 hx
              rw [List.length_take] at hj
              have h1 : pd[j]? = some ((tl[j]?).getD 48) := by rw [hpd]; exact pad3_at tl j (by omega)
              rw [List.getElem_take]
              have h2 := (List.getElem?_eq_some_iff.1 h1).2
              rw [h2]
              rcases hjt : tl[j]? with _ | y
              · decide
              · exact List.all_eq_true.1 ha y (List.mem_of_getElem? (i := j) (by rw [List.getElem?_take, if_pos (by omega)]; exact hjt))
            have h1 := decV_lt (pd.take k) hpk k (by rw [List.length_take]; omega)
            rw [List.take_take, Nat.min_self] at h1
            have h2 : 10 ^ k ≤ 10 ^ 3 := Nat.pow_le_pow_right (by decide) hk
            have h3 : (c.toNat - 48) * 10 ^ k ≤ 1 * 10 ^ 3 := Nat.mul_le_mul hcn h2
            omega)
          have HBAD := hide (show ¬ tl.all digB = true → v = (0, false) from fun h => by rw [hv, if_neg (fun x => h x.2.2.2)])
          have HFIN := hide (show tl.all digB = true → decV (c :: pd.take 3) = (c.toNat - 48) * 1000 + decV pd ∧ decV pd < 1000 ∧ v = (if 1000 < (c.toNat - 48) * 1000 + decV pd then (0, false) else ((c.toNat - 48) * 1000 + decV pd, true)) from fun h => by
            have hlt : decV pd < 1000 := by rw [hpd]; exact pad3_lt tl h
            refine ⟨?_, hlt, ?_⟩
            · have := decV_consk c pd 3 (by omega)
              rw [List.take_of_length_le (l := pd) (by omega)] at this ⊢
              exact this
            · rw [hv, if_pos ⟨hc, hr0, by omega, h⟩]
              rcases hc with rfl | rfl
              · rw [if_neg (by decide)]
                show _ = if 1000 < 0 * 1000 + decV pd then _ else _
                rw [if_neg (by omega)]
                show _ = (0 * 1000 + decV pd, true)
                rw [Nat.zero_mul, Nat.zero_add]
              · rw [if_pos rfl]
                show _ = if 1000 < 1 * 1000 + decV pd then _ else (1 * 1000 + decV pd, true)
                by_cases h0 : 0 < decV pd
                · rw [if_pos h0, if_pos (by omega)]
                · have : decV pd = 0 := by omega
                  rw [if_neg h0, if_neg (by omega), this])
          clear hv htl hpd htll hsz hg0 hcr hrl hr0 hp3 hcn
          rcases hc' with hn8 | ⟨hn8, hn9⟩
          all_goals
            clear hc
            go_enter Tryz.func41, Tryz.ntmps41
            go_wp2_with fail
            go_loop [4, 5] (fun n i => ∃ k : Nat, k ≤ 3 ∧ i = .int .i64 (k + 2) ∧ n = .int .i64 (decV (c :: pd.take k)) ∧ (tl.take k).all digB = true) (fun _ i => 5 - (intOf i).toNat)
            case atStart => exact ⟨0, Nat.zero_le _, rfl, HC0.out, rfl⟩
            case round =>
              obtain ⟨k, hk, rfl, rfl, hall⟩ := hrel
              by_cases hk3 : k < 3
              · obtain ⟨q, hq⟩ : ∃ q, q = decV (c :: pd.take k) := ⟨_, rfl⟩
                have hq6 := HB.out k hk hall
                have hst := HST.out k hk3
                rw [← hq] at hq6 hst ⊢
                have hpa := HPA.out k hk3
                clear hq
                by_cases hin : k + 2 < s.size
                · exact absurd hin (by omega)
                · have hnt : tl[k]? = none := List.getElem?_eq_none (by have := HTL.out; omega)
                  rw [hnt] at hpa
                  have hs2 : (tl.take (k + 1)).all digB = true := by
                    rw [List.take_of_length_le (by have := HTL.out; omega)] at hall ⊢; exact hall
                  have HS2 := hide hs2
                  have HP := hide hpa
                  have HS := hide hst
                  clear hs2 hpa hst hnt hall
                  go_wp2
                  go_round
                  case rel => exact ⟨k + 1, by omega, by go_num, by rw [HS.out, HP.out]; exact congrArg (Value.int .i64) (by simp), HS2.out⟩
                  case measure => simp [intOf]; omega
              · obtain rfl : k = 3 := by omega
                have hall3 : tl.all digB = true := by rwa [List.take_of_length_le (by have := HTL.out; omega)] at hall
                have hfin := HFIN.out hall3
                rw [hfin.1]
                obtain ⟨hlt, hval⟩ := hfin.2
                obtain ⟨q, hq⟩ : ∃ q, q = decV pd := ⟨_, rfl⟩
                rw [← hq] at hlt hval ⊢
                have hc01 := HC01.out
                obtain ⟨m, hm⟩ : ∃ m, m = c.toNat - 48 := ⟨_, rfl⟩
                rw [← hm] at hc01 hval ⊢
                have HVAL := hide hval
                clear hfin hval hall hall3 hq hm
                by_cases hg : 1000 < m * 1000 + q
                · go_wp2
                  go_ret2
                  exact ⟨by rw [HVAL.out, if_pos hg] <;> rfl, rfl⟩
                · go_wp2
                  go_ret2
                  exact ⟨by rw [HVAL.out, if_neg hg] <;> rfl, rfl⟩
      · have hv' : v = (0, false) := by rw [hv, if_neg]; exact fun h => hc h.1
        have hn8 : ((c.toNat : Int) != 48) = true := by
          simp; intro h; exact hc (.inl (UInt8.toNat_inj.1 (by simpa using (by omega : c.toNat = 48))))
        have hn9 : ((c.toNat : Int) != 49) = true := by
          simp; intro h; exact hc (.inr (UInt8.toNat_inj.1 (by simpa using (by omega : c.toNat = 49))))
        have HV := hide hv'
        clear hv hv' hsz hg0 hcr hrl hc
        go_enter Tryz.func41, Tryz.ntmps41
        go_wp2
        go_ret2
        exact ⟨by rw [HV.out] <;> rfl, rfl⟩
end Go.Proofs.YtgdjlmpfjmakkaaGreatDoor

/- accept.member: one of a list. -/
namespace Go.Proofs.YtgdjlmpfjmakkaaGreatDoor
open Go.RowKit

def xgzipL : List UInt8 := [120, 45, 103, 122, 105, 112]
def gzipL : List UInt8 := [103, 122, 105, 112]
def qeqL : List UInt8 := [113, 61]
/-- A member's name: x-gzip is gzip. -/
def mnameL (s : List UInt8) : List UInt8 := if lowL (trimL (cutHead 59 s)) = xgzipL then gzipL else lowL (trimL (cutHead 59 s))
/-- One of a list, and whether it is one. -/
def memberL (s : List UInt8) : (List UInt8 × Nat) × Bool :=
  if goodNameL (lowL (trimL (cutHead 59 s))) = true then
    (if cutHas 59 s = true then
      (if 2 ≤ (trimL (cutTail 59 s)).length ∧ sameL ((trimL (cutTail 59 s)).take 2) qeqL = true ∧ (weightL ((trimL (cutTail 59 s)).drop 2)).2 = true then ((mnameL s, (weightL ((trimL (cutTail 59 s)).drop 2)).1), true) else (([], 0), false))
    else ((mnameL s, 1000), true))
  else (([], 0), false)
def itV (m : (List UInt8 × Nat) × Bool) : Value := .tuple #[.agg #[.string ⟨m.1.1.toArray⟩, .int .i64 m.1.2], .bool m.2]
theorem results_it {fn : Func} {p u : Tmp} (h : fn.results = #[.cell p 60, .tmp u]) (tmps : Array Value) (w2 : World) (g : Nat) (x y e : Value) (a0 a1 : Value) (h0 : w2.cell? ⟨g, 0, none⟩ = some a0) (h1 : w2.cell? ⟨g, 1, none⟩ = some a1)
    (hp : tmps.getD p undef = .pointer (some ⟨g, 0, none⟩)) (hu : tmps.getD u undef = e) :
    (results fn tmps).run Tryz.prog ((w2.setCell ⟨g, 0, none⟩ x).setCell ⟨g, 1, none⟩ y) = .ok (.tuple #[.agg #[x, y], e]) ((w2.setCell ⟨g, 0, none⟩ x).setCell ⟨g, 1, none⟩ y) := by
  have k0 : (w2.setCell ⟨g, 0, none⟩ x).cell? ⟨g, 0, none⟩ = some x := World.cell?_setCell_same' w2 _ _ (by rw [h0]; rfl)
  have k1 : ((w2.setCell ⟨g, 0, none⟩ x).setCell ⟨g, 1, none⟩ y).cell? ⟨g, 1, none⟩ = some y := World.cell?_setCell_same' _ _ _ (by rw [World.cell?_setCell_other _ _ _ _ (by simp), h1]; rfl)
  have hp' : tmps[p]?.getD undef = .pointer (some ⟨g, 0, none⟩) := by simpa using hp
  have hu' : tmps[u]?.getD undef = e := by simpa using hu
  simp [results, h, hp', hu', go_sem, k0, k1]
theorem trimL_le (l : List UInt8) : (trimL l).length ≤ l.length := by
  show (List.dropWhile blankB (l.reverse.dropWhile blankB).reverse).length ≤ l.length
  have h1 := (List.dropWhile_sublist (l := (l.reverse.dropWhile blankB).reverse) blankB).length_le
  have h2 := (List.dropWhile_sublist (l := l.reverse) blankB).length_le
  rw [List.length_reverse] at h1 h2
  omega

set_option maxRecDepth 100000 in
set_option maxHeartbeats 3200000 in
theorem member_any (s : ByteArray) (w : World) (hs : s.size ≤ 1000000) :
    Calls Tryz.prog 59 #[.string s] w fun e w' => e = .returned (itV (memberL s.data.toList)) ∧ Below w.heap.size w w' := by
  have hc := fun w => strcut_any s 59 w (by omega)
  have hh1 := cutHead_le 59 s.data.toList
  have ht1 : (cutTail 59 s.data.toList).length ≤ s.data.toList.length := by unfold cutTail; rw [List.length_drop]; omega
  rw [← size_of] at hh1 ht1
  have hle1 := trimL_le (cutHead 59 s.data.toList)
  have hle2 := trimL_le (cutTail 59 s.data.toList)
  obtain ⟨r, hr⟩ : ∃ r, r = memberL s.data.toList := ⟨_, rfl⟩
  rw [← hr]
  unfold memberL mnameL at hr
  obtain ⟨hd, hhd⟩ : ∃ hd, hd = cutHead 59 s.data.toList := ⟨_, rfl⟩
  obtain ⟨tl, htl⟩ : ∃ tl, tl = cutTail 59 s.data.toList := ⟨_, rfl⟩
  rw [← hhd, ← htl] at hr
  simp only [← hhd, ← htl] at hc
  rw [← hhd] at hle1 hh1
  rw [← htl] at hle2 ht1
  obtain ⟨bs, hbs⟩ : ∃ h, h = cutHas 59 s.data.toList := ⟨_, rfl⟩
  rw [← hbs] at hr
  simp only [← hbs] at hc
  obtain ⟨th, hth⟩ : ∃ t, t = trimL hd := ⟨_, rfl⟩
  obtain ⟨tt, htt⟩ : ∃ t, t = trimL tl := ⟨_, rfl⟩
  rw [← hth] at hr hle1
  rw [← htt] at hr hle2
  have q1 := fun w => trim_any ⟨hd.toArray⟩ w (by rw [mk_size]; omega)
  have q2 := fun w => lower_any ⟨th.toArray⟩ w (by rw [mk_size]; omega)
  have q3 := fun w => goodName_any ⟨(lowL th).toArray⟩ w (by rw [mk_size, lowL_length]; omega)
  have q4 := fun w => trim_any ⟨tl.toArray⟩ w (by rw [mk_size]; omega)
  simp only [← hth, ← htt] at q1 q2 q3 q4
  obtain ⟨nm, hnm⟩ : ∃ n, n = lowL th := ⟨_, rfl⟩
  rw [← hnm] at hr
  simp only [← hnm] at q2 q3
  have q5 := fun w => fieldsame_any ⟨(tt.take 2).toArray⟩ ⟨#[113, 61]⟩ w (by rw [mk_size, List.length_take]; omega) (by decide)
  have q6 := fun w => weight_any ⟨(tt.drop 2).toArray⟩ w (by rw [mk_size, List.length_drop]; omega)
  change ∀ w, Calls Tryz.prog 32 _ w (fun e w' => e = .returned (.bool (sameL (tt.take 2) qeqL)) ∧ Below w.heap.size w w') at q5
  change ∀ w, Calls Tryz.prog 73 _ w (fun e w' => e = .returned (.tuple #[.int .i64 (weightL (tt.drop 2)).1, .bool (weightL (tt.drop 2)).2]) ∧ Below w.heap.size w w') at q6
  have hx1 : (⟨tt.toArray⟩ : ByteArray).extract 0 2 = ⟨(tt.take 2).toArray⟩ := bytes_ext (by rw [extract_list, mk_list, mk_list]; simp)
  have hx2 : (⟨tt.toArray⟩ : ByteArray).extract 2 (⟨tt.toArray⟩ : ByteArray).size = ⟨(tt.drop 2).toArray⟩ := bytes_ext (by rw [extract_list, mk_list, mk_list, mk_size]; simp)
  have hcx : ((⟨nm.toArray⟩ : ByteArray).toList == [120, 45, 103, 122, 105, 112]) = decide (nm = xgzipL) := by rw [ByteArray.toList_eq, Bool.eq_iff_iff, decide_eq_true_iff]; simp [xgzipL]
  have hzt := mk_size tt
  obtain ⟨bhd, e1⟩ : ∃ b : ByteArray, b = ⟨hd.toArray⟩ := ⟨_, rfl⟩
  obtain ⟨btl, e2⟩ : ∃ b : ByteArray, b = ⟨tl.toArray⟩ := ⟨_, rfl⟩
  obtain ⟨bth, e3⟩ : ∃ b : ByteArray, b = ⟨th.toArray⟩ := ⟨_, rfl⟩
  obtain ⟨btt, e4⟩ : ∃ b : ByteArray, b = ⟨tt.toArray⟩ := ⟨_, rfl⟩
  obtain ⟨bnm, e5⟩ : ∃ b : ByteArray, b = ⟨nm.toArray⟩ := ⟨_, rfl⟩
  obtain ⟨bq, e6⟩ : ∃ b : ByteArray, b = ⟨(tt.take 2).toArray⟩ := ⟨_, rfl⟩
  obtain ⟨br, e7⟩ : ∃ b : ByteArray, b = ⟨(tt.drop 2).toArray⟩ := ⟨_, rfl⟩
  simp only [← e1, ← e2] at hc
  simp only [← e1, ← e3] at q1
  simp only [← e3, ← e5] at q2
  simp only [← e5] at q3 hcx
  simp only [← e2, ← e4] at q4
  simp only [← e6] at q5
  simp only [← e7] at q6
  rw [← e4, ← e6] at hx1
  rw [← e4, ← e7] at hx2
  rw [← e4] at hzt
  have HN := hide e5
  obtain ⟨wv, hwv⟩ : ∃ x, x = (weightL (tt.drop 2)).1 := ⟨_, rfl⟩
  obtain ⟨wb, hwb⟩ : ∃ x, x = (weightL (tt.drop 2)).2 := ⟨_, rfl⟩
  obtain ⟨sm, hsm⟩ : ∃ x, x = sameL (tt.take 2) qeqL := ⟨_, rfl⟩
  obtain ⟨gd, hgd⟩ : ∃ x, x = goodNameL nm := ⟨_, rfl⟩
  rw [← hwv, ← hwb, ← hsm, ← hgd] at hr
  simp only [← hwv, ← hwb] at q6
  simp only [← hsm] at q5
  simp only [← hgd] at q3
  obtain ⟨nt, hnt⟩ : ∃ n, n = tt.length := ⟨_, rfl⟩
  rw [← hnt] at hr hzt
  have HZ := hide hzt
  have HR := hide hr
  clear hr hh1 ht1 hle1 hle2 hhd htl hbs hth htt hnm e1 e2 e3 e4 e5 e6 e7 hwv hwb hsm hgd hnt hzt
  rcases gd with _ | _
  · go_enter Tryz.func59, Tryz.ntmps59
    go_wp2_with fail
    refine (hc _).mono ?_
    rintro e w1 ⟨rfl, T⟩
    go_wp2_with fail
    refine (q1 w1).mono ?_
    rintro e w2 ⟨rfl, k⟩
    replace T := T.trans (k.mono T.size)
    clear k
    go_wp2_with fail
    refine (q2 w2).mono ?_
    rintro e w3 ⟨rfl, k⟩
    replace T := T.trans (k.mono T.size)
    clear k
    go_wp2_with fail
    refine (q3 w3).mono ?_
    rintro e w4 ⟨rfl, rfl⟩
    have k0 : w3.cell? ⟨w.heap.size, 0, none⟩ = some (.string ⟨#[]⟩) := new_kept (i := 0) T (by simp) rfl
    have k1 : w3.cell? ⟨w.heap.size, 1, none⟩ = some (.int .i64 0) := new_kept (i := 1) T (by simp) rfl
    have f0 := new_free (i := 0) T (by simp)
    have f1 := new_free (i := 1) T (by simp)
    have t := ((Below.refl _ w).alloc (Nat.le_refl _) _).trans (T.mono (by simp))
    clear T
    go_wp2
    refine bodyPost_ret (v := .tuple #[.agg #[.string ⟨#[]⟩, .int .i64 0], .bool false]) (results_it Tryz.results59 _ w3 _ _ _ _ _ _ k0 k1 rfl rfl) rfl ?_
    exact ⟨by rw [HR.out, if_neg (by simp)] <;> rfl, (t.setCell (Nat.le_refl _) _).setCell (Nat.le_refl _) _⟩
  · by_cases hxg : nm = xgzipL
    · have hcx' : (bnm.toList == [120, 45, 103, 122, 105, 112]) = true := by rw [hcx]; simpa using hxg
      have HX := hide hxg
      clear hcx hxg
      rcases bs with _ | _
      · go_enter Tryz.func59, Tryz.ntmps59
        go_wp2_with fail
        refine (hc _).mono ?_
        rintro e w1 ⟨rfl, T⟩
        go_wp2_with fail
        refine (q1 w1).mono ?_
        rintro e w2 ⟨rfl, k⟩
        replace T := T.trans (k.mono T.size)
        clear k
        go_wp2_with fail
        refine (q2 w2).mono ?_
        rintro e w3 ⟨rfl, k⟩
        replace T := T.trans (k.mono T.size)
        clear k
        go_wp2_with fail
        refine (q3 w3).mono ?_
        rintro e w4 ⟨rfl, rfl⟩
        have k0 : w3.cell? ⟨w.heap.size, 0, none⟩ = some (.string ⟨#[]⟩) := new_kept (i := 0) T (by simp) rfl
        have k1 : w3.cell? ⟨w.heap.size, 1, none⟩ = some (.int .i64 0) := new_kept (i := 1) T (by simp) rfl
        have f0 := new_free (i := 0) T (by simp)
        have f1 := new_free (i := 1) T (by simp)
        have t := ((Below.refl _ w).alloc (Nat.le_refl _) _).trans (T.mono (by simp))
        clear T
        go_wp2
        refine bodyPost_ret (v := .tuple #[.agg #[.string ⟨#[103, 122, 105, 112]⟩, .int .i64 1000], .bool true]) (results_it Tryz.results59 _ w3 _ _ _ _ _ _ k0 k1 rfl rfl) rfl ?_
        exact ⟨by rw [HR.out, if_pos (by trivial), if_neg (by simp), itV, if_pos HX.out] <;> rfl, (t.setCell (Nat.le_refl _) _).setCell (Nat.le_refl _) _⟩
      · by_cases h2 : btt.size < 2
        · go_enter Tryz.func59, Tryz.ntmps59
          go_wp2_with fail
          refine (hc _).mono ?_
          rintro e w1 ⟨rfl, T⟩
          go_wp2_with fail
          refine (q1 w1).mono ?_
          rintro e w2 ⟨rfl, k⟩
          replace T := T.trans (k.mono T.size)
          clear k
          go_wp2_with fail
          refine (q2 w2).mono ?_
          rintro e w3 ⟨rfl, k⟩
          replace T := T.trans (k.mono T.size)
          clear k
          go_wp2_with fail
          refine (q3 w3).mono ?_
          rintro e w4 ⟨rfl, rfl⟩
          go_wp2_with fail
          refine (q4 w3).mono ?_
          rintro e w5 ⟨rfl, k⟩
          replace T := T.trans (k.mono T.size)
          clear k
          have k0 : w5.cell? ⟨w.heap.size, 0, none⟩ = some (.string ⟨#[]⟩) := new_kept (i := 0) T (by simp) rfl
          have k1 : w5.cell? ⟨w.heap.size, 1, none⟩ = some (.int .i64 0) := new_kept (i := 1) T (by simp) rfl
          have f0 := new_free (i := 0) T (by simp)
          have f1 := new_free (i := 1) T (by simp)
          have t := ((Below.refl _ w).alloc (Nat.le_refl _) _).trans (T.mono (by simp))
          clear T
          go_wp2
          refine bodyPost_ret (v := .tuple #[.agg #[.string ⟨#[]⟩, .int .i64 0], .bool false]) (results_it Tryz.results59 _ w5 _ _ _ _ _ _ k0 k1 rfl rfl) rfl ?_
          exact ⟨by rw [HR.out, if_pos (by trivial), if_pos (by trivial), if_neg (fun h => by have := HZ.out; omega)] <;> rfl, (t.setCell (Nat.le_refl _) _).setCell (Nat.le_refl _) _⟩
        · have h2' : 2 ≤ btt.size := by omega
          rcases sm with _ | _
          · go_enter Tryz.func59, Tryz.ntmps59
            go_wp2_with fail
            refine (hc _).mono ?_
            rintro e w1 ⟨rfl, T⟩
            go_wp2_with fail
            refine (q1 w1).mono ?_
            rintro e w2 ⟨rfl, k⟩
            replace T := T.trans (k.mono T.size)
            clear k
            go_wp2_with fail
            refine (q2 w2).mono ?_
            rintro e w3 ⟨rfl, k⟩
            replace T := T.trans (k.mono T.size)
            clear k
            go_wp2_with fail
            refine (q3 w3).mono ?_
            rintro e w4 ⟨rfl, rfl⟩
            go_wp2_with fail
            refine (q4 w3).mono ?_
            rintro e w5 ⟨rfl, k⟩
            replace T := T.trans (k.mono T.size)
            clear k
            go_wp2_with fail
            refine (q5 w5).mono ?_
            rintro e w6 ⟨rfl, k⟩
            replace T := T.trans (k.mono T.size)
            clear k
            have k0 : w6.cell? ⟨w.heap.size, 0, none⟩ = some (.string ⟨#[]⟩) := new_kept (i := 0) T (by simp) rfl
            have k1 : w6.cell? ⟨w.heap.size, 1, none⟩ = some (.int .i64 0) := new_kept (i := 1) T (by simp) rfl
            have f0 := new_free (i := 0) T (by simp)
            have f1 := new_free (i := 1) T (by simp)
            have t := ((Below.refl _ w).alloc (Nat.le_refl _) _).trans (T.mono (by simp))
            clear T
            go_wp2
            refine bodyPost_ret (v := .tuple #[.agg #[.string ⟨#[]⟩, .int .i64 0], .bool false]) (results_it Tryz.results59 _ w6 _ _ _ _ _ _ k0 k1 rfl rfl) rfl ?_
            exact ⟨by rw [HR.out, if_pos (by trivial), if_pos (by trivial), if_neg (fun h => by simp at h)] <;> rfl, (t.setCell (Nat.le_refl _) _).setCell (Nat.le_refl _) _⟩
          · rcases wb with _ | _
            · go_enter Tryz.func59, Tryz.ntmps59
              go_wp2_with fail
              refine (hc _).mono ?_
              rintro e w1 ⟨rfl, T⟩
              go_wp2_with fail
              refine (q1 w1).mono ?_
              rintro e w2 ⟨rfl, k⟩
              replace T := T.trans (k.mono T.size)
              clear k
              go_wp2_with fail
              refine (q2 w2).mono ?_
              rintro e w3 ⟨rfl, k⟩
              replace T := T.trans (k.mono T.size)
              clear k
              go_wp2_with fail
              refine (q3 w3).mono ?_
              rintro e w4 ⟨rfl, rfl⟩
              go_wp2_with fail
              refine (q4 w3).mono ?_
              rintro e w5 ⟨rfl, k⟩
              replace T := T.trans (k.mono T.size)
              clear k
              go_wp2_with fail
              refine (q5 w5).mono ?_
              rintro e w6 ⟨rfl, k⟩
              replace T := T.trans (k.mono T.size)
              clear k
              go_wp2_with fail
              refine (q6 w6).mono ?_
              rintro e w7 ⟨rfl, k⟩
              replace T := T.trans (k.mono T.size)
              clear k
              have k0 : w7.cell? ⟨w.heap.size, 0, none⟩ = some (.string ⟨#[]⟩) := new_kept (i := 0) T (by simp) rfl
              have k1 : w7.cell? ⟨w.heap.size, 1, none⟩ = some (.int .i64 0) := new_kept (i := 1) T (by simp) rfl
              have f0 := new_free (i := 0) T (by simp)
              have f1 := new_free (i := 1) T (by simp)
              have t := ((Below.refl _ w).alloc (Nat.le_refl _) _).trans (T.mono (by simp))
              clear T
              go_wp2
              refine bodyPost_ret (v := .tuple #[.agg #[.string ⟨#[]⟩, .int .i64 0], .bool false]) (results_it Tryz.results59 _ w7 _ _ _ _ _ _ k0 k1 rfl rfl) rfl ?_
              exact ⟨by rw [HR.out, if_pos (by trivial), if_pos (by trivial), if_neg (fun h => by simp at h)] <;> rfl, (t.setCell (Nat.le_refl _) _).setCell (Nat.le_refl _) _⟩
            · go_enter Tryz.func59, Tryz.ntmps59
              go_wp2_with fail
              refine (hc _).mono ?_
              rintro e w1 ⟨rfl, T⟩
              go_wp2_with fail
              refine (q1 w1).mono ?_
              rintro e w2 ⟨rfl, k⟩
              replace T := T.trans (k.mono T.size)
              clear k
              go_wp2_with fail
              refine (q2 w2).mono ?_
              rintro e w3 ⟨rfl, k⟩
              replace T := T.trans (k.mono T.size)
              clear k
              go_wp2_with fail
              refine (q3 w3).mono ?_
              rintro e w4 ⟨rfl, rfl⟩
              go_wp2_with fail
              refine (q4 w3).mono ?_
              rintro e w5 ⟨rfl, k⟩
              replace T := T.trans (k.mono T.size)
              clear k
              go_wp2_with fail
              refine (q5 w5).mono ?_
              rintro e w6 ⟨rfl, k⟩
              replace T := T.trans (k.mono T.size)
              clear k
              go_wp2_with fail
              refine (q6 w6).mono ?_
              rintro e w7 ⟨rfl, k⟩
              replace T := T.trans (k.mono T.size)
              clear k
              have k0 : w7.cell? ⟨w.heap.size, 0, none⟩ = some (.string ⟨#[]⟩) := new_kept (i := 0) T (by simp) rfl
              have k1 : w7.cell? ⟨w.heap.size, 1, none⟩ = some (.int .i64 0) := new_kept (i := 1) T (by simp) rfl
              have f0 := new_free (i := 0) T (by simp)
              have f1 := new_free (i := 1) T (by simp)
              have t := ((Below.refl _ w).alloc (Nat.le_refl _) _).trans (T.mono (by simp))
              clear T
              go_wp2
              refine bodyPost_ret (v := .tuple #[.agg #[.string ⟨#[103, 122, 105, 112]⟩, .int .i64 wv], .bool true]) (results_it Tryz.results59 _ w7 _ _ _ _ _ _ k0 k1 rfl rfl) rfl ?_
              exact ⟨by rw [HR.out, if_pos (by trivial), if_pos (by trivial), if_pos (by refine ⟨?_, ?_, ?_⟩ <;> first | trivial | (have := HZ.out; omega)), itV, if_pos HX.out] <;> rfl, (t.setCell (Nat.le_refl _) _).setCell (Nat.le_refl _) _⟩
    · have hcx' : (bnm.toList == [120, 45, 103, 122, 105, 112]) = false := by rw [hcx]; simpa using hxg
      have HX := hide hxg
      clear hcx hxg
      rcases bs with _ | _
      · go_enter Tryz.func59, Tryz.ntmps59
        go_wp2_with fail
        refine (hc _).mono ?_
        rintro e w1 ⟨rfl, T⟩
        go_wp2_with fail
        refine (q1 w1).mono ?_
        rintro e w2 ⟨rfl, k⟩
        replace T := T.trans (k.mono T.size)
        clear k
        go_wp2_with fail
        refine (q2 w2).mono ?_
        rintro e w3 ⟨rfl, k⟩
        replace T := T.trans (k.mono T.size)
        clear k
        go_wp2_with fail
        refine (q3 w3).mono ?_
        rintro e w4 ⟨rfl, rfl⟩
        have k0 : w3.cell? ⟨w.heap.size, 0, none⟩ = some (.string ⟨#[]⟩) := new_kept (i := 0) T (by simp) rfl
        have k1 : w3.cell? ⟨w.heap.size, 1, none⟩ = some (.int .i64 0) := new_kept (i := 1) T (by simp) rfl
        have f0 := new_free (i := 0) T (by simp)
        have f1 := new_free (i := 1) T (by simp)
        have t := ((Below.refl _ w).alloc (Nat.le_refl _) _).trans (T.mono (by simp))
        clear T
        go_wp2
        refine bodyPost_ret (v := .tuple #[.agg #[.string bnm, .int .i64 1000], .bool true]) (results_it Tryz.results59 _ w3 _ _ _ _ _ _ k0 k1 rfl rfl) rfl ?_
        exact ⟨by rw [HR.out, if_pos (by trivial), if_neg (by simp), itV, if_neg HX.out, ← HN.out] <;> rfl, (t.setCell (Nat.le_refl _) _).setCell (Nat.le_refl _) _⟩
      · by_cases h2 : btt.size < 2
        · go_enter Tryz.func59, Tryz.ntmps59
          go_wp2_with fail
          refine (hc _).mono ?_
          rintro e w1 ⟨rfl, T⟩
          go_wp2_with fail
          refine (q1 w1).mono ?_
          rintro e w2 ⟨rfl, k⟩
          replace T := T.trans (k.mono T.size)
          clear k
          go_wp2_with fail
          refine (q2 w2).mono ?_
          rintro e w3 ⟨rfl, k⟩
          replace T := T.trans (k.mono T.size)
          clear k
          go_wp2_with fail
          refine (q3 w3).mono ?_
          rintro e w4 ⟨rfl, rfl⟩
          go_wp2_with fail
          refine (q4 w3).mono ?_
          rintro e w5 ⟨rfl, k⟩
          replace T := T.trans (k.mono T.size)
          clear k
          have k0 : w5.cell? ⟨w.heap.size, 0, none⟩ = some (.string ⟨#[]⟩) := new_kept (i := 0) T (by simp) rfl
          have k1 : w5.cell? ⟨w.heap.size, 1, none⟩ = some (.int .i64 0) := new_kept (i := 1) T (by simp) rfl
          have f0 := new_free (i := 0) T (by simp)
          have f1 := new_free (i := 1) T (by simp)
          have t := ((Below.refl _ w).alloc (Nat.le_refl _) _).trans (T.mono (by simp))
          clear T
          go_wp2
          refine bodyPost_ret (v := .tuple #[.agg #[.string ⟨#[]⟩, .int .i64 0], .bool false]) (results_it Tryz.results59 _ w5 _ _ _ _ _ _ k0 k1 rfl rfl) rfl ?_
          exact ⟨by rw [HR.out, if_pos (by trivial), if_pos (by trivial), if_neg (fun h => by have := HZ.out; omega)] <;> rfl, (t.setCell (Nat.le_refl _) _).setCell (Nat.le_refl _) _⟩
        · have h2' : 2 ≤ btt.size := by omega
          rcases sm with _ | _
          · go_enter Tryz.func59, Tryz.ntmps59
            go_wp2_with fail
            refine (hc _).mono ?_
            rintro e w1 ⟨rfl, T⟩
            go_wp2_with fail
            refine (q1 w1).mono ?_
            rintro e w2 ⟨rfl, k⟩
            replace T := T.trans (k.mono T.size)
            clear k
            go_wp2_with fail
            refine (q2 w2).mono ?_
            rintro e w3 ⟨rfl, k⟩
            replace T := T.trans (k.mono T.size)
            clear k
            go_wp2_with fail
            refine (q3 w3).mono ?_
            rintro e w4 ⟨rfl, rfl⟩
            go_wp2_with fail
            refine (q4 w3).mono ?_
            rintro e w5 ⟨rfl, k⟩
            replace T := T.trans (k.mono T.size)
            clear k
            go_wp2_with fail
            refine (q5 w5).mono ?_
            rintro e w6 ⟨rfl, k⟩
            replace T := T.trans (k.mono T.size)
            clear k
            have k0 : w6.cell? ⟨w.heap.size, 0, none⟩ = some (.string ⟨#[]⟩) := new_kept (i := 0) T (by simp) rfl
            have k1 : w6.cell? ⟨w.heap.size, 1, none⟩ = some (.int .i64 0) := new_kept (i := 1) T (by simp) rfl
            have f0 := new_free (i := 0) T (by simp)
            have f1 := new_free (i := 1) T (by simp)
            have t := ((Below.refl _ w).alloc (Nat.le_refl _) _).trans (T.mono (by simp))
            clear T
            go_wp2
            refine bodyPost_ret (v := .tuple #[.agg #[.string ⟨#[]⟩, .int .i64 0], .bool false]) (results_it Tryz.results59 _ w6 _ _ _ _ _ _ k0 k1 rfl rfl) rfl ?_
            exact ⟨by rw [HR.out, if_pos (by trivial), if_pos (by trivial), if_neg (fun h => by simp at h)] <;> rfl, (t.setCell (Nat.le_refl _) _).setCell (Nat.le_refl _) _⟩
          · rcases wb with _ | _
            · go_enter Tryz.func59, Tryz.ntmps59
              go_wp2_with fail
              refine (hc _).mono ?_
              rintro e w1 ⟨rfl, T⟩
              go_wp2_with fail
              refine (q1 w1).mono ?_
              rintro e w2 ⟨rfl, k⟩
              replace T := T.trans (k.mono T.size)
              clear k
              go_wp2_with fail
              refine (q2 w2).mono ?_
              rintro e w3 ⟨rfl, k⟩
              replace T := T.trans (k.mono T.size)
              clear k
              go_wp2_with fail
              refine (q3 w3).mono ?_
              rintro e w4 ⟨rfl, rfl⟩
              go_wp2_with fail
              refine (q4 w3).mono ?_
              rintro e w5 ⟨rfl, k⟩
              replace T := T.trans (k.mono T.size)
              clear k
              go_wp2_with fail
              refine (q5 w5).mono ?_
              rintro e w6 ⟨rfl, k⟩
              replace T := T.trans (k.mono T.size)
              clear k
              go_wp2_with fail
              refine (q6 w6).mono ?_
              rintro e w7 ⟨rfl, k⟩
              replace T := T.trans (k.mono T.size)
              clear k
              have k0 : w7.cell? ⟨w.heap.size, 0, none⟩ = some (.string ⟨#[]⟩) := new_kept (i := 0) T (by simp) rfl
              have k1 : w7.cell? ⟨w.heap.size, 1, none⟩ = some (.int .i64 0) := new_kept (i := 1) T (by simp) rfl
              have f0 := new_free (i := 0) T (by simp)
              have f1 := new_free (i := 1) T (by simp)
              have t := ((Below.refl _ w).alloc (Nat.le_refl _) _).trans (T.mono (by simp))
              clear T
              go_wp2
              refine bodyPost_ret (v := .tuple #[.agg #[.string ⟨#[]⟩, .int .i64 0], .bool false]) (results_it Tryz.results59 _ w7 _ _ _ _ _ _ k0 k1 rfl rfl) rfl ?_
              exact ⟨by rw [HR.out, if_pos (by trivial), if_pos (by trivial), if_neg (fun h => by simp at h)] <;> rfl, (t.setCell (Nat.le_refl _) _).setCell (Nat.le_refl _) _⟩
            · go_enter Tryz.func59, Tryz.ntmps59
              go_wp2_with fail
              refine (hc _).mono ?_
              rintro e w1 ⟨rfl, T⟩
              go_wp2_with fail
              refine (q1 w1).mono ?_
              rintro e w2 ⟨rfl, k⟩
              replace T := T.trans (k.mono T.size)
              clear k
              go_wp2_with fail
              refine (q2 w2).mono ?_
              rintro e w3 ⟨rfl, k⟩
              replace T := T.trans (k.mono T.size)
              clear k
              go_wp2_with fail
              refine (q3 w3).mono ?_
              rintro e w4 ⟨rfl, rfl⟩
              go_wp2_with fail
              refine (q4 w3).mono ?_
              rintro e w5 ⟨rfl, k⟩
              replace T := T.trans (k.mono T.size)
              clear k
              go_wp2_with fail
              refine (q5 w5).mono ?_
              rintro e w6 ⟨rfl, k⟩
              replace T := T.trans (k.mono T.size)
              clear k
              go_wp2_with fail
              refine (q6 w6).mono ?_
              rintro e w7 ⟨rfl, k⟩
              replace T := T.trans (k.mono T.size)
              clear k
              have k0 : w7.cell? ⟨w.heap.size, 0, none⟩ = some (.string ⟨#[]⟩) := new_kept (i := 0) T (by simp) rfl
              have k1 : w7.cell? ⟨w.heap.size, 1, none⟩ = some (.int .i64 0) := new_kept (i := 1) T (by simp) rfl
              have f0 := new_free (i := 0) T (by simp)
              have f1 := new_free (i := 1) T (by simp)
              have t := ((Below.refl _ w).alloc (Nat.le_refl _) _).trans (T.mono (by simp))
              clear T
              go_wp2
              refine bodyPost_ret (v := .tuple #[.agg #[.string bnm, .int .i64 wv], .bool true]) (results_it Tryz.results59 _ w7 _ _ _ _ _ _ k0 k1 rfl rfl) rfl ?_
              exact ⟨by rw [HR.out, if_pos (by trivial), if_pos (by trivial), if_pos (by refine ⟨?_, ?_, ?_⟩ <;> first | trivial | (have := HZ.out; omega)), itV, if_neg HX.out, ← HN.out] <;> rfl, (t.setCell (Nat.le_refl _) _).setCell (Nat.le_refl _) _⟩
end Go.Proofs.YtgdjlmpfjmakkaaGreatDoor
