/- accept.Weight and the reference's. -/
import Derived.Test.YtijlaclngibekaaGreatDoorKTextsG
import Derived.Test.YtijlaclngibekaaGreatDoorKRefName
import Derived.Test.YtijlaclngibekaaGreatDoorKHasG
import Derived.Test.YtijlaclngibekaaGreatDoorKBase
import Derived.Deep.DeepCutAuto
import Derived.Deep.CutBlock
import Derived.Test.YtijlaclngibekaaGreatDoorKBoxG
namespace Go.Proofs.YtijlaclngibekaaGreatDoor
open Go.RowKit

/-- Three digits: padded by noughts. -/
def pad3 (t : List UInt8) : List UInt8 := (t ++ [48, 48, 48]).take 3
/-- A weight in thousandths, and whether it is one. -/
def weightL (s : List UInt8) : Nat × Bool :=
  if (cutHead 46 s = [48] ∨ cutHead 46 s = [49]) ∧ (cutTail 46 s).length ≤ 3 ∧ (cutTail 46 s).all digB = true then
    (if cutHead 46 s = [49] then (if 0 < decV (pad3 (cutTail 46 s)) then (0, false) else (1000, true)) else (decV (pad3 (cutTail 46 s)), true))
  else (0, false)
theorem pad3_len (t : List UInt8) : (pad3 t).length = 3 := by unfold pad3; rw [List.length_take, List.length_append]; simp
theorem pad3_all (t : List UInt8) (h : t.all digB = true) : (pad3 t).all digB = true := by
  rw [List.all_eq_true] at h ⊢
  intro x hx
  have := List.mem_of_mem_take hx
  rcases List.mem_append.1 this with h1 | h1
  · exact h x h1
  · have : x = 48 := by simpa using h1
    subst this; decide
theorem pad3_lt (t : List UInt8) (h : t.all digB = true) : decV (pad3 t) < 1000 := by
  have := decV_lt (pad3 t) (pad3_all t h) 3 (by rw [pad3_len]; omega)
  rwa [List.take_of_length_le (by rw [pad3_len]; omega)] at this

set_option maxRecDepth 100000 in
set_option maxHeartbeats 3200000 in
theorem weight_any (s : ByteArray) (w : World) (hs : s.size ≤ 9223372036854775807) :
    Calls Tryz.prog 310 #[.string s] w fun e w' => e = .returned (.tuple #[.int .i64 (weightL s.data.toList).1, .bool (weightL s.data.toList).2]) ∧ Below w.heap.size w w' := by
  have hc := strcut_any s 46 w hs
  have hle := cutHead_le 46 s.data.toList
  obtain ⟨r, hr⟩ : ∃ r, r = weightL s.data.toList := ⟨_, rfl⟩
  rw [← hr]
  unfold weightL at hr
  obtain ⟨hd, hhd⟩ : ∃ hd, hd = cutHead 46 s.data.toList := ⟨_, rfl⟩
  obtain ⟨tl, htl⟩ : ∃ tl, tl = cutTail 46 s.data.toList := ⟨_, rfl⟩
  rw [← hhd, ← htl] at hr
  rw [← hhd, ← htl] at hc
  obtain ⟨hs', hhs⟩ : ∃ h, h = cutHas 46 s.data.toList := ⟨_, rfl⟩
  rw [← hhs] at hc
  have hz2 := mk_size tl
  have e0 : ((⟨hd.toArray⟩ : ByteArray).toList == [48]) = decide (hd = [48]) := by rw [ByteArray.toList_eq, Bool.eq_iff_iff]; simp
  have e1 : ((⟨hd.toArray⟩ : ByteArray).toList == [49]) = decide (hd = [49]) := by rw [ByteArray.toList_eq, Bool.eq_iff_iff]; simp
  obtain ⟨bh, hbh⟩ : ∃ b : ByteArray, b = ⟨hd.toArray⟩ := ⟨_, rfl⟩
  rw [← hbh] at hc e0 e1
  have htz : (⟨tl.toArray⟩ : ByteArray).size ≤ 9223372036854775807 := by rw [mk_size, htl]; unfold cutTail; rw [List.length_drop, ← size_of]; omega
  have htr : ∀ W, Calls Tryz.prog 171 #[.string ⟨tl.toArray⟩, .string ⟨#[48, 49, 50, 51, 52, 53, 54, 55, 56, 57]⟩] W (fun e w' => e = .returned (.string ⟨(Lib.trimS tl digs).toArray⟩) ∧ Below W.heap.size W w') := fun (W : World) => Tryz.strings_Trim_ascii ⟨tl.toArray⟩ ⟨#[48, 49, 50, 51, 52, 53, 54, 55, 56, 57]⟩ W htz (by decide) (fun j b h => by
    have hb : b ∈ digs := List.mem_of_getElem? h
    simp [digs] at hb; rcases hb with rfl | rfl | rfl | rfl | rfl | rfl | rfl | rfl | rfl | rfl <;> decide)
  have hcv := fun w => run_bytes_of_string (P := Tryz.prog) w 9 35 5 ⟨(pad3 tl).toArray⟩ Tryz.underlying9 Tryz.underlying35 Tryz.underlying5
  have hpz := mk_size (pad3 tl)
  have hpl := mk_list (pad3 tl)
  have hp3 := pad3_len tl
  have hpe : ((⟨tl.toArray⟩ : ByteArray) ++ ⟨#[48, 48, 48]⟩).extract 0 3 = ⟨(pad3 tl).toArray⟩ := bytes_ext (by rw [extract_list, mk_list]; unfold pad3; simp)
  have htn := trim_nil tl
  have hpa := pad3_all tl
  have hlt := pad3_lt tl
  have hdt := decV_take (pad3 tl)
  have hsm := fun k (h : tl.all digB = true) (hk : k ≤ (pad3 tl).length) => decV_lt (pad3 tl) (hpa h) k hk
  obtain ⟨pd, hpd⟩ : ∃ p, p = pad3 tl := ⟨_, rfl⟩
  rw [← hpd] at hr hcv hpz hpl hp3 hpe hpa hlt hdt hsm
  obtain ⟨bp, hbp⟩ : ∃ b : ByteArray, b = ⟨pd.toArray⟩ := ⟨_, rfl⟩
  rw [← hbp] at hcv hpz hpl hpe
  have hne : ∀ (h : ¬ tl.all digB = true), (⟨(Lib.trimS tl digs).toArray⟩ : ByteArray).toList.isEmpty = false := fun h => by
    rw [ByteArray.toList_eq]
    have : ¬ Lib.trimS tl digs = [] := fun e => h (htn.1 e)
    simpa using this
  obtain ⟨tb, htb⟩ : ∃ b : ByteArray, b = ⟨tl.toArray⟩ := ⟨_, rfl⟩
  rw [← htb] at hc htr hpe hz2
  have HR := hide hr
  have HZ2 := hide hz2
  rw [hp3] at hpz
  have HDT := hide hdt
  have HPL := hide hpl
  have HP3 := hide hp3
  clear hr hle hhd htl hhs hbh hpd hbp htb hdt hpl hp3
  by_cases h48 : hd = [48]
  · have E0 : (bh.toList == [48]) = true := by rw [e0]; simp [h48]
    have E1 : (bh.toList == [49]) = false := by rw [e1]; simp [h48]
    clear e0 e1
    by_cases h3 : tl.length ≤ 3
    · by_cases hall : tl.all digB = true
      · have h48' := hide h48
        clear h48
        have hsm' := fun k hk => hsm k hall hk
        have hpa' := hpa hall
        have hlt' := hlt hall
        have hnil := htn.2 hall
        rw [hnil] at htr
        have HS := hide hsm'
        have HA := hide hpa'
        have HQ := hide hall
        have htl3 : tb.size ≤ 3 := by rw [hz2]; exact h3
        have HL3 := hide h3
        clear hsm hpa hlt hnil htn hne hsm' hpa' hall hz2 h3 htz
        go_enter Tryz.func310, Tryz.ntmps310
        go_wp2_with fail
        refine hc.mono ?_
        rintro e w1 ⟨rfl, b1⟩
        clear hc
        go_wp2_with fail
        refine (htr _).mono ?_
        rintro e w2 ⟨rfl, b2⟩
        have t2 := b1.trans (b2.mono b1.size)
        obtain ⟨c, hc'⟩ : ∃ c, c = grownCap w2 bp.size 0 5 := ⟨_, rfl⟩
        have hc1 : bp.size ≤ c := by rw [hc']; exact grownCap_ge _ _ _ _
        have hc2 : c ≤ maxLen := by rw [hc']; exact grownCap_le_maxLen _ _ _ _ (by simp [maxLen]; omega)
        have hcv1 := hcv w2
        rw [← hc'] at hcv1
        have ho := ow_of_string w2 5 bp c hc1 hc2
        rw [hpz] at hc1 hcv1 ho
        rw [HPL.out] at ho
        clear hcv hc' htr b1 b2
        go_wp2_with fail
        go_loopw [7, 37] (fun v i wr => ∃ k : Nat, k ≤ 3 ∧ i = .int .i64 k ∧ v = .int .i64 (decV (pd.take k)) ∧ Ow wr w2.heap.size 1 (.slice (some ⟨w2.heap.size, 0, none⟩) 3 c) 3 (pd.map fun b => .int .u8 b.toNat) ∧ Below w.heap.size w wr) (fun _ i _ => 3 - (intOf i).toNat)
        case atStart => exact ⟨0, Nat.zero_le _, rfl, rfl, ho, t2.drew.alloc t2.size _⟩
        case round =>
          clear ho hcv1 t2
          obtain ⟨k, hk, rfl, rfl, ho, hb⟩ := hrel
          have hsk := HS.out k (by rw [HP3.out]; exact hk)
          have hpw : 10 ^ k ≤ 10 ^ 3 := Nat.pow_le_pow_right (by decide) hk
          have hsk' : decV (pd.take k) < 1000 := by omega
          clear hsk hpw
          by_cases hkl : k < 3
          · obtain ⟨g, off, hA, -, hg2, hcell, hfr⟩ := ho.at_ (j := k) (by omega)
            cases hA
            have hkp : k < pd.length := by rw [HP3.out]; exact hkl
            have hdv := HDT.out k hkp
            have hdg := (digB_iff _).1 (List.all_eq_true.1 HA.out _ (List.getElem_mem hkp))
            rw [List.getElem?_map, List.getElem?_eq_getElem hkp, Option.map_some] at hcell
            obtain ⟨b, hbb⟩ : ∃ b, b = pd[k] := ⟨_, rfl⟩
            rw [← hbb] at hcell hdv hdg
            simp only [Nat.zero_add] at hcell
            obtain ⟨q, hq⟩ : ∃ q, q = decV (pd.take k) := ⟨_, rfl⟩
            rw [← hq] at hdv hsk' ⊢
            have HV := hide hdv
            clear hbb hkp hdv hq
            go_wp2
            go_roundw
            case rel => exact ⟨k + 1, by omega, by go_num, by rw [HV.out]; exact congrArg (Value.int .i64) (by omega), ho, hb⟩
            case measure => simp [intOf]; omega
          · have hfin : pd.take k = pd := List.take_of_length_le (by rw [HP3.out]; omega)
            rw [hfin] at hsk' ⊢
            obtain ⟨q, hq⟩ : ∃ q, q = decV pd := ⟨_, rfl⟩
            have HV := hide hq
            rw [← hq] at hsk' hlt' ⊢
            clear hfin ho hq
            go_wp2
            go_ret2
            exact ⟨by rw [HR.out, if_pos ⟨.inl h48'.out, HL3.out, HQ.out⟩, if_neg (by rw [h48'.out]; decide), ← HV.out] <;> rfl, hb⟩
      · clear h48
        have hne' := hne hall
        have HQ := hide hall
        have htl3 : tb.size ≤ 3 := by rw [hz2]; exact h3
        obtain ⟨tt, htt⟩ : ∃ tt : ByteArray, tt = ⟨(Lib.trimS tl digs).toArray⟩ := ⟨_, rfl⟩
        rw [← htt] at hne'
        simp only [← htt] at htr
        clear hsm hpa hlt htn hne hall hz2 h3 hcv htt htz
        go_enter Tryz.func310, Tryz.ntmps310
        go_wp2_with fail
        refine hc.mono ?_
        rintro e w1 ⟨rfl, b1⟩
        clear hc
        go_wp2_with fail
        refine (htr _).mono ?_
        rintro e w2 ⟨rfl, b2⟩
        go_wp2
        go_ret2
        exact ⟨by rw [HR.out, if_neg (fun h => HQ.out h.2.2)] <;> rfl, b1.trans (b2.mono b1.size)⟩
    · clear h48
      have htl3 : 3 < tb.size := by rw [hz2]; omega
      have HL3 := hide h3
      clear hsm hpa hlt htn hne hz2 h3 hcv htr
      go_enter Tryz.func310, Tryz.ntmps310
      go_wp2_with fail
      refine hc.mono ?_
      rintro e w1 ⟨rfl, b1⟩
      clear hc
      go_wp2
      go_ret2
      exact ⟨by rw [HR.out, if_neg (fun h => HL3.out h.2.1)] <;> rfl, b1⟩
  · by_cases h49 : hd = [49]
    · have E0 : (bh.toList == [48]) = false := by rw [e0]; simp [h49]
      have E1 : (bh.toList == [49]) = true := by rw [e1]; simp [h49]
      clear e0 e1 h48
      by_cases h3 : tl.length ≤ 3
      · by_cases hall : tl.all digB = true
        · have h49' := hide h49
          clear h49
          have hsm' := fun k hk => hsm k hall hk
          have hpa' := hpa hall
          have hlt' := hlt hall
          have hnil := htn.2 hall
          rw [hnil] at htr
          have HS := hide hsm'
          have HA := hide hpa'
          have HQ := hide hall
          have htl3 : tb.size ≤ 3 := by rw [hz2]; exact h3
          have HL3 := hide h3
          clear hsm hpa hlt hnil htn hne hsm' hpa' hall hz2 h3 htz
          go_enter Tryz.func310, Tryz.ntmps310
          go_wp2_with fail
          refine hc.mono ?_
          rintro e w1 ⟨rfl, b1⟩
          clear hc
          go_wp2_with fail
          refine (htr _).mono ?_
          rintro e w2 ⟨rfl, b2⟩
          have t2 := b1.trans (b2.mono b1.size)
          obtain ⟨c, hc'⟩ : ∃ c, c = grownCap w2 bp.size 0 5 := ⟨_, rfl⟩
          have hc1 : bp.size ≤ c := by rw [hc']; exact grownCap_ge _ _ _ _
          have hc2 : c ≤ maxLen := by rw [hc']; exact grownCap_le_maxLen _ _ _ _ (by simp [maxLen]; omega)
          have hcv1 := hcv w2
          rw [← hc'] at hcv1
          have ho := ow_of_string w2 5 bp c hc1 hc2
          rw [hpz] at hc1 hcv1 ho
          rw [HPL.out] at ho
          clear hcv hc' htr b1 b2
          go_wp2_with fail
          go_loopw [7, 37] (fun v i wr => ∃ k : Nat, k ≤ 3 ∧ i = .int .i64 k ∧ v = .int .i64 (decV (pd.take k)) ∧ Ow wr w2.heap.size 1 (.slice (some ⟨w2.heap.size, 0, none⟩) 3 c) 3 (pd.map fun b => .int .u8 b.toNat) ∧ Below w.heap.size w wr) (fun _ i _ => 3 - (intOf i).toNat)
          case atStart => exact ⟨0, Nat.zero_le _, rfl, rfl, ho, t2.drew.alloc t2.size _⟩
          case round =>
            clear ho hcv1 t2
            obtain ⟨k, hk, rfl, rfl, ho, hb⟩ := hrel
            have hsk := HS.out k (by rw [HP3.out]; exact hk)
            have hpw : 10 ^ k ≤ 10 ^ 3 := Nat.pow_le_pow_right (by decide) hk
            have hsk' : decV (pd.take k) < 1000 := by omega
            clear hsk hpw
            by_cases hkl : k < 3
            · obtain ⟨g, off, hA, -, hg2, hcell, hfr⟩ := ho.at_ (j := k) (by omega)
              cases hA
              have hkp : k < pd.length := by rw [HP3.out]; exact hkl
              have hdv := HDT.out k hkp
              have hdg := (digB_iff _).1 (List.all_eq_true.1 HA.out _ (List.getElem_mem hkp))
              rw [List.getElem?_map, List.getElem?_eq_getElem hkp, Option.map_some] at hcell
              obtain ⟨b, hbb⟩ : ∃ b, b = pd[k] := ⟨_, rfl⟩
              rw [← hbb] at hcell hdv hdg
              simp only [Nat.zero_add] at hcell
              obtain ⟨q, hq⟩ : ∃ q, q = decV (pd.take k) := ⟨_, rfl⟩
              rw [← hq] at hdv hsk' ⊢
              have HV := hide hdv
              clear hbb hkp hdv hq
              go_wp2
              go_roundw
              case rel => exact ⟨k + 1, by omega, by go_num, by rw [HV.out]; exact congrArg (Value.int .i64) (by omega), ho, hb⟩
              case measure => simp [intOf]; omega
            · have hfin : pd.take k = pd := List.take_of_length_le (by rw [HP3.out]; omega)
              rw [hfin] at hsk' ⊢
              obtain ⟨q, hq⟩ : ∃ q, q = decV pd := ⟨_, rfl⟩
              have HV := hide hq
              rw [← hq] at hsk' hlt' ⊢
              clear hfin ho hq
              by_cases hq0 : 0 < q
              · go_wp2
                go_ret2
                exact ⟨by rw [HR.out, if_pos ⟨.inr h49'.out, HL3.out, HQ.out⟩, if_pos h49'.out, ← HV.out, if_pos hq0] <;> rfl, hb⟩
              · go_wp2
                go_ret2
                exact ⟨by rw [HR.out, if_pos ⟨.inr h49'.out, HL3.out, HQ.out⟩, if_pos h49'.out, ← HV.out, if_neg hq0] <;> rfl, hb⟩
        · clear h49
          have hne' := hne hall
          have HQ := hide hall
          have htl3 : tb.size ≤ 3 := by rw [hz2]; exact h3
          obtain ⟨tt, htt⟩ : ∃ tt : ByteArray, tt = ⟨(Lib.trimS tl digs).toArray⟩ := ⟨_, rfl⟩
          rw [← htt] at hne'
          simp only [← htt] at htr
          clear hsm hpa hlt htn hne hall hz2 h3 hcv htt htz
          go_enter Tryz.func310, Tryz.ntmps310
          go_wp2_with fail
          refine hc.mono ?_
          rintro e w1 ⟨rfl, b1⟩
          clear hc
          go_wp2_with fail
          refine (htr _).mono ?_
          rintro e w2 ⟨rfl, b2⟩
          go_wp2
          go_ret2
          exact ⟨by rw [HR.out, if_neg (fun h => HQ.out h.2.2)] <;> rfl, b1.trans (b2.mono b1.size)⟩
      · clear h49
        have htl3 : 3 < tb.size := by rw [hz2]; omega
        have HL3 := hide h3
        clear hsm hpa hlt htn hne hz2 h3 hcv htr
        go_enter Tryz.func310, Tryz.ntmps310
        go_wp2_with fail
        refine hc.mono ?_
        rintro e w1 ⟨rfl, b1⟩
        clear hc
        go_wp2
        go_ret2
        exact ⟨by rw [HR.out, if_neg (fun h => HL3.out h.2.1)] <;> rfl, b1⟩
    · have E0 : (bh.toList == [48]) = false := by rw [e0]; simp [h48]
      have E1 : (bh.toList == [49]) = false := by rw [e1]; simp [h49]
      have H8 := hide h48
      have H9 := hide h49
      clear e0 e1 h48 h49 hsm hpa hlt htn hne hz2 hcv htr
      go_enter Tryz.func310, Tryz.ntmps310
      go_wp2_with fail
      refine hc.mono ?_
      rintro e w1 ⟨rfl, b1⟩
      clear hc
      go_wp2
      go_ret2
      exact ⟨by rw [HR.out, if_neg (fun h => h.1.elim H8.out H9.out)] <;> rfl, b1⟩

/- The reference. -/
theorem weight_cons (c : UInt8) (r : List UInt8) : weightL (c :: r) =
    if (c = 48 ∨ c = 49) ∧ (r = [] ∨ r.head? = some 46) ∧ (r.drop 1).length ≤ 3 ∧ (r.drop 1).all digB = true then
      (if c = 49 then (if 0 < decV (pad3 (r.drop 1)) then (0, false) else (1000, true)) else (decV (pad3 (r.drop 1)), true)) else (0, false) := by
  unfold weightL cutTail
  rw [cutHead_cons]
  by_cases hc : (c == 46) = true
  · have : c = 46 := by simpa using hc
    subst this
    simp
  · rw [if_neg hc]
    cases r with
    | nil => simp [cutHead]
    | cons d r =>
      rw [cutHead_cons]
      by_cases hd : (d == 46) = true
      · have : d = 46 := by simpa using hd
        subst this
        simp
      · have hd' : ¬ d = 46 := by simpa using hd
        rw [if_neg hd]
        simp [hd']
end Go.Proofs.YtijlaclngibekaaGreatDoor

/- The reference's Weight. -/
namespace Go.Proofs.YtijlaclngibekaaGreatDoor
open Go.RowKit

theorem pad3_at (t : List UInt8) (k : Nat) (hk : k < 3) : (pad3 t)[k]? = some ((t[k]?).getD 48) := by
  unfold pad3
  rw [List.getElem?_take, if_pos hk, List.getElem?_append]
  split
  · rename_i h
    rw [List.getElem?_eq_getElem h]; rfl
  · rename_i h
    rw [List.getElem?_eq_none (l := t) (by omega)]
    have : ∀ j, j < 3 → ([48, 48, 48] : List UInt8)[j]? = some 48 := by decide
    rw [this _ (by omega)]; rfl
theorem decV_consk (c : UInt8) (l : List UInt8) : ∀ k, k ≤ l.length → decV (c :: l.take k) = (c.toNat - 48) * 10 ^ k + decV (l.take k)
  | 0, _ => by simp [decV]
  | k + 1, h => by
    have ih := decV_consk c l k (by omega)
    have e : c :: l.take (k + 1) = (c :: l.take k) ++ [l[k]] := by rw [list_take_snoc l k (by omega)]; rfl
    rw [e, decV_snoc, ih, decV_take l k (by omega), Nat.pow_succ, Nat.mul_add]
    rw [show 10 * ((c.toNat - 48) * 10 ^ k) = (c.toNat - 48) * (10 ^ k * 10) by rw [← Nat.mul_assoc, Nat.mul_comm 10, Nat.mul_assoc, Nat.mul_comm 10]]
    omega

end Go.Proofs.YtijlaclngibekaaGreatDoor

/- accept.member: one of a list. -/
namespace Go.Proofs.YtijlaclngibekaaGreatDoor
open Go.RowKit

def xgzipL : List UInt8 := [120, 45, 103, 122, 105, 112]
def gzipL : List UInt8 := [103, 122, 105, 112]
def qeqL : List UInt8 := [113, 61]
/-- A member's name: x-gzip is gzip. -/
def mnameL (s : List UInt8) : List UInt8 := if lowL (trimL (cutHead 59 s)) = xgzipL then gzipL else lowL (trimL (cutHead 59 s))
/-- One of a list, and whether it is one. -/
def memberL (s : List UInt8) : (List UInt8 × Nat) × Bool :=
  if goodNameL (lowL (trimL (cutHead 59 s))) = true then
    (if cutHas 59 s = true then
      (if 2 ≤ (trimL (cutTail 59 s)).length ∧ sameL ((trimL (cutTail 59 s)).take 2) qeqL = true ∧ (weightL ((trimL (cutTail 59 s)).drop 2)).2 = true then ((mnameL s, (weightL ((trimL (cutTail 59 s)).drop 2)).1), true) else (([], 0), false))
    else ((mnameL s, 1000), true))
  else (([], 0), false)
def itV (m : (List UInt8 × Nat) × Bool) : Value := .tuple #[.agg #[.string ⟨m.1.1.toArray⟩, .int .i64 m.1.2], .bool m.2]
theorem results_it {fn : Func} {p u : Tmp} (h : fn.results = #[.cell p 324, .tmp u]) (tmps : Array Value) (w2 : World) (g : Nat) (x y e : Value) (a0 a1 : Value) (h0 : w2.cell? ⟨g, 0, none⟩ = some a0) (h1 : w2.cell? ⟨g, 1, none⟩ = some a1)
    (hp : tmps.getD p undef = .pointer (some ⟨g, 0, none⟩)) (hu : tmps.getD u undef = e) :
    (results fn tmps).run Tryz.prog ((w2.setCell ⟨g, 0, none⟩ x).setCell ⟨g, 1, none⟩ y) = .ok (.tuple #[.agg #[x, y], e]) ((w2.setCell ⟨g, 0, none⟩ x).setCell ⟨g, 1, none⟩ y) := by
  have k0 : (w2.setCell ⟨g, 0, none⟩ x).cell? ⟨g, 0, none⟩ = some x := World.cell?_setCell_same' w2 _ _ (by rw [h0]; rfl)
  have k1 : ((w2.setCell ⟨g, 0, none⟩ x).setCell ⟨g, 1, none⟩ y).cell? ⟨g, 1, none⟩ = some y := World.cell?_setCell_same' _ _ _ (by rw [World.cell?_setCell_other _ _ _ _ (by simp), h1]; rfl)
  have hp' : tmps[p]?.getD undef = .pointer (some ⟨g, 0, none⟩) := by simpa using hp
  have hu' : tmps[u]?.getD undef = e := by simpa using hu
  simp [results, h, hp', hu', go_sem, k0, k1]
theorem trimL_le (l : List UInt8) : (trimL l).length ≤ l.length := by
  show (List.dropWhile blankB (l.reverse.dropWhile blankB).reverse).length ≤ l.length
  have h1 := (List.dropWhile_sublist (l := (l.reverse.dropWhile blankB).reverse) blankB).length_le
  have h2 := (List.dropWhile_sublist (l := l.reverse) blankB).length_le
  rw [List.length_reverse] at h1 h2
  omega

set_option maxRecDepth 100000 in
set_option maxHeartbeats 3200000 in
theorem member_any (s : ByteArray) (w : World) (hs : s.size ≤ 1000000) :
    Calls Tryz.prog 307 #[.string s] w fun e w' => e = .returned (itV (memberL s.data.toList)) ∧ Below w.heap.size w w' := by
  have hc := fun w => strcut_any s 59 w (by omega)
  have hh1 := cutHead_le 59 s.data.toList
  have ht1 : (cutTail 59 s.data.toList).length ≤ s.data.toList.length := by unfold cutTail; rw [List.length_drop]; omega
  rw [← size_of] at hh1 ht1
  have hle1 := trimL_le (cutHead 59 s.data.toList)
  have hle2 := trimL_le (cutTail 59 s.data.toList)
  obtain ⟨r, hr⟩ : ∃ r, r = memberL s.data.toList := ⟨_, rfl⟩
  rw [← hr]
  unfold memberL mnameL at hr
  obtain ⟨hd, hhd⟩ : ∃ hd, hd = cutHead 59 s.data.toList := ⟨_, rfl⟩
  obtain ⟨tl, htl⟩ : ∃ tl, tl = cutTail 59 s.data.toList := ⟨_, rfl⟩
  rw [← hhd, ← htl] at hr
  simp only [← hhd, ← htl] at hc
  rw [← hhd] at hle1 hh1
  rw [← htl] at hle2 ht1
  obtain ⟨bs, hbs⟩ : ∃ h, h = cutHas 59 s.data.toList := ⟨_, rfl⟩
  rw [← hbs] at hr
  simp only [← hbs] at hc
  obtain ⟨th, hth⟩ : ∃ t, t = trimL hd := ⟨_, rfl⟩
  obtain ⟨tt, htt⟩ : ∃ t, t = trimL tl := ⟨_, rfl⟩
  rw [← hth] at hr hle1
  rw [← htt] at hr hle2
  have q1 := fun w => trim_any ⟨hd.toArray⟩ w (by rw [mk_size]; omega)
  have q2 := fun w => lower_any ⟨th.toArray⟩ w (by rw [mk_size]; omega)
  have q3 := fun w => goodName_any ⟨(lowL th).toArray⟩ w (by rw [mk_size, lowL_length]; omega)
  have q4 := fun w => trim_any ⟨tl.toArray⟩ w (by rw [mk_size]; omega)
  simp only [← hth, ← htt] at q1 q2 q3 q4
  obtain ⟨nm, hnm⟩ : ∃ n, n = lowL th := ⟨_, rfl⟩
  rw [← hnm] at hr
  simp only [← hnm] at q2 q3
  have q5 := fun w => fieldsame_any ⟨(tt.take 2).toArray⟩ ⟨#[113, 61]⟩ w (by rw [mk_size, List.length_take]; omega) (by decide)
  have q6 := fun w => weight_any ⟨(tt.drop 2).toArray⟩ w (by rw [mk_size, List.length_drop]; omega)
  change ∀ w, Calls Tryz.prog 140 _ w (fun e w' => e = .returned (.bool (sameL (tt.take 2) qeqL)) ∧ Below w.heap.size w w') at q5
  change ∀ w, Calls Tryz.prog 310 _ w (fun e w' => e = .returned (.tuple #[.int .i64 (weightL (tt.drop 2)).1, .bool (weightL (tt.drop 2)).2]) ∧ Below w.heap.size w w') at q6
  have hx1 : (⟨tt.toArray⟩ : ByteArray).extract 0 2 = ⟨(tt.take 2).toArray⟩ := bytes_ext (by rw [extract_list, mk_list, mk_list]; simp)
  have hx2 : (⟨tt.toArray⟩ : ByteArray).extract 2 (⟨tt.toArray⟩ : ByteArray).size = ⟨(tt.drop 2).toArray⟩ := bytes_ext (by rw [extract_list, mk_list, mk_list, mk_size]; simp)
  have hcx : ((⟨nm.toArray⟩ : ByteArray).toList == [120, 45, 103, 122, 105, 112]) = decide (nm = xgzipL) := by rw [ByteArray.toList_eq, Bool.eq_iff_iff, decide_eq_true_iff]; simp [xgzipL]
  have hzt := mk_size tt
  obtain ⟨bhd, e1⟩ : ∃ b : ByteArray, b = ⟨hd.toArray⟩ := ⟨_, rfl⟩
  obtain ⟨btl, e2⟩ : ∃ b : ByteArray, b = ⟨tl.toArray⟩ := ⟨_, rfl⟩
  obtain ⟨bth, e3⟩ : ∃ b : ByteArray, b = ⟨th.toArray⟩ := ⟨_, rfl⟩
  obtain ⟨btt, e4⟩ : ∃ b : ByteArray, b = ⟨tt.toArray⟩ := ⟨_, rfl⟩
  obtain ⟨bnm, e5⟩ : ∃ b : ByteArray, b = ⟨nm.toArray⟩ := ⟨_, rfl⟩
  obtain ⟨bq, e6⟩ : ∃ b : ByteArray, b = ⟨(tt.take 2).toArray⟩ := ⟨_, rfl⟩
  obtain ⟨br, e7⟩ : ∃ b : ByteArray, b = ⟨(tt.drop 2).toArray⟩ := ⟨_, rfl⟩
  simp only [← e1, ← e2] at hc
  simp only [← e1, ← e3] at q1
  simp only [← e3, ← e5] at q2
  simp only [← e5] at q3 hcx
  simp only [← e2, ← e4] at q4
  simp only [← e6] at q5
  simp only [← e7] at q6
  rw [← e4, ← e6] at hx1
  rw [← e4, ← e7] at hx2
  rw [← e4] at hzt
  have HN := hide e5
  obtain ⟨wv, hwv⟩ : ∃ x, x = (weightL (tt.drop 2)).1 := ⟨_, rfl⟩
  obtain ⟨wb, hwb⟩ : ∃ x, x = (weightL (tt.drop 2)).2 := ⟨_, rfl⟩
  obtain ⟨sm, hsm⟩ : ∃ x, x = sameL (tt.take 2) qeqL := ⟨_, rfl⟩
  obtain ⟨gd, hgd⟩ : ∃ x, x = goodNameL nm := ⟨_, rfl⟩
  rw [← hwv, ← hwb, ← hsm, ← hgd] at hr
  simp only [← hwv, ← hwb] at q6
  simp only [← hsm] at q5
  simp only [← hgd] at q3
  obtain ⟨nt, hnt⟩ : ∃ n, n = tt.length := ⟨_, rfl⟩
  rw [← hnt] at hr hzt
  have HZ := hide hzt
  have HR := hide hr
  clear hr hh1 ht1 hle1 hle2 hhd htl hbs hth htt hnm e1 e2 e3 e4 e5 e6 e7 hwv hwb hsm hgd hnt hzt
  rcases gd with _ | _
  · go_enter Tryz.func307, Tryz.ntmps307
    go_wp2_with fail
    refine (hc _).mono ?_
    rintro e w1 ⟨rfl, T⟩
    go_wp2_with fail
    refine (q1 w1).mono ?_
    rintro e w2 ⟨rfl, k⟩
    replace T := T.trans (k.mono T.size)
    clear k
    go_wp2_with fail
    refine (q2 w2).mono ?_
    rintro e w3 ⟨rfl, k⟩
    replace T := T.trans (k.mono T.size)
    clear k
    go_wp2_with fail
    refine (q3 w3).mono ?_
    rintro e w4 ⟨rfl, rfl⟩
    have k0 : w3.cell? ⟨w.heap.size, 0, none⟩ = some (.string ⟨#[]⟩) := new_kept (i := 0) T (by simp) rfl
    have k1 : w3.cell? ⟨w.heap.size, 1, none⟩ = some (.int .i64 0) := new_kept (i := 1) T (by simp) rfl
    have f0 := new_free (i := 0) T (by simp)
    have f1 := new_free (i := 1) T (by simp)
    have t := ((Below.refl _ w).alloc (Nat.le_refl _) _).trans (T.mono (by simp))
    clear T
    go_wp2
    refine bodyPost_ret (v := .tuple #[.agg #[.string ⟨#[]⟩, .int .i64 0], .bool false]) (results_it Tryz.results307 _ w3 _ _ _ _ _ _ k0 k1 rfl rfl) rfl ?_
    exact ⟨by rw [HR.out, if_neg (by simp)] <;> rfl, (t.setCell (Nat.le_refl _) _).setCell (Nat.le_refl _) _⟩
  · by_cases hxg : nm = xgzipL
    · have hcx' : (bnm.toList == [120, 45, 103, 122, 105, 112]) = true := by rw [hcx]; simpa using hxg
      have HX := hide hxg
      clear hcx hxg
      rcases bs with _ | _
      · go_enter Tryz.func307, Tryz.ntmps307
        go_wp2_with fail
        refine (hc _).mono ?_
        rintro e w1 ⟨rfl, T⟩
        go_wp2_with fail
        refine (q1 w1).mono ?_
        rintro e w2 ⟨rfl, k⟩
        replace T := T.trans (k.mono T.size)
        clear k
        go_wp2_with fail
        refine (q2 w2).mono ?_
        rintro e w3 ⟨rfl, k⟩
        replace T := T.trans (k.mono T.size)
        clear k
        go_wp2_with fail
        refine (q3 w3).mono ?_
        rintro e w4 ⟨rfl, rfl⟩
        have k0 : w3.cell? ⟨w.heap.size, 0, none⟩ = some (.string ⟨#[]⟩) := new_kept (i := 0) T (by simp) rfl
        have k1 : w3.cell? ⟨w.heap.size, 1, none⟩ = some (.int .i64 0) := new_kept (i := 1) T (by simp) rfl
        have f0 := new_free (i := 0) T (by simp)
        have f1 := new_free (i := 1) T (by simp)
        have t := ((Below.refl _ w).alloc (Nat.le_refl _) _).trans (T.mono (by simp))
        clear T
        go_wp2
        refine bodyPost_ret (v := .tuple #[.agg #[.string ⟨#[103, 122, 105, 112]⟩, .int .i64 1000], .bool true]) (results_it Tryz.results307 _ w3 _ _ _ _ _ _ k0 k1 rfl rfl) rfl ?_
        exact ⟨by rw [HR.out, if_pos (by trivial), if_neg (by simp), itV, if_pos HX.out] <;> rfl, (t.setCell (Nat.le_refl _) _).setCell (Nat.le_refl _) _⟩
      · by_cases h2 : btt.size < 2
        · go_enter Tryz.func307, Tryz.ntmps307
          go_wp2_with fail
          refine (hc _).mono ?_
          rintro e w1 ⟨rfl, T⟩
          go_wp2_with fail
          refine (q1 w1).mono ?_
          rintro e w2 ⟨rfl, k⟩
          replace T := T.trans (k.mono T.size)
          clear k
          go_wp2_with fail
          refine (q2 w2).mono ?_
          rintro e w3 ⟨rfl, k⟩
          replace T := T.trans (k.mono T.size)
          clear k
          go_wp2_with fail
          refine (q3 w3).mono ?_
          rintro e w4 ⟨rfl, rfl⟩
          go_wp2_with fail
          refine (q4 w3).mono ?_
          rintro e w5 ⟨rfl, k⟩
          replace T := T.trans (k.mono T.size)
          clear k
          have k0 : w5.cell? ⟨w.heap.size, 0, none⟩ = some (.string ⟨#[]⟩) := new_kept (i := 0) T (by simp) rfl
          have k1 : w5.cell? ⟨w.heap.size, 1, none⟩ = some (.int .i64 0) := new_kept (i := 1) T (by simp) rfl
          have f0 := new_free (i := 0) T (by simp)
          have f1 := new_free (i := 1) T (by simp)
          have t := ((Below.refl _ w).alloc (Nat.le_refl _) _).trans (T.mono (by simp))
          clear T
          go_wp2
          refine bodyPost_ret (v := .tuple #[.agg #[.string ⟨#[]⟩, .int .i64 0], .bool false]) (results_it Tryz.results307 _ w5 _ _ _ _ _ _ k0 k1 rfl rfl) rfl ?_
          exact ⟨by rw [HR.out, if_pos (by trivial), if_pos (by trivial), if_neg (fun h => by have := HZ.out; omega)] <;> rfl, (t.setCell (Nat.le_refl _) _).setCell (Nat.le_refl _) _⟩
        · have h2' : 2 ≤ btt.size := by omega
          rcases sm with _ | _
          · go_enter Tryz.func307, Tryz.ntmps307
            go_wp2_with fail
            refine (hc _).mono ?_
            rintro e w1 ⟨rfl, T⟩
            go_wp2_with fail
            refine (q1 w1).mono ?_
            rintro e w2 ⟨rfl, k⟩
            replace T := T.trans (k.mono T.size)
            clear k
            go_wp2_with fail
            refine (q2 w2).mono ?_
            rintro e w3 ⟨rfl, k⟩
            replace T := T.trans (k.mono T.size)
            clear k
            go_wp2_with fail
            refine (q3 w3).mono ?_
            rintro e w4 ⟨rfl, rfl⟩
            go_wp2_with fail
            refine (q4 w3).mono ?_
            rintro e w5 ⟨rfl, k⟩
            replace T := T.trans (k.mono T.size)
            clear k
            go_wp2_with fail
            refine (q5 w5).mono ?_
            rintro e w6 ⟨rfl, k⟩
            replace T := T.trans (k.mono T.size)
            clear k
            have k0 : w6.cell? ⟨w.heap.size, 0, none⟩ = some (.string ⟨#[]⟩) := new_kept (i := 0) T (by simp) rfl
            have k1 : w6.cell? ⟨w.heap.size, 1, none⟩ = some (.int .i64 0) := new_kept (i := 1) T (by simp) rfl
            have f0 := new_free (i := 0) T (by simp)
            have f1 := new_free (i := 1) T (by simp)
            have t := ((Below.refl _ w).alloc (Nat.le_refl _) _).trans (T.mono (by simp))
            clear T
            go_wp2
            refine bodyPost_ret (v := .tuple #[.agg #[.string ⟨#[]⟩, .int .i64 0], .bool false]) (results_it Tryz.results307 _ w6 _ _ _ _ _ _ k0 k1 rfl rfl) rfl ?_
            exact ⟨by rw [HR.out, if_pos (by trivial), if_pos (by trivial), if_neg (fun h => by simp at h)] <;> rfl, (t.setCell (Nat.le_refl _) _).setCell (Nat.le_refl _) _⟩
          · rcases wb with _ | _
            · go_enter Tryz.func307, Tryz.ntmps307
              go_wp2_with fail
              refine (hc _).mono ?_
              rintro e w1 ⟨rfl, T⟩
              go_wp2_with fail
              refine (q1 w1).mono ?_
              rintro e w2 ⟨rfl, k⟩
              replace T := T.trans (k.mono T.size)
              clear k
              go_wp2_with fail
              refine (q2 w2).mono ?_
              rintro e w3 ⟨rfl, k⟩
              replace T := T.trans (k.mono T.size)
              clear k
              go_wp2_with fail
              refine (q3 w3).mono ?_
              rintro e w4 ⟨rfl, rfl⟩
              go_wp2_with fail
              refine (q4 w3).mono ?_
              rintro e w5 ⟨rfl, k⟩
              replace T := T.trans (k.mono T.size)
              clear k
              go_wp2_with fail
              refine (q5 w5).mono ?_
              rintro e w6 ⟨rfl, k⟩
              replace T := T.trans (k.mono T.size)
              clear k
              go_wp2_with fail
              refine (q6 w6).mono ?_
              rintro e w7 ⟨rfl, k⟩
              replace T := T.trans (k.mono T.size)
              clear k
              have k0 : w7.cell? ⟨w.heap.size, 0, none⟩ = some (.string ⟨#[]⟩) := new_kept (i := 0) T (by simp) rfl
              have k1 : w7.cell? ⟨w.heap.size, 1, none⟩ = some (.int .i64 0) := new_kept (i := 1) T (by simp) rfl
              have f0 := new_free (i := 0) T (by simp)
              have f1 := new_free (i := 1) T (by simp)
              have t := ((Below.refl _ w).alloc (Nat.le_refl _) _).trans (T.mono (by simp))
              clear T
              go_wp2
              refine bodyPost_ret (v := .tuple #[.agg #[.string ⟨#[]⟩, .int .i64 0], .bool false]) (results_it Tryz.results307 _ w7 _ _ _ _ _ _ k0 k1 rfl rfl) rfl ?_
              exact ⟨by rw [HR.out, if_pos (by trivial), if_pos (by trivial), if_neg (fun h => by simp at h)] <;> rfl, (t.setCell (Nat.le_refl _) _).setCell (Nat.le_refl _) _⟩
            · go_enter Tryz.func307, Tryz.ntmps307
              go_wp2_with fail
              refine (hc _).mono ?_
              rintro e w1 ⟨rfl, T⟩
              go_wp2_with fail
              refine (q1 w1).mono ?_
              rintro e w2 ⟨rfl, k⟩
              replace T := T.trans (k.mono T.size)
              clear k
              go_wp2_with fail
              refine (q2 w2).mono ?_
              rintro e w3 ⟨rfl, k⟩
              replace T := T.trans (k.mono T.size)
              clear k
              go_wp2_with fail
              refine (q3 w3).mono ?_
              rintro e w4 ⟨rfl, rfl⟩
              go_wp2_with fail
              refine (q4 w3).mono ?_
              rintro e w5 ⟨rfl, k⟩
              replace T := T.trans (k.mono T.size)
              clear k
              go_wp2_with fail
              refine (q5 w5).mono ?_
              rintro e w6 ⟨rfl, k⟩
              replace T := T.trans (k.mono T.size)
              clear k
              go_wp2_with fail
              refine (q6 w6).mono ?_
              rintro e w7 ⟨rfl, k⟩
              replace T := T.trans (k.mono T.size)
              clear k
              have k0 : w7.cell? ⟨w.heap.size, 0, none⟩ = some (.string ⟨#[]⟩) := new_kept (i := 0) T (by simp) rfl
              have k1 : w7.cell? ⟨w.heap.size, 1, none⟩ = some (.int .i64 0) := new_kept (i := 1) T (by simp) rfl
              have f0 := new_free (i := 0) T (by simp)
              have f1 := new_free (i := 1) T (by simp)
              have t := ((Below.refl _ w).alloc (Nat.le_refl _) _).trans (T.mono (by simp))
              clear T
              go_wp2
              refine bodyPost_ret (v := .tuple #[.agg #[.string ⟨#[103, 122, 105, 112]⟩, .int .i64 wv], .bool true]) (results_it Tryz.results307 _ w7 _ _ _ _ _ _ k0 k1 rfl rfl) rfl ?_
              exact ⟨by rw [HR.out, if_pos (by trivial), if_pos (by trivial), if_pos (by refine ⟨?_, ?_, ?_⟩ <;> first | trivial | (have := HZ.out; omega)), itV, if_pos HX.out] <;> rfl, (t.setCell (Nat.le_refl _) _).setCell (Nat.le_refl _) _⟩
    · have hcx' : (bnm.toList == [120, 45, 103, 122, 105, 112]) = false := by rw [hcx]; simpa using hxg
      have HX := hide hxg
      clear hcx hxg
      rcases bs with _ | _
      · go_enter Tryz.func307, Tryz.ntmps307
        go_wp2_with fail
        refine (hc _).mono ?_
        rintro e w1 ⟨rfl, T⟩
        go_wp2_with fail
        refine (q1 w1).mono ?_
        rintro e w2 ⟨rfl, k⟩
        replace T := T.trans (k.mono T.size)
        clear k
        go_wp2_with fail
        refine (q2 w2).mono ?_
        rintro e w3 ⟨rfl, k⟩
        replace T := T.trans (k.mono T.size)
        clear k
        go_wp2_with fail
        refine (q3 w3).mono ?_
        rintro e w4 ⟨rfl, rfl⟩
        have k0 : w3.cell? ⟨w.heap.size, 0, none⟩ = some (.string ⟨#[]⟩) := new_kept (i := 0) T (by simp) rfl
        have k1 : w3.cell? ⟨w.heap.size, 1, none⟩ = some (.int .i64 0) := new_kept (i := 1) T (by simp) rfl
        have f0 := new_free (i := 0) T (by simp)
        have f1 := new_free (i := 1) T (by simp)
        have t := ((Below.refl _ w).alloc (Nat.le_refl _) _).trans (T.mono (by simp))
        clear T
        go_wp2
        refine bodyPost_ret (v := .tuple #[.agg #[.string bnm, .int .i64 1000], .bool true]) (results_it Tryz.results307 _ w3 _ _ _ _ _ _ k0 k1 rfl rfl) rfl ?_
        exact ⟨by rw [HR.out, if_pos (by trivial), if_neg (by simp), itV, if_neg HX.out, ← HN.out] <;> rfl, (t.setCell (Nat.le_refl _) _).setCell (Nat.le_refl _) _⟩
      · by_cases h2 : btt.size < 2
        · go_enter Tryz.func307, Tryz.ntmps307
          go_wp2_with fail
          refine (hc _).mono ?_
          rintro e w1 ⟨rfl, T⟩
          go_wp2_with fail
          refine (q1 w1).mono ?_
          rintro e w2 ⟨rfl, k⟩
          replace T := T.trans (k.mono T.size)
          clear k
          go_wp2_with fail
          refine (q2 w2).mono ?_
          rintro e w3 ⟨rfl, k⟩
          replace T := T.trans (k.mono T.size)
          clear k
          go_wp2_with fail
          refine (q3 w3).mono ?_
          rintro e w4 ⟨rfl, rfl⟩
          go_wp2_with fail
          refine (q4 w3).mono ?_
          rintro e w5 ⟨rfl, k⟩
          replace T := T.trans (k.mono T.size)
          clear k
          have k0 : w5.cell? ⟨w.heap.size, 0, none⟩ = some (.string ⟨#[]⟩) := new_kept (i := 0) T (by simp) rfl
          have k1 : w5.cell? ⟨w.heap.size, 1, none⟩ = some (.int .i64 0) := new_kept (i := 1) T (by simp) rfl
          have f0 := new_free (i := 0) T (by simp)
          have f1 := new_free (i := 1) T (by simp)
          have t := ((Below.refl _ w).alloc (Nat.le_refl _) _).trans (T.mono (by simp))
          clear T
          go_wp2
          refine bodyPost_ret (v := .tuple #[.agg #[.string ⟨#[]⟩, .int .i64 0], .bool false]) (results_it Tryz.results307 _ w5 _ _ _ _ _ _ k0 k1 rfl rfl) rfl ?_
          exact ⟨by rw [HR.out, if_pos (by trivial), if_pos (by trivial), if_neg (fun h => by have := HZ.out; omega)] <;> rfl, (t.setCell (Nat.le_refl _) _).setCell (Nat.le_refl _) _⟩
        · have h2' : 2 ≤ btt.size := by omega
          rcases sm with _ | _
          · go_enter Tryz.func307, Tryz.ntmps307
            go_wp2_with fail
            refine (hc _).mono ?_
            rintro e w1 ⟨rfl, T⟩
            go_wp2_with fail
            refine (q1 w1).mono ?_
            rintro e w2 ⟨rfl, k⟩
            replace T := T.trans (k.mono T.size)
            clear k
            go_wp2_with fail
            refine (q2 w2).mono ?_
            rintro e w3 ⟨rfl, k⟩
            replace T := T.trans (k.mono T.size)
            clear k
            go_wp2_with fail
            refine (q3 w3).mono ?_
            rintro e w4 ⟨rfl, rfl⟩
            go_wp2_with fail
            refine (q4 w3).mono ?_
            rintro e w5 ⟨rfl, k⟩
            replace T := T.trans (k.mono T.size)
            clear k
            go_wp2_with fail
            refine (q5 w5).mono ?_
            rintro e w6 ⟨rfl, k⟩
            replace T := T.trans (k.mono T.size)
            clear k
            have k0 : w6.cell? ⟨w.heap.size, 0, none⟩ = some (.string ⟨#[]⟩) := new_kept (i := 0) T (by simp) rfl
            have k1 : w6.cell? ⟨w.heap.size, 1, none⟩ = some (.int .i64 0) := new_kept (i := 1) T (by simp) rfl
            have f0 := new_free (i := 0) T (by simp)
            have f1 := new_free (i := 1) T (by simp)
            have t := ((Below.refl _ w).alloc (Nat.le_refl _) _).trans (T.mono (by simp))
            clear T
            go_wp2
            refine bodyPost_ret (v := .tuple #[.agg #[.string ⟨#[]⟩, .int .i64 0], .bool false]) (results_it Tryz.results307 _ w6 _ _ _ _ _ _ k0 k1 rfl rfl) rfl ?_
            exact ⟨by rw [HR.out, if_pos (by trivial), if_pos (by trivial), if_neg (fun h => by simp at h)] <;> rfl, (t.setCell (Nat.le_refl _) _).setCell (Nat.le_refl _) _⟩
          · rcases wb with _ | _
            · go_enter Tryz.func307, Tryz.ntmps307
              go_wp2_with fail
              refine (hc _).mono ?_
              rintro e w1 ⟨rfl, T⟩
              go_wp2_with fail
              refine (q1 w1).mono ?_
              rintro e w2 ⟨rfl, k⟩
              replace T := T.trans (k.mono T.size)
              clear k
              go_wp2_with fail
              refine (q2 w2).mono ?_
              rintro e w3 ⟨rfl, k⟩
              replace T := T.trans (k.mono T.size)
              clear k
              go_wp2_with fail
              refine (q3 w3).mono ?_
              rintro e w4 ⟨rfl, rfl⟩
              go_wp2_with fail
              refine (q4 w3).mono ?_
              rintro e w5 ⟨rfl, k⟩
              replace T := T.trans (k.mono T.size)
              clear k
              go_wp2_with fail
              refine (q5 w5).mono ?_
              rintro e w6 ⟨rfl, k⟩
              replace T := T.trans (k.mono T.size)
              clear k
              go_wp2_with fail
              refine (q6 w6).mono ?_
              rintro e w7 ⟨rfl, k⟩
              replace T := T.trans (k.mono T.size)
              clear k
              have k0 : w7.cell? ⟨w.heap.size, 0, none⟩ = some (.string ⟨#[]⟩) := new_kept (i := 0) T (by simp) rfl
              have k1 : w7.cell? ⟨w.heap.size, 1, none⟩ = some (.int .i64 0) := new_kept (i := 1) T (by simp) rfl
              have f0 := new_free (i := 0) T (by simp)
              have f1 := new_free (i := 1) T (by simp)
              have t := ((Below.refl _ w).alloc (Nat.le_refl _) _).trans (T.mono (by simp))
              clear T
              go_wp2
              refine bodyPost_ret (v := .tuple #[.agg #[.string ⟨#[]⟩, .int .i64 0], .bool false]) (results_it Tryz.results307 _ w7 _ _ _ _ _ _ k0 k1 rfl rfl) rfl ?_
              exact ⟨by rw [HR.out, if_pos (by trivial), if_pos (by trivial), if_neg (fun h => by simp at h)] <;> rfl, (t.setCell (Nat.le_refl _) _).setCell (Nat.le_refl _) _⟩
            · go_enter Tryz.func307, Tryz.ntmps307
              go_wp2_with fail
              refine (hc _).mono ?_
              rintro e w1 ⟨rfl, T⟩
              go_wp2_with fail
              refine (q1 w1).mono ?_
              rintro e w2 ⟨rfl, k⟩
              replace T := T.trans (k.mono T.size)
              clear k
              go_wp2_with fail
              refine (q2 w2).mono ?_
              rintro e w3 ⟨rfl, k⟩
              replace T := T.trans (k.mono T.size)
              clear k
              go_wp2_with fail
              refine (q3 w3).mono ?_
              rintro e w4 ⟨rfl, rfl⟩
              go_wp2_with fail
              refine (q4 w3).mono ?_
              rintro e w5 ⟨rfl, k⟩
              replace T := T.trans (k.mono T.size)
              clear k
              go_wp2_with fail
              refine (q5 w5).mono ?_
              rintro e w6 ⟨rfl, k⟩
              replace T := T.trans (k.mono T.size)
              clear k
              go_wp2_with fail
              refine (q6 w6).mono ?_
              rintro e w7 ⟨rfl, k⟩
              replace T := T.trans (k.mono T.size)
              clear k
              have k0 : w7.cell? ⟨w.heap.size, 0, none⟩ = some (.string ⟨#[]⟩) := new_kept (i := 0) T (by simp) rfl
              have k1 : w7.cell? ⟨w.heap.size, 1, none⟩ = some (.int .i64 0) := new_kept (i := 1) T (by simp) rfl
              have f0 := new_free (i := 0) T (by simp)
              have f1 := new_free (i := 1) T (by simp)
              have t := ((Below.refl _ w).alloc (Nat.le_refl _) _).trans (T.mono (by simp))
              clear T
              go_wp2
              refine bodyPost_ret (v := .tuple #[.agg #[.string bnm, .int .i64 wv], .bool true]) (results_it Tryz.results307 _ w7 _ _ _ _ _ _ k0 k1 rfl rfl) rfl ?_
              exact ⟨by rw [HR.out, if_pos (by trivial), if_pos (by trivial), if_pos (by refine ⟨?_, ?_, ?_⟩ <;> first | trivial | (have := HZ.out; omega)), itV, if_neg HX.out, ← HN.out] <;> rfl, (t.setCell (Nat.le_refl _) _).setCell (Nat.le_refl _) _⟩
end Go.Proofs.YtijlaclngibekaaGreatDoor
/- accept.Parse: the members of values; items as cells. -/
namespace Go.Proofs.YtijlaclngibekaaGreatDoor
open Go.RowKit

def icells : List (List UInt8 × Nat) → List Value
  | [] => []
  | f :: l => .string ⟨f.1.toArray⟩ :: .int .i64 f.2 :: icells l
theorem icells_length : ∀ l, (icells l).length = l.length * 2
  | [] => rfl
  | f :: l => by simp [icells, icells_length l]; omega
theorem icells_append : ∀ a b, icells a ++ icells b = icells (a ++ b)
  | [], b => rfl
  | f :: a, b => by simp [icells, icells_append a b]
theorem icells_get : ∀ (l : List (List UInt8 × Nat)) (k : Nat) (h : k < l.length), (icells l)[k * 2]? = some (.string ⟨l[k].1.toArray⟩) ∧ (icells l)[k * 2 + 1]? = some (.int .i64 l[k].2)
  | f :: l, 0, _ => ⟨rfl, rfl⟩
  | f :: l, k + 1, h => by
    have := icells_get l k (by simpa using h)
    simp only [icells, show (k + 1) * 2 = k * 2 + 1 + 1 by omega, List.getElem?_cons_succ, List.getElem_cons_succ]
    exact this
theorem own_snoc_it {w : World} {base n : Nat} {v : Value} {ls : List (List UInt8 × Nat)} {s : ByteArray} {q : Nat} {f : List UInt8 × Nat} (h : Ow w base 2 v (n + 1) (icells ls ++ (#[Value.string s, .int .i64 q]).toList)) (h1 : s.data.toList = f.1) (h2 : q = f.2) :
    Ow w base 2 v (n + 1) (icells (ls ++ [f])) := by
  rw [← icells_append]
  have e1 : s = ⟨f.1.toArray⟩ := bytes_ext (by simp [h1])
  subst e1 h2
  exact h
theorem Rd.item {w : World} {B n : Nat} {A : Option Addr} {l : List (List UInt8 × Nat)} (h : Rd w B 2 A n (icells l)) {k : Nat} (hk : k < n) (hl : k < l.length) :
    ∃ b off, A = some ⟨b, off, none⟩ ∧ b < B ∧ w.cell? ⟨b, off + k * 2, none⟩ = some (.string ⟨l[k].1.toArray⟩) ∧ w.cell? ⟨b, off + k * 2 + 1, none⟩ = some (.int .i64 l[k].2) := by
  obtain ⟨a, rfl, hb, hc⟩ := h.at_ hk
  obtain ⟨b, off, spot⟩ := a
  have h0 := hc (k * 2) _ (icells_get l k hl).1
  have h1 := hc (k * 2 + 1) _ (icells_get l k hl).2
  have hs : spot = none := by
    have h00 := hc 0 _ (by have := (icells_get l 0 (by omega)).1; simpa using this)
    simpa [Addr.add] using World.cell?_spot h00
  subst hs
  rw [Addr.add_lit] at h0 h1
  exact ⟨b, off, rfl, hb, h0, h1⟩
theorem Rd.ilen {w : World} {B n : Nat} {A : Option Addr} {l : List (List UInt8 × Nat)} (h : Rd w B 2 A n (icells l)) : l.length = n := by have := h.1; rw [icells_length] at this; omega

/-- The members among texts. -/
def memL (l : List (List UInt8)) : List (List UInt8 × Nat) := l.flatMap fun s => if (memberL s).2 = true then [(memberL s).1] else []
def membersL (vs : List (List UInt8)) : List (List UInt8 × Nat) := memL (allV vs)
theorem memL_append (a b : List (List UInt8)) : memL (a ++ b) = memL a ++ memL b := by unfold memL; rw [List.flatMap_append]
theorem memL_snoc (l : List (List UInt8)) (j : Nat) (h : j < l.length) : memL (l.take (j + 1)) = memL (l.take j) ++ if (memberL l[j]).2 = true then [(memberL l[j]).1] else [] := by
  rw [list_take_snoc l j h, memL_append]; congr 1; simp [memL]
theorem memL_len (l : List (List UInt8)) : (memL l).length ≤ l.length := by
  induction l with
  | nil => simp [memL]
  | cons a l ih =>
    have e : memL (a :: l) = (if (memberL a).2 = true then [(memberL a).1] else []) ++ memL l := rfl
    rw [e, List.length_append, List.length_cons]
    split <;> simp <;> omega
theorem infoItem : (Tryz.prog.info? 324).map (fun i => (i.zero, i.size, i.bytes)) = some (some (.agg #[.string ByteArray.empty, .int .i64 0]), 2, 24) := by kernel_rfl

theorem apart_of {w w' : World} {base e n m size size' : Nat} {A : Option Addr} {c : Nat} {v : Value} {xs ys : List Value} (h : w'.ownsRow w.heap.size e size (.slice A n c) n xs) (ho : Ow w base size' v m ys) : Apart A v := by
  intro a ha e
  obtain ⟨A', c', he, _, _, hb⟩ := own_shape h
  cases he
  have h1 := hb a ha
  have h2 := (ho.lt _ e).2
  omega
set_option maxRecDepth 100000 in
set_option maxHeartbeats 6400000 in
theorem parsem_any (A : Option Addr) (n c B : Nat) (vs : List (List UInt8)) (w : World) (h : Rd w B 1 A n (scells vs)) (hB : B ≤ w.heap.size) (hn : n ≤ 1000) (hok : ∀ v ∈ vs, v.length ≤ 1000000) :
    Calls Tryz.prog 295 #[.slice A n c] w fun e w' => ∃ A' c', e = .returned (.slice A' (membersL vs).length c') ∧
      Ow w' w.heap.size 2 (.slice A' (membersL vs).length c') (membersL vs).length (icells (membersL vs)) ∧ (membersL vs).length ≤ c' ∧ Below w.heap.size w w' := by
  obtain ⟨i0, hi0, hz0, hz1, hz2⟩ := info_parts infoItem
  have hlen : vs.length = n := by have := h.1; simpa [scells] using this
  have HLEN := hide hlen
  have HM := hide hok
  clear hlen hok
  go_enter Tryz.func295, Tryz.ntmps295
  go_wp2_with fail
  go_loopw [3, 12] (fun o i wr => ∃ k : Nat, k ≤ n ∧ i = .int .i64 k ∧ Ow wr w.heap.size 2 o (membersL (vs.take k)).length (icells (membersL (vs.take k))) ∧ Below w.heap.size w wr) (fun _ i _ => n - (intOf i).toNat)
  case atStart => exact ⟨0, Nat.zero_le _, rfl, Ow.nil_, Below.refl _ _⟩
  case round =>
    obtain ⟨k, hk, rfl, ho, hb⟩ := hrel
    by_cases hlt : k < n
    · have hkl : k < vs.length := by have := HLEN.out; omega
      obtain ⟨a, rfl, -, hcell⟩ := (h.below (hb.mono hB)).text hlt hkl
      have hsn := allV_snoc vs k hkl
      have hal := allV_len (vs.take k) fun v hv => HM.out v (List.mem_of_mem_take hv)
      rw [List.length_take, Nat.min_eq_left (by omega)] at hal
      have hml := memL_len (allV (vs.take k))
      have hxs := HM.out vs[k] (List.getElem_mem hkl)
      have hbz := hb.size
      obtain ⟨x, hx⟩ : ∃ x, x = vs[k] := ⟨_, rfl⟩
      rw [← hx] at hcell hsn hxs
      have hs := fun w => split_any ⟨x.toArray⟩ w (by rw [mk_size]; omega)
      rw [mk_list] at hs
      have hsl := split_length x
      have hsm := fun y hy => FieldSplitsP.split_mem _ _ (Nat.le_refl _) y (hy : y ∈ splitL x)
      obtain ⟨ys, hys⟩ : ∃ ys, ys = splitL x := ⟨_, rfl⟩
      rw [← hys] at hs hsn hsl hsm
      have hsn2 : membersL (vs.take (k + 1)) = membersL (vs.take k) ++ memL ys := by unfold membersL; rw [hsn, memL_append]
      have hgk2 : (membersL (vs.take k)).length ≤ 2000000000 := by unfold membersL; omega
      obtain ⟨gk, hgk⟩ : ∃ gk, gk = membersL (vs.take k) := ⟨_, rfl⟩
      rw [← hgk] at hsn2 hgk2 ho
      obtain ⟨sx, hsx⟩ : ∃ sx : ByteArray, sx = ⟨x.toArray⟩ := ⟨_, rfl⟩
      rw [← hsx] at hcell hs
      have HS := hide hsn2
      have HSM := hide hsm
      clear hsn hsn2 hal hml hx hys hgk hsx hsm
      go_wp2_with fail
      refine (hs _).mono ?_
      rintro e w2 ⟨A2, c2, rfl, o2, hc2, b2⟩
      have r2 := Rd.of_own o2
      have hap := apart_of o2 ho
      have ho2 := ho.below b2
      have hb2 := hb.trans (b2.mono hbz)
      clear o2 hs ho
      obtain ⟨m, hm⟩ : ∃ m, ys.length = m := ⟨_, rfl⟩
      rw [hm] at r2 hc2 hsl ⊢
      have HM2 := hide hm
      clear hm
      go_wp2_with fail
      go_loopw [3, 19] (fun o i wr2 => ∃ j : Nat, j ≤ m ∧ i = .int .i64 j ∧ Ow wr2 w.heap.size 2 o (gk ++ memL (ys.take j)).length (icells (gk ++ memL (ys.take j))) ∧ Rd wr2 w2.heap.size 1 A2 m (scells ys) ∧ Apart A2 o ∧ w2.heap.size ≤ wr2.heap.size ∧ Below w.heap.size w wr2) (fun _ i _ => m - (intOf i).toNat)
      case atStart => exact ⟨0, Nat.zero_le _, rfl, by simpa [memL] using ho2, r2, hap, Nat.le_refl _, hb2⟩
      case round =>
        clear ho2 hap r2
        obtain ⟨j, hj, rfl, ho3, r3, ap3, hz3, hb3⟩ := hrel
        by_cases hlj : j < m
        · have hjl : j < ys.length := by have := HM2.out; omega
          obtain ⟨a2, hA2, hab, hc2'⟩ := r3.text hlj hjl
          subst hA2
          have hms := memL_snoc ys j hjl
          have hml := memL_len (ys.take j)
          rw [List.length_take] at hml
          have hyl := HSM.out ys[j] (List.getElem_mem hjl)
          obtain ⟨y, hy⟩ : ∃ y, y = ys[j] := ⟨_, rfl⟩
          rw [← hy] at hc2' hms hyl
          have hmb := member_any ⟨y.toArray⟩ wr (by rw [mk_size]; omega)
          rw [mk_list] at hmb
          obtain ⟨gj, hgj⟩ : ∃ g, g = memL (ys.take j) := ⟨_, rfl⟩
          rw [← hgj] at hms hml ho3
          obtain ⟨sy, hsy⟩ : ∃ sy : ByteArray, sy = ⟨y.toArray⟩ := ⟨_, rfl⟩
          rw [← hsy] at hc2' hmb
          obtain ⟨⟨⟨nm, q⟩, bo⟩, hmm⟩ : ∃ mm, mm = memberL y := ⟨_, rfl⟩
          rw [← hmm] at hmb hms
          simp only [itV] at hmb
          obtain ⟨bn, hbn⟩ : ∃ b : ByteArray, b = ⟨nm.toArray⟩ := ⟨_, rfl⟩
          rw [← hbn] at hmb
          have HBN := hide (show bn.data.toList = nm by rw [hbn])
          have HMS := hide hms
          have hgl : (gk ++ gj).length ≤ 3000000000 := by rw [List.length_append]; have := Nat.min_le_left j ys.length; have := HM2.out; omega
          have hb3z := hb3.size
          obtain ⟨ng, hng⟩ : ∃ n, (gk ++ gj).length = n := ⟨_, rfl⟩
          rw [hng] at hgl ho3
          have HNG := hide hng
          clear hms hml hy hgj hsy hmm hbn hyl hng
          go_wp2_with fail
          refine hmb.mono ?_
          rintro e w5 ⟨rfl, b5⟩
          go_upto_region 9 with (fail)
          have b6 : Below wr.heap.size wr (w5.alloc (.cells #[.string bn, .int .i64 q] 324)) := b5.alloc b5.size _
          have d60 : (w5.alloc (.cells #[.string bn, .int .i64 q] 324)).cell? ⟨w5.heap.size, 0, none⟩ = some (.string bn) := new_kept (n := w5.heap.size + 1) (i := 0) (Below.refl _ _) rfl rfl
          have d61 : (w5.alloc (.cells #[.string bn, .int .i64 q] 324)).cell? ⟨w5.heap.size, 1, none⟩ = some (.int .i64 q) := new_kept (n := w5.heap.size + 1) (i := 1) (Below.refl _ _) rfl rfl
          obtain ⟨g5, hg5⟩ : ∃ g, g = w5.heap.size := ⟨_, rfl⟩
          rw [← hg5] at d60 d61
          simp only [← hg5]
          generalize w5.alloc (.cells #[.string bn, .int .i64 q] 324) = w6 at b6 d60 d61 ⊢
          clear hg5 b5 hmb hc2'
          have ho6 := ho3.below b6
          have r6 := r3.below (b6.mono hz3)
          have t6 := hb3.trans (b6.mono hb3z)
          have t6z := t6.size
          have z6 := Nat.le_trans hz3 b6.size
          clear ho3 b6 r3
          rcases bo with _ | _
          · go_wp2
            go_roundw
            case rel => exact ⟨j + 1, by omega, by go_num, by rw [HMS.out, if_neg (by simp), List.append_nil, HNG.out]; exact ho6, r6, ap3, z6, t6⟩
            case measure => simp [intOf]; omega
          · go_wp2_with (at_builtin; refine wpl_push_ow rfl _ _ _ rfl w.heap.size i0 _ 2 24 Tryz.underlying320 hi0 hz0 hz1 hz2 rfl (by omega) _ _ _ rfl _ rfl ho6 rfl (by simp [Value.oneCell']) (by unfold maxLen; omega) (by omega) t6z ?_; intro v1 w7 hown1 hbel1 hg1 hv1)
            have r7 := r6.grown hg1 z6 ap3
            have ap7 := ap3.step r6 (by omega) z6 hv1
            have z7 := Nat.le_trans z6 hg1.size
            clear r6 ap3 hg1 hv1
            go_roundw
            case rel =>
              refine ⟨j + 1, by omega, by go_num, ?_, r7, ap7, z7, t6.trans hbel1⟩
              rw [HMS.out, if_pos rfl, ← List.append_assoc, List.length_append, HNG.out]
              exact own_snoc_it hown1 HBN.out rfl
            case measure => simp [intOf]; omega
        · rw [List.take_of_length_le (by have := HM2.out; omega)] at ho3
          go_wp2
          go_roundw
          case rel => exact ⟨k + 1, by omega, by go_num, by rw [HS.out]; exact ho3, hb3⟩
          case measure => simp [intOf]; omega
    · rw [List.take_of_length_le (by have := HLEN.out; omega)] at ho
      go_wp2
      go_ret
      obtain ⟨A', c', rfl, hc', -⟩ := ho.shape
      exact ⟨A', c', rfl, ho, hc', hb⟩
end Go.Proofs.YtijlaclngibekaaGreatDoor
/- edit.hops, stays, without and with. -/
namespace Go.Proofs.YtijlaclngibekaaGreatDoor
open Go.RowKit

theorem hops_any (w : World) : Calls Tryz.prog 189 #[] w fun e w' => ∃ A' c', e = .returned (.slice A' 7 c') ∧ Ow w' w.heap.size 1 (.slice A' 7 c') 7 (scells hopC) ∧ 7 ≤ c' ∧ Below w.heap.size w w' := by
  have ho := own_new w #[.string ⟨#[67, 111, 110, 110, 101, 99, 116, 105, 111, 110]⟩, .string ⟨#[75, 101, 101, 112, 45, 65, 108, 105, 118, 101]⟩, .string ⟨#[80, 114, 111, 120, 121, 45, 67, 111, 110, 110, 101, 99, 116, 105, 111, 110]⟩, .string ⟨#[84, 69]⟩, .string ⟨#[84, 114, 97, 105, 108, 101, 114]⟩, .string ⟨#[84, 114, 97, 110, 115, 102, 101, 114, 45, 69, 110, 99, 111, 100, 105, 110, 103]⟩, .string ⟨#[85, 112, 103, 114, 97, 100, 101]⟩] 9 1 7 rfl (by unfold maxLen; omega) w.heap.size (Nat.le_refl _)
  go_enter Tryz.func189, Tryz.ntmps189
  go_wp2
  go_ret
  exact ⟨_, _, rfl, Ow.of_row ho, Nat.le_refl _, (Below.refl _ _).alloc (Nat.le_refl _) _⟩

def stayC : List (List UInt8) := [[67, 111, 110, 116, 101, 110, 116, 45, 76, 101, 110, 103, 116, 104], [67, 111, 110, 116, 101, 110, 116, 45, 69, 110, 99, 111, 100, 105, 110, 103], [72, 111, 115, 116], [86, 97, 114, 121], [69, 84, 97, 103]]
theorem stays_C (n : List UInt8) : staysB n = stayC.any fun s => sameL s n := by
  have h : stayL = stayC.map lowL := by decide
  unfold staysB
  rw [h, List.any_map]
  refine congrArg (fun f => stayC.any f) (funext fun s => ?_)
  show sameL (lowL s) n = sameL s n
  unfold sameL; rw [lowL_idem]
theorem pick5_0 (a b c d e : ByteArray) (w : World) : (Instr.index 250 (.agg #[.string a, .string b, .string c, .string d, .string e]) (.int .i64 0)).run Tryz.prog w = .ok (.string a) w := by kernel_rfl
theorem pick5_1 (a b c d e : ByteArray) (w : World) : (Instr.index 250 (.agg #[.string a, .string b, .string c, .string d, .string e]) (.int .i64 1)).run Tryz.prog w = .ok (.string b) w := by kernel_rfl
theorem pick5_2 (a b c d e : ByteArray) (w : World) : (Instr.index 250 (.agg #[.string a, .string b, .string c, .string d, .string e]) (.int .i64 2)).run Tryz.prog w = .ok (.string c) w := by kernel_rfl
theorem pick5_3 (a b c d e : ByteArray) (w : World) : (Instr.index 250 (.agg #[.string a, .string b, .string c, .string d, .string e]) (.int .i64 3)).run Tryz.prog w = .ok (.string d) w := by kernel_rfl
theorem pick5_4 (a b c d e : ByteArray) (w : World) : (Instr.index 250 (.agg #[.string a, .string b, .string c, .string d, .string e]) (.int .i64 4)).run Tryz.prog w = .ok (.string e) w := by kernel_rfl
def stayB : Nat → ByteArray
  | 0 => ⟨#[67, 111, 110, 116, 101, 110, 116, 45, 76, 101, 110, 103, 116, 104]⟩
  | 1 => ⟨#[67, 111, 110, 116, 101, 110, 116, 45, 69, 110, 99, 111, 100, 105, 110, 103]⟩
  | 2 => ⟨#[72, 111, 115, 116]⟩
  | 3 => ⟨#[86, 97, 114, 121]⟩
  | _ => ⟨#[69, 84, 97, 103]⟩
set_option maxRecDepth 100000 in
set_option maxHeartbeats 3200000 in
theorem stays_any (name : ByteArray) (w : World) (hn : name.size ≤ 1000000) :
    Calls Tryz.prog 190 #[.string name] w fun e w' => e = .returned (.bool (staysB name.data.toList)) ∧ Below w.heap.size w w' := by
  have hp0 := pick5_0 (stayB 0) (stayB 1) (stayB 2) (stayB 3) (stayB 4)
  have hp1 := pick5_1 (stayB 0) (stayB 1) (stayB 2) (stayB 3) (stayB 4)
  have hp2 := pick5_2 (stayB 0) (stayB 1) (stayB 2) (stayB 3) (stayB 4)
  have hp3 := pick5_3 (stayB 0) (stayB 1) (stayB 2) (stayB 3) (stayB 4)
  have hp4 := pick5_4 (stayB 0) (stayB 1) (stayB 2) (stayB 3) (stayB 4)
  simp only [stayB] at hp0 hp1 hp2 hp3 hp4
  have hs0 := fun w => fieldsame_any (stayB 0) name w (by decide) (by omega)
  have hs1 := fun w => fieldsame_any (stayB 1) name w (by decide) (by omega)
  have hs2 := fun w => fieldsame_any (stayB 2) name w (by decide) (by omega)
  have hs3 := fun w => fieldsame_any (stayB 3) name w (by decide) (by omega)
  have hs4 := fun w => fieldsame_any (stayB 4) name w (by decide) (by omega)
  obtain ⟨r, hr⟩ : ∃ r, r = staysB name.data.toList := ⟨_, rfl⟩
  have hr2 : r = (sameL (stayB 0).data.toList name.data.toList || (sameL (stayB 1).data.toList name.data.toList || (sameL (stayB 2).data.toList name.data.toList || (sameL (stayB 3).data.toList name.data.toList || (sameL (stayB 4).data.toList name.data.toList || false))))) := by rw [hr, stays_C]; rfl
  rw [← hr]
  obtain ⟨x0, h0⟩ : ∃ x, x = sameL (stayB 0).data.toList name.data.toList := ⟨_, rfl⟩
  obtain ⟨x1, h1⟩ : ∃ x, x = sameL (stayB 1).data.toList name.data.toList := ⟨_, rfl⟩
  obtain ⟨x2, h2⟩ : ∃ x, x = sameL (stayB 2).data.toList name.data.toList := ⟨_, rfl⟩
  obtain ⟨x3, h3⟩ : ∃ x, x = sameL (stayB 3).data.toList name.data.toList := ⟨_, rfl⟩
  obtain ⟨x4, h4⟩ : ∃ x, x = sameL (stayB 4).data.toList name.data.toList := ⟨_, rfl⟩
  rw [← h0, ← h1, ← h2, ← h3, ← h4] at hr2
  simp only [← h0, ← h1, ← h2, ← h3, ← h4] at hs0 hs1 hs2 hs3 hs4
  simp only [stayB] at hs0 hs1 hs2 hs3 hs4
  have HR := hide hr2
  clear hr hr2 h0 h1 h2 h3 h4
  go_enter Tryz.func190, Tryz.ntmps190
  go_wp2_with fail
  go_loopw [6] (fun i wr => ∃ t : Nat, t ≤ 5 ∧ i = .int .i64 t ∧ Hid ((1 ≤ t → x0 = false) ∧ (2 ≤ t → x1 = false) ∧ (3 ≤ t → x2 = false) ∧ (4 ≤ t → x3 = false) ∧ (5 ≤ t → x4 = false)) ∧ Below w.heap.size w wr) (fun i _ => 5 - (intOf i).toNat)
  case atStart => exact ⟨0, by omega, rfl, hide ⟨by omega, by omega, by omega, by omega, by omega⟩, Below.refl _ _⟩
  case round =>
    obtain ⟨t, ht, rfl, HT, hb⟩ := hrel
    have hcase : t = 0 ∨ t = 1 ∨ t = 2 ∨ t = 3 ∨ t = 4 ∨ t = 5 := by omega
    rcases hcase with rfl | rfl | rfl | rfl | rfl | rfl
    · go_wp2_with fail
      refine (hs0 wr).mono ?_
      rintro e w2 ⟨rfl, b2⟩
      have t2 := hb.trans (b2.mono hb.size)
      rcases hx : x0 with _ | _
      · have HX := hide hx
        clear hx
        go_wp2
        go_roundw
        case rel => exact ⟨1, by omega, rfl, hide ⟨fun _ => HX.out, fun h => by omega, fun h => by omega, fun h => by omega, fun h => by omega⟩, t2⟩
        case measure => simp [intOf]
      · have HX := hide hx
        clear hx
        go_wp2
        go_ret
        exact ⟨by rw [HR.out, HX.out]; rfl, t2⟩
    · go_wp2_with fail
      refine (hs1 wr).mono ?_
      rintro e w2 ⟨rfl, b2⟩
      have t2 := hb.trans (b2.mono hb.size)
      rcases hx : x1 with _ | _
      · have HX := hide hx
        clear hx
        go_wp2
        go_roundw
        case rel => exact ⟨2, by omega, rfl, hide ⟨fun _ => HT.out.1 (by omega), fun _ => HX.out, fun h => by omega, fun h => by omega, fun h => by omega⟩, t2⟩
        case measure => simp [intOf]
      · have HX := hide hx
        clear hx
        go_wp2
        go_ret
        exact ⟨by rw [HR.out, HT.out.1 (by omega), HX.out]; rfl, t2⟩
    · go_wp2_with fail
      refine (hs2 wr).mono ?_
      rintro e w2 ⟨rfl, b2⟩
      have t2 := hb.trans (b2.mono hb.size)
      rcases hx : x2 with _ | _
      · have HX := hide hx
        clear hx
        go_wp2
        go_roundw
        case rel => exact ⟨3, by omega, rfl, hide ⟨fun _ => HT.out.1 (by omega), fun _ => HT.out.2.1 (by omega), fun _ => HX.out, fun h => by omega, fun h => by omega⟩, t2⟩
        case measure => simp [intOf]
      · have HX := hide hx
        clear hx
        go_wp2
        go_ret
        exact ⟨by rw [HR.out, HT.out.1 (by omega), HT.out.2.1 (by omega), HX.out]; rfl, t2⟩
    · go_wp2_with fail
      refine (hs3 wr).mono ?_
      rintro e w2 ⟨rfl, b2⟩
      have t2 := hb.trans (b2.mono hb.size)
      rcases hx : x3 with _ | _
      · have HX := hide hx
        clear hx
        go_wp2
        go_roundw
        case rel => exact ⟨4, by omega, rfl, hide ⟨fun _ => HT.out.1 (by omega), fun _ => HT.out.2.1 (by omega), fun _ => HT.out.2.2.1 (by omega), fun _ => HX.out, fun h => by omega⟩, t2⟩
        case measure => simp [intOf]
      · have HX := hide hx
        clear hx
        go_wp2
        go_ret
        exact ⟨by rw [HR.out, HT.out.1 (by omega), HT.out.2.1 (by omega), HT.out.2.2.1 (by omega), HX.out]; rfl, t2⟩
    · go_wp2_with fail
      refine (hs4 wr).mono ?_
      rintro e w2 ⟨rfl, b2⟩
      have t2 := hb.trans (b2.mono hb.size)
      rcases hx : x4 with _ | _
      · have HX := hide hx
        clear hx
        go_wp2
        go_roundw
        case rel => exact ⟨5, by omega, rfl, hide ⟨fun _ => HT.out.1 (by omega), fun _ => HT.out.2.1 (by omega), fun _ => HT.out.2.2.1 (by omega), fun _ => HT.out.2.2.2.1 (by omega), fun _ => HX.out⟩, t2⟩
        case measure => simp [intOf]
      · have HX := hide hx
        clear hx
        go_wp2
        go_ret
        exact ⟨by rw [HR.out, HT.out.1 (by omega), HT.out.2.1 (by omega), HT.out.2.2.1 (by omega), HT.out.2.2.2.1 (by omega), HX.out]; rfl, t2⟩
    · go_wp2
      go_ret
      exact ⟨by rw [HR.out, HT.out.1 (by omega), HT.out.2.1 (by omega), HT.out.2.2.1 (by omega), HT.out.2.2.2.1 (by omega), HT.out.2.2.2.2 (by omega)] <;> rfl, hb⟩
end Go.Proofs.YtijlaclngibekaaGreatDoor

/- edit.without and the reference's: fields without those of one link. -/
namespace Go.Proofs.YtijlaclngibekaaGreatDoor
open Go.RowKit

theorem goes_snoc (ys : List (List UInt8)) (j : Nat) (h : j < ys.length) : (ys.take (j + 1)).filter goesB = (ys.take j).filter goesB ++ if staysB ys[j] = true then [] else [ys[j]] := by
  rw [list_take_snoc ys j h, List.filter_append]
  congr 1
  by_cases hs : staysB ys[j] = true
  · rw [if_pos hs, List.filter_cons_of_neg (by simp [goesB, hs])]; rfl
  · rw [if_neg hs, List.filter_cons_of_pos (by simp [goesB, hs])]; rfl
theorem ow_snoc_str {w : World} {base n : Nat} {v : Value} {ls : List (List UInt8)} {s : ByteArray} {x : List UInt8} (h : Ow w base 1 v (n + 1) (scells ls ++ (#[Value.string s]).toList)) (h1 : s.data.toList = x) : Ow w base 1 v (n + 1) (scells (ls ++ [x])) := by
  have e1 : s = ⟨x.toArray⟩ := bytes_ext (by simp [h1])
  subst e1
  rw [← scells_append]; exact h
theorem stays_or (n : List UInt8) : staysB n = (decide (lowL n = nameCL) || (decide (lowL n = codeL) || (decide (lowL n = hostL) || (decide (lowL n = varyL) || decide (lowL n = etagL))))) := by
  rw [stays_low, Bool.eq_iff_iff]
  simp [stayL]
theorem hopC_mem : ∀ x ∈ hopC, x.length ≤ 1000000 := by decide

set_option maxRecDepth 100000 in
set_option maxHeartbeats 16000000 in
theorem without_any (A : Option Addr) (n c B : Nat) (fs : List (List UInt8 × List UInt8)) (w : World) (h : Rd w B 2 A n (fcells fs)) (hB : B ≤ w.heap.size) (hn : n ≤ 1000) (hok : fsOk fs) :
    Calls Tryz.prog 147 #[.slice A n c] w fun e w' => ∃ A' c', e = .returned (.slice A' (withoutL fs).length c') ∧
      Ow w' w.heap.size 2 (.slice A' (withoutL fs).length c') (withoutL fs).length (fcells (withoutL fs)) ∧ (withoutL fs).length ≤ c' ∧ Below w.heap.size w w' := by
  obtain ⟨i0, hi0, hz0, hz1, hz2⟩ := info_parts infoStr
  have hflen := h.flen
  have hvl := getL_len fs connL
  have hvm := getL_mem hok connL
  have hnames : hopC ++ (allV (getL fs connL)).filter goesB = hopC ++ namesL fs := rfl
  have g1 := fun (W : World) (b : Below w.heap.size w W) => get_any A n c B fs ⟨#[67, 111, 110, 110, 101, 99, 116, 105, 111, 110]⟩ W (h.below (b.mono hB)) (Nat.le_trans hB b.size) (by omega) hok (by decide)
  have e1 : getL fs (⟨#[67, 111, 110, 110, 101, 99, 116, 105, 111, 110]⟩ : ByteArray).data.toList = getL fs connL := getL_congr (by decide) fs
  rw [e1] at g1
  have hdone := withoutL_C fs
  rw [← hnames] at hdone
  obtain ⟨vs, hvs⟩ : ∃ vs, vs = getL fs connL := ⟨_, rfl⟩
  rw [← hvs] at g1 hvl hvm hdone
  have hmem : ∀ x ∈ hopC ++ (allV vs).filter goesB, x.length ≤ 1000000 := by
    intro x hx
    rcases List.mem_append.1 hx with hx | hx
    · exact hopC_mem x hx
    · exact allV_mem _ hvm x (List.mem_filter.1 hx).1
  obtain ⟨m1, hm1⟩ : ∃ m, vs.length = m := ⟨_, rfl⟩
  rw [hm1] at g1 hvl
  rw [hflen] at hvl
  have HM1 := hide hm1
  have HVM := hide hvm
  have HMEM := hide hmem
  have HDONE := hide hdone
  clear hm1 hvm hmem hvs hnames e1 hdone
  go_enter Tryz.func147, Tryz.ntmps147
  go_wp2_with fail
  refine (hops_any w).mono ?_
  rintro e w1 ⟨A1, c1, rfl, o1, hc1, b1⟩
  go_wp2_with fail
  refine (g1 w1 b1).mono ?_
  rintro e w2 ⟨A2, c2, rfl, o2, hc2, b2⟩
  have r2 := Rd.of_own o2
  have ap2 := apart_of o2 o1
  have o1' := o1.below b2
  have t2 := b1.trans (b2.mono b1.size)
  clear o2 o1 g1 b2 b1
  go_wp2_with fail
  go_loopw [3, 14] (fun o i wr => ∃ k : Nat, k ≤ m1 ∧ i = .int .i64 k ∧ Ow wr w.heap.size 1 o (hopC ++ (allV (vs.take k)).filter goesB).length (scells (hopC ++ (allV (vs.take k)).filter goesB)) ∧ Rd wr w2.heap.size 1 A2 m1 (scells vs) ∧ Apart A2 o ∧ w2.heap.size ≤ wr.heap.size ∧ Below w.heap.size w wr) (fun _ i _ => m1 - (intOf i).toNat)
  case atStart => exact ⟨0, Nat.zero_le _, rfl, by simpa [allV, hopC] using o1', r2, ap2, Nat.le_refl _, t2⟩
  case round =>
    clear r2 ap2 o1' t2
    obtain ⟨k, hk, rfl, ho, r2, ap2, hz2', hb⟩ := hrel
    by_cases hlt : k < m1
    · have hkl : k < vs.length := by have := HM1.out; omega
      obtain ⟨a, hA2, -, hcell⟩ := r2.text hlt hkl
      subst hA2
      have hsn := allV_snoc vs k hkl
      have hal := allV_len (vs.take k) fun v hv => HVM.out v (List.mem_of_mem_take hv)
      rw [List.length_take, Nat.min_eq_left (by omega)] at hal
      have hxs := HVM.out vs[k] (List.getElem_mem hkl)
      have hbz := hb.size
      obtain ⟨x, hx⟩ : ∃ x, x = vs[k] := ⟨_, rfl⟩
      rw [← hx] at hcell hsn hxs
      have hs := fun w => split_any ⟨x.toArray⟩ w (by rw [mk_size]; omega)
      rw [mk_list] at hs
      have hsl := split_length x
      have hsm := fun y hy => FieldSplitsP.split_mem _ _ (Nat.le_refl _) y (hy : y ∈ splitL x)
      obtain ⟨ys, hys⟩ : ∃ ys, ys = splitL x := ⟨_, rfl⟩
      rw [← hys] at hs hsn hsl hsm
      have hsn2 : (allV (vs.take (k + 1))).filter goesB = (allV (vs.take k)).filter goesB ++ ys.filter goesB := by rw [hsn, List.filter_append]
      have hgk2 : (hopC ++ (allV (vs.take k)).filter goesB).length ≤ 1100000000 := by
        have h1 : ((allV (vs.take k)).filter goesB).length ≤ (allV (vs.take k)).length := List.length_filter_le _ _
        have h2 : k * 1000001 ≤ 1000 * 1000001 := Nat.mul_le_mul_right _ (by omega)
        rw [List.length_append]
        have : hopC.length = 7 := rfl
        omega
      have hsn3 : hopC ++ (allV (vs.take (k + 1))).filter goesB = (hopC ++ (allV (vs.take k)).filter goesB) ++ ys.filter goesB := by rw [hsn2, List.append_assoc]
      obtain ⟨gk, hgk⟩ : ∃ gk, gk = hopC ++ (allV (vs.take k)).filter goesB := ⟨_, rfl⟩
      rw [← hgk] at hsn3 hgk2 ho
      obtain ⟨sx, hsx⟩ : ∃ sx : ByteArray, sx = ⟨x.toArray⟩ := ⟨_, rfl⟩
      rw [← hsx] at hcell hs
      have HS := hide hsn3
      have HSM := hide hsm
      clear hsn hsn2 hsn3 hal hx hys hgk hsx hsm
      go_wp2_with fail
      refine (hs _).mono ?_
      rintro e w3 ⟨A3, c3, rfl, o3, hc3, b3⟩
      have r3 := Rd.of_own o3
      have ap3 := apart_of o3 ho
      have ho3 := ho.below b3
      have r2' := r2.below (b3.mono hz2')
      have hb3 := hb.trans (b3.mono hbz)
      have z3 := Nat.le_trans hz2' b3.size
      clear o3 hs ho r2 hcell
      obtain ⟨m, hm⟩ : ∃ m, ys.length = m := ⟨_, rfl⟩
      rw [hm] at r3 hc3 hsl ⊢
      have HM2 := hide hm
      clear hm
      go_wp2_with fail
      go_loopw [3, 21] (fun o i wr2 => ∃ j : Nat, j ≤ m ∧ i = .int .i64 j ∧ Ow wr2 w.heap.size 1 o (gk ++ (ys.take j).filter goesB).length (scells (gk ++ (ys.take j).filter goesB)) ∧ Rd wr2 w3.heap.size 1 A3 m (scells ys) ∧ Apart A3 o ∧ Rd wr2 w2.heap.size 1 (some a) m1 (scells vs) ∧ Apart (some a) o ∧ w3.heap.size ≤ wr2.heap.size ∧ Below w.heap.size w wr2) (fun _ i _ => m - (intOf i).toNat)
      case atStart => exact ⟨0, Nat.zero_le _, rfl, by simpa using ho3, r3, ap3, r2', ap2, Nat.le_refl _, hb3⟩
      case round =>
        clear ho3 r3 ap3 r2' ap2
        obtain ⟨j, hj, rfl, ho4, r3, ap3, r2, ap2, hz3, hb4⟩ := hrel
        by_cases hlj : j < m
        · have hjl : j < ys.length := by have := HM2.out; omega
          obtain ⟨a2, hA3, hab, hc2'⟩ := r3.text hlj hjl
          subst hA3
          have hgs := goes_snoc ys j hjl
          have hgl : (gk ++ (ys.take j).filter goesB).length ≤ 1200000000 := by
            have h1 : ((ys.take j).filter goesB).length ≤ (ys.take j).length := List.length_filter_le _ _
            rw [List.length_take] at h1
            have := HM2.out
            rw [List.length_append]; omega
          have hyl := HSM.out ys[j] (List.getElem_mem hjl)
          obtain ⟨y, hy⟩ : ∃ y, y = ys[j] := ⟨_, rfl⟩
          rw [← hy] at hc2' hgs hyl
          have hst := fun w => stays_any ⟨y.toArray⟩ w (by rw [mk_size]; omega)
          rw [mk_list] at hst
          obtain ⟨gj, hgj⟩ : ∃ g, g = (ys.take j).filter goesB := ⟨_, rfl⟩
          rw [← hgj] at hgs hgl ho4
          obtain ⟨sy, hsy⟩ : ∃ sy : ByteArray, sy = ⟨y.toArray⟩ := ⟨_, rfl⟩
          rw [← hsy] at hc2'
          simp only [← hsy] at hst
          have HSY := hide (show sy.data.toList = y by rw [hsy])
          have HGS := hide hgs
          obtain ⟨ng, hng⟩ : ∃ n, (gk ++ gj).length = n := ⟨_, rfl⟩
          rw [hng] at hgl ho4
          have HNG := hide hng
          have hb4z := hb4.size
          clear hgs hy hgj hsy hyl hng
          rcases hsb : staysB y with _ | _
          · rw [hsb] at hst
            have HSB := hide hsb
            clear hsb
            go_wp2_with fail
            refine (hst _).mono ?_
            rintro e w5 ⟨rfl, b5⟩
            have ho5 := ho4.below b5
            have r35 := r3.below (b5.mono hz3)
            have r25 := r2.below (b5.mono (Nat.le_trans z3 hz3))
            have t5 := hb4.trans (b5.mono hb4z)
            have z5 := Nat.le_trans hz3 b5.size
            have t5z := t5.size
            clear ho4 r3 r2 hst hc2' b5
            go_wp2_with (at_builtin; refine wpl_push_ow rfl _ _ _ rfl w.heap.size i0 _ 1 16 Tryz.underlying23 hi0 hz0 hz1 hz2 rfl (by omega) _ _ _ rfl _ rfl ho5 rfl (by simp [Value.oneCell']) (by unfold maxLen; omega) (by omega) t5z ?_; intro v1 w7 hown1 hbel1 hg1 hv1)
            have r37 := r35.grown hg1 z5 ap3
            have ap37 := ap3.step r35 (by omega) z5 hv1
            have z25 := Nat.le_trans z3 z5
            have r27 := r25.grown hg1 z25 ap2
            have ap27 := ap2.step r25 (by omega) z25 hv1
            have z7 := Nat.le_trans z5 hg1.size
            clear r35 r25 ap3 ap2 hg1 hv1
            go_roundw
            case rel =>
              refine ⟨j + 1, by omega, by go_num, ?_, r37, ap37, r27, ap27, z7, t5.trans hbel1⟩
              rw [HGS.out, HSB.out, if_neg (by simp), ← List.append_assoc, List.length_append, HNG.out]
              exact ow_snoc_str hown1 HSY.out
            case measure => simp [intOf]; omega
          · rw [hsb] at hst
            have HSB := hide hsb
            clear hsb
            go_wp2_with fail
            refine (hst _).mono ?_
            rintro e w5 ⟨rfl, b5⟩
            go_wp2
            go_roundw
            case rel => exact ⟨j + 1, by omega, by go_num, by rw [HGS.out, HSB.out, if_pos rfl, List.append_nil, HNG.out]; exact ho4.below b5, r3.below (b5.mono hz3), ap3, r2.below (b5.mono (Nat.le_trans z3 hz3)), ap2, Nat.le_trans hz3 b5.size, hb4.trans (b5.mono hb4z)⟩
            case measure => simp [intOf]; omega
        · rw [List.take_of_length_le (by have := HM2.out; omega)] at ho4
          go_wp2
          go_roundw
          case rel => exact ⟨k + 1, by omega, by go_num, by rw [HS.out]; exact ho4, r2, ap2, Nat.le_trans z3 hz3, hb4⟩
          case measure => simp [intOf]; omega
    · rw [List.take_of_length_le (by have := HM1.out; omega)] at ho
      have hfb : ((allV vs).filter goesB).length ≤ 1000001000 := by
        have h1 : ((allV vs).filter goesB).length ≤ (allV vs).length := List.length_filter_le _ _
        have h2 := allV_len vs HVM.out
        rw [HM1.out] at h2
        have h3 : m1 * 1000001 ≤ 1000 * 1000001 := Nat.mul_le_mul_right _ (by omega)
        omega
      clear r2 ap2 HM1 HVM
      have hdone := HDONE.out
      have hnl : (hopC ++ (allV vs).filter goesB).length = 7 + ((allV vs).filter goesB).length := by rw [List.length_append]; rfl
      obtain ⟨names, hnames⟩ : ∃ l, l = hopC ++ (allV vs).filter goesB := ⟨_, rfl⟩
      rw [← hnames] at ho hdone HMEM hnl
      obtain ⟨An, cn, rfl, hcn, -⟩ := ho.shape
      have rn := ho.rd
      obtain ⟨N, hN⟩ : ∃ N, names.length = N := ⟨_, rfl⟩
      rw [hN] at ho rn hcn hnl ⊢
      have hN7 : 7 ≤ N := by omega
      have hNb : N ≤ 1100000000 := by omega
      clear hnl hfb
      have HN := hide hN
      have HDONE2 := hide hdone
      have hbz := hb.size
      clear hN hdone HDONE hnames ho
      go_wp2_with fail
      go_loopw [0, 36] (fun v i wr2 => ∃ (j : Nat) (Al : Option Addr) (nl cl : Nat), j ≤ N ∧ i = .int .i64 j ∧ v = .slice Al nl cl ∧ nl ≤ 1000 ∧ (∃ B', B' ≤ wr2.heap.size ∧ Rd wr2 B' 2 Al nl (fcells (dropsL fs (names.take j)))) ∧ (0 < j → nl ≤ cl ∧ Ow wr2 w.heap.size 2 v nl (fcells (dropsL fs (names.take j)))) ∧ Below wr.heap.size wr wr2) (fun _ i _ => N - (intOf i).toNat)
      case atStart => exact ⟨0, _, _, _, Nat.zero_le _, rfl, rfl, hn, ⟨B, Nat.le_trans hB hbz, h.below (hb.mono hB)⟩, fun h => absurd h (by omega), Below.refl _ _⟩
      case round =>
        obtain ⟨j, Al, nl, cl, hj, rfl, rfl, hnl2, ⟨B', hB', rl⟩, hol, hb2⟩ := hrel
        by_cases hlj : j < N
        · have hjl : j < names.length := by have := HN.out; omega
          obtain ⟨a2, hA3, hab, hc2'⟩ := (rn.below hb2).text hlj hjl
          subst hA3
          have hds := dropsL_snoc fs names j hjl
          have hyl := HMEM.out names[j] (List.getElem_mem hjl)
          obtain ⟨y, hy⟩ : ∃ y, y = names[j] := ⟨_, rfl⟩
          rw [← hy] at hc2' hds hyl
          have hdr := drop_any Al nl cl B' (dropsL fs (names.take j)) ⟨y.toArray⟩ _ rl hB' (by omega) (fsOk_drops hok _) (by rw [mk_size]; omega)
          rw [mk_list, ← hds] at hdr
          have hll := dropsL_len (names.take (j + 1)) fs
          rw [hflen] at hll
          obtain ⟨sy, hsy⟩ : ∃ sy : ByteArray, sy = ⟨y.toArray⟩ := ⟨_, rfl⟩
          rw [← hsy] at hc2' hdr
          obtain ⟨gs, hgs⟩ : ∃ gs, gs = dropsL fs (names.take (j + 1)) := ⟨_, rfl⟩
          rw [← hgs] at hdr hll
          obtain ⟨ng, hng⟩ : ∃ n, gs.length = n := ⟨_, rfl⟩
          rw [hng] at hdr hll
          have HGS := hide hgs
          have hb2z := hb2.size
          clear hds hy hsy hgs hyl hol rl hng
          go_wp2_with fail
          refine hdr.mono ?_
          rintro e w5 ⟨A5, c5, rfl, o5, hc5, b5⟩
          have r5 := o5.rd
          have o5' := o5.base_ (Nat.le_trans hbz hb2z)
          clear hdr o5 hc2'
          go_wp2
          go_roundw
          case rel => exact ⟨j + 1, _, _, _, by omega, by go_num, rfl, by omega, ⟨_, Nat.le_refl _, by rw [← HGS.out]; exact r5⟩, fun _ => ⟨hc5, by rw [← HGS.out]; exact o5'⟩, hb2.trans (b5.mono hb2z)⟩
          case measure => simp [intOf]; omega
        · rw [List.take_of_length_le (by have := HN.out; omega), HDONE2.out] at hol
          obtain ⟨h1, h2⟩ := hol (by omega)
          have h3 : (withoutL fs).length = nl := by have := h2.1; rw [fcells_length] at this; omega
          have H1 := hide h1
          have H3 := hide h3
          clear h3 h1 rl hol
          go_wp2
          go_ret
          exact ⟨Al, cl, by rw [H3.out] <;> rfl, by rw [H3.out]; exact h2, by rw [H3.out]; exact H1.out, hb.trans (hb2.mono hbz)⟩

end Go.Proofs.YtijlaclngibekaaGreatDoor

/- edit.with and the reference's: one more field behind all. -/
namespace Go.Proofs.YtijlaclngibekaaGreatDoor
open Go.RowKit

theorem own_snoc_fld' {w : World} {base e n : Nat} {v : Value} {ls : List (List UInt8 × List UInt8)} {s t : ByteArray} (h : w.ownsRow base e 2 v (n + 1) (fcells ls ++ (#[Value.string s, .string t]).toList)) : w.ownsRow base e 2 v (n + 1) (fcells (ls ++ [(s.data.toList, t.data.toList)])) := own_snoc_fld h rfl rfl

set_option maxRecDepth 100000 in
set_option maxHeartbeats 3200000 in
theorem with_any (A : Option Addr) (n c B : Nat) (fs : List (List UInt8 × List UInt8)) (name value : ByteArray) (w : World) (h : Rd w B 2 A n (fcells fs)) (hB : B ≤ w.heap.size) (hn : n ≤ 1000000) :
    Calls Tryz.prog 76 #[.slice A n c, .string name, .string value] w fun e w' => ∃ A' c', e = .returned (.slice A' (n + 1) c') ∧
      Ow w' w.heap.size 2 (.slice A' (n + 1) c') (n + 1) (fcells (fs ++ [(name.data.toList, value.data.toList)])) ∧ n + 1 ≤ c' ∧ Below w.heap.size w w' := by
  obtain ⟨i0, hi0, hz0, hz1, hz2⟩ := info_parts infoFld
  have ho := own_new w #[] 110 2 0 rfl (by unfold maxLen; omega) w.heap.size (Nat.le_refl _)
  have hr := h.alloc hB (.cells #[] 110)
  have t1 : Below w.heap.size w (w.alloc (.cells #[] 110)) := (Below.refl _ _).alloc (Nat.le_refl _) _
  go_enter Tryz.func76, Tryz.ntmps76
  go_wp2_with (first | (at_builtin; refine wpl_append _ rfl _ _ _ rfl w.heap.size _ i0 _ 2 32 Tryz.underlying44 hi0 hz0 hz1 hz2 rfl (by omega) _ _ _ rfl _ _ _ _ _ rfl ho hr (fcells_one fs) (by unfold maxLen; omega) (by omega) t1.size ?_; intro v1 w2 hown1 hbel1 _; rw [Nat.zero_add] at hown1; have hown2 : w2.ownsRow w.heap.size 110 2 v1 n (fcells fs) := hown1; clear hown1; have t2 := t1.trans hbel1; clear hbel1 ho hr) | (at_builtin; refine wpl_push rfl _ _ _ rfl w.heap.size i0 _ 2 32 Tryz.underlying44 hi0 hz0 hz1 hz2 rfl (by omega) _ _ _ rfl _ rfl hown2 rfl (by simp [Value.oneCell']) (by unfold maxLen; omega) (by omega) t2.size ?_; intro v2 w3 hown3 hbel3 _))
  have hown4 := own_snoc_fld' hown3
  go_ret
  obtain ⟨A', c', rfl, hc', -⟩ := own_shape hown4
  exact ⟨A', c', rfl, Ow.of_row hown4, hc', t2.trans hbel3⟩

end Go.Proofs.YtijlaclngibekaaGreatDoor
/- edit.Request and the reference's. -/
namespace Go.Proofs.YtijlaclngibekaaGreatDoor
open Go.RowKit
open FrameSmugglesP (allocs allocs_size allocs_below allocs_cell allocs_rd)

set_option maxRecDepth 100000 in
set_option maxHeartbeats 6400000 in
theorem editreq_any (m t : ByteArray) (minor : Int) (A : Option Addr) (n c B : Nat) (fs : List (List UInt8 × List UInt8)) (kind len : Int) (w : World) (h : Rd w B 2 A n (fcells fs)) (hB : B ≤ w.heap.size) (hn : n ≤ 1000) (hok : fsOk fs) :
    Calls Tryz.prog 110 #[.agg #[.string m, .string t, .int .i64 minor, .slice A n c], .agg #[.int .i64 kind, .int .i64 len]] w fun e w' => ∃ A' c', e = .returned (.agg #[.string m, .string t, .int .i64 1, .slice A' (requestF fs kind).length c']) ∧
      Ow w' w.heap.size 2 (.slice A' (requestF fs kind).length c') (requestF fs kind).length (fcells (requestF fs kind)) ∧ (requestF fs kind).length ≤ c' ∧ Below w.heap.size w w' := by
  obtain ⟨objs, hobjs⟩ : ∃ l : List Obj, l = [.cells #[.string m, .string t, .int .i64 minor, .slice A n c] 80, .cells #[.int .i64 kind, .int .i64 len] 67, .cells #[.string ⟨#[]⟩, .string ⟨#[]⟩, .int .i64 0, .slice none 0 0] 80] := ⟨_, rfl⟩
  have hW : ((w.alloc (.cells #[.string m, .string t, .int .i64 minor, .slice A n c] 80)).alloc (.cells #[.int .i64 kind, .int .i64 len] 67)).alloc (.cells #[.string ⟨#[]⟩, .string ⟨#[]⟩, .int .i64 0, .slice none 0 0] 80) = allocs w objs := by rw [hobjs]; rfl
  have tW := allocs_below objs w
  have b1 : Box (allocs w objs) w.heap.size [.string m, .string t, .int .i64 minor, .slice A n c] := box_allocs objs w 0 _ _ (by rw [hobjs]; rfl)
  have b2 : Box (allocs w objs) (w.heap.size + 1) [.int .i64 kind, .int .i64 len] := box_allocs objs w 1 _ _ (by rw [hobjs]; rfl)
  have b3 : Box (allocs w objs) (w.heap.size + 1 + 1) [.string ⟨#[]⟩, .string ⟨#[]⟩, .int .i64 0, .slice none 0 0] := box_allocs objs w 2 _ _ (by rw [hobjs]; rfl)
  have hfl := dropsL_len (hopL ++ namesL fs) fs
  have hfl' := h.flen
  rw [hfl'] at hfl
  change (withoutL fs).length ≤ n at hfl
  clear hobjs
  go_enter Tryz.func110, Tryz.ntmps110
  go_upto_region 1 with (fail)
  have rl := h.below (tW.mono hB)
  generalize allocs w objs = w0 at b1 b2 b3 tW rl ⊢
  obtain ⟨g, hg⟩ : ∃ g, g = w.heap.size := ⟨_, rfl⟩
  rw [← hg] at b1 b2 b3 tW hB
  rw [← hg]
  have HG := hide hg
  clear hg hW h
  obtain ⟨c0, c1, c2, c3⟩ := b1.four
  obtain ⟨f0, f1, f2, f3⟩ := b1.free4
  go_upto_region 2 with (fail)
  have b1' := b1.set (k := 2) (x := .int .i64 1) (by simp)
  simp only [List.set_cons_succ, List.set_cons_zero] at b1'
  have b2' := b2.far (g' := g) (k := 2) (x := .int .i64 1) (by omega)
  have b3' := b3.far (g' := g) (k := 2) (x := .int .i64 1) (by omega)
  have t1 : Below g w (w0.setCell ⟨g, 2, none⟩ (.int .i64 1)) := tW.setCell (Nat.le_refl _) _
  have rl1 := rl.far (g := g) (k := 2) (x := .int .i64 1) hB
  clear b1 b2 b3 tW rl c0 c1 c2 c3 f0 f1 f2 f3
  generalize w0.setCell _ _ = w1 at b1' b2' b3' t1 rl1 ⊢
  obtain ⟨c0, c1, c2, c3⟩ := b1'.four
  have hg1 := b1'.1
  go_wp2_with fail
  refine (without_any A n c B fs w1 rl1 (by omega) hn hok).mono ?_
  rintro e w2 ⟨A2, c2', rfl, o2, hc2, b⟩
  have b1 := b1'.below b
  have b2 := b2'.below b
  have b3 := b3'.below b
  have t2 := t1.trans (b.mono (Nat.le_of_lt hg1))
  have hap := ow_apart o2 hg1
  have hap2 := ow_apart o2 b3'.1
  have o2b := o2.base_ (Nat.le_of_lt hg1)
  clear b1' b2' b3' t1 rl1 c0 c1 c2 c3 o2 b
  obtain ⟨L, hL⟩ : ∃ L, (withoutL fs).length = L := ⟨_, rfl⟩
  rw [hL] at o2b hc2 hap hap2 hfl
  rw [hL]
  have HL := hide hL
  clear hL
  obtain ⟨c0, c1, c2, c3⟩ := b1.four
  obtain ⟨f0, f1, f2, f3⟩ := b1.free4
  go_upto_region 3 with (fail)
  have b1' := b1.set (k := 3) (x := .slice A2 L c2') (by simp)
  simp only [List.set_cons_succ, List.set_cons_zero] at b1'
  have b2' := b2.far (g' := g) (k := 3) (x := .slice A2 L c2') (by omega)
  have b3' := b3.far (g' := g) (k := 3) (x := .slice A2 L c2') (by omega)
  have t3 : Below g w (w2.setCell ⟨g, 3, none⟩ (.slice A2 L c2')) := t2.setCell (Nat.le_refl _) _
  have o3 := o2b.store_far (a := ⟨g, 3, none⟩) hap (.slice A2 L c2')
  clear b1 b2 b3 t2 o2b c0 c1 c2 c3 f0 f1 f2 f3
  generalize w2.setCell _ _ = w3 at b1' b2' b3' t3 o3 ⊢
  obtain ⟨k0, k1⟩ := b2'.two
  by_cases hk : kind = 2
  · have hreq : requestF fs kind = withoutL fs ++ [chunkF] := by unfold requestF; rw [if_pos hk]
    have hrl : (requestF fs kind).length = L + 1 := by rw [hreq, List.length_append, HL.out]; rfl
    have HR := hide hreq
    have HRL := hide hrl
    have hk2 : (kind == 2) = true := by simpa using hk
    clear hreq hrl hk
    obtain ⟨c0, c1, c2, c3⟩ := b1'.four
    have hg3 := b1'.1
    go_wp2_with fail
    refine (with_any A2 L c2' _ (withoutL fs) ⟨#[84, 114, 97, 110, 115, 102, 101, 114, 45, 69, 110, 99, 111, 100, 105, 110, 103]⟩ ⟨#[99, 104, 117, 110, 107, 101, 100]⟩ w3 o3.rd (Nat.le_refl _) (by omega)).mono ?_
    rintro e w4 ⟨A4, c4', rfl, o4, hc4, b⟩
    have b1 := b1'.below b
    have b2 := b2'.below b
    have b3 := b3'.below b
    have t4 := t3.trans (b.mono (Nat.le_of_lt hg3))
    have hap4 := ow_apart o4 hg3
    have hg33 := b3'.1
    have hap5 := ow_apart o4 hg33
    have o4b := o4.base_ (Nat.le_of_lt hg3)
    clear b1' b2' b3' t3 c0 c1 c2 c3 o4 b k0 k1 o3
    obtain ⟨c0, c1, c2, c3⟩ := b1.four
    obtain ⟨f0, f1, f2, f3⟩ := b1.free4
    go_upto_region 5 with (fail)
    have b1' := b1.set (k := 3) (x := .slice A4 (L + 1) c4') (by simp)
    simp only [List.set_cons_succ, List.set_cons_zero] at b1'
    have b3' := b3.far (g' := g) (k := 3) (x := .slice A4 (L + 1) c4') (by omega)
    have t5 : Below g w (w4.setCell ⟨g, 3, none⟩ (.slice A4 (L + 1) c4')) := t4.setCell (Nat.le_refl _) _
    have o5 := o4b.store_far (a := ⟨g, 3, none⟩) hap4 (.slice A4 (L + 1) c4')
    clear b1 b2 b3 t4 o4b c0 c1 c2 c3 f0 f1 f2 f3
    generalize w4.setCell _ _ = w5 at b1' b3' t5 o5 ⊢
    obtain ⟨c0, c1, c2, c3⟩ := b1'.four
    obtain ⟨d0, d1, d2, d3⟩ := b3'.four
    obtain ⟨f0, f1, f2, f3⟩ := b3'.free4
    go_wp2
    refine bodyPost_ret (v := .agg #[.string m, .string t, .int .i64 1, .slice A4 (L + 1) c4']) (results_rq Tryz.results110 _ (fill4 w5 (g + 1 + 1) (.string m) (.string t) (.int .i64 1) (.slice A4 (L + 1) c4')) _ _ _ _ _ (b3'.fill4 _ _ _ _) rfl) rfl ?_
    refine ⟨A4, c4', by rw [HRL.out], ?_, by rw [HRL.out]; exact hc4, ?_⟩
    · rw [HRL.out, HR.out, ← HG.out]
      exact o5.far4 hap5 _ _ _ _
    · rw [← HG.out]
      exact below_fill4 t5 (by omega) _ _ _ _
  · have hreq : requestF fs kind = withoutL fs := by unfold requestF; rw [if_neg hk]
    have HR := hide hreq
    have hk2 : (kind == 2) = false := by simpa using hk
    have hap3 : (Value.slice A2 L c2').ownBlock ≠ some (g + 1 + 1) := hap2
    clear hreq hk
    obtain ⟨c0, c1, c2, c3⟩ := b1'.four
    obtain ⟨d0, d1, d2, d3⟩ := b3'.four
    obtain ⟨f0, f1, f2, f3⟩ := b3'.free4
    go_wp2
    refine bodyPost_ret (v := .agg #[.string m, .string t, .int .i64 1, .slice A2 L c2']) (results_rq Tryz.results110 _ (fill4 w3 (g + 1 + 1) (.string m) (.string t) (.int .i64 1) (.slice A2 L c2')) _ _ _ _ _ (b3'.fill4 _ _ _ _) rfl) rfl ?_
    refine ⟨A2, c2', by rw [HR.out, HL.out], ?_, by rw [HR.out, HL.out]; exact hc2, ?_⟩
    · rw [HR.out, HL.out, ← HG.out]
      exact o3.far4 hap3 _ _ _ _
    · rw [← HG.out]
      exact below_fill4 t3 (by omega) _ _ _ _
end Go.Proofs.YtijlaclngibekaaGreatDoor
