/- The reference's Target, Reason and printed. -/
import Derived.Test.YtfifoimnebbflaaGreatDoorPrintResp
import Derived.Test.YtfifoimnebbflaaGreatDoorRefName
import Derived.Test.YtfifoimnebbflaaGreatDoorUdec
import Derived.Deep.QuietTactic
import Derived.BigQuiet
namespace Go.Proofs.YtfifoimnebbflaaGreatDoor
open Go.RowKit
set_option linter.unusedVariables false
set_option linter.unusedSimpArgs false

theorem udig_dec (n : Nat) : udig n = Lib.decDigits n := by
  have hd : ∀ k : Nat, k < 10 → (48 + UInt8.ofNat k) = UInt8.ofNat (48 + k) := by decide
  induction n using udig.induct with
  | case1 n h => rw [udig, dif_pos h, Lib.decDigits, dif_pos h, hd _ (Nat.mod_lt _ (by decide)), Nat.mod_eq_of_lt h]
  | case2 n h ih => rw [udig, dif_neg h, Lib.decDigits, dif_neg h, ih, hd _ (Nat.mod_lt _ (by decide))]
theorem conv_bytes' (W : World) (s : ByteArray) (hs : s.size ≤ 1000000) :
    ∃ A c w', (convert 9 24 (.string s)).run Tryz.prog W = .ok (.slice (some A) s.size c) w' ∧ Rd w' w'.heap.size 1 (some A) s.size (bcells s.data.toList) ∧ s.size ≤ c ∧ Below W.heap.size W w' := by
  have hcv := run_bytes_of_string (P := Tryz.prog) W 9 24 5 s Tryz.underlying9 Tryz.underlying24 Tryz.underlying5
  obtain ⟨c, hc⟩ : ∃ c, c = grownCap W s.size 0 5 := ⟨_, rfl⟩
  have hc1 : s.size ≤ c := by rw [hc]; exact grownCap_ge _ _ _ _
  have hc2 : c ≤ maxLen := by rw [hc]; exact grownCap_le_maxLen _ _ _ _ (by simp [maxLen]; omega)
  rw [← hc] at hcv
  have ho := ow_of_string W 5 s c hc1 hc2
  exact ⟨_, _, _, hcv, ho.rd, hc1, (Below.refl _ _).drew.alloc (Nat.le_refl _) _⟩
set_option maxRecDepth 100000 in
set_option maxHeartbeats 3200000 in
theorem refreason_any (s : ByteArray) (w : World) (hs : s.size ≤ 1000000) :
    Calls Tryz.prog 47 #[.string s] w fun e w' => e = .returned (.bool (reasonL s.data.toList)) ∧ Below w.heap.size w w' := by
  have q := plain_any s w (by omega)
  have hr : reasonL s.data.toList = (plainL s.data.toList && decide ((s.size : Int) ≤ 4094)) := by
    unfold reasonL plainL
    rw [size_of, Bool.and_comm]
    congr 1
    exact decide_eq_decide.2 (by omega)
  rw [hr]
  obtain ⟨p, hp⟩ : ∃ p, p = plainL s.data.toList := ⟨_, rfl⟩
  rw [← hp] at q ⊢
  clear hr hp
  cases p with
  | false =>
    go_enter Tryz.func47, Tryz.ntmps47
    go_wp2_with fail
    refine q.mono ?_
    rintro e w1 ⟨rfl, rfl⟩
    go_wp2_with fail
    go_ret
    exact ⟨rfl, Below.refl _ _⟩
  | true =>
    go_enter Tryz.func47, Tryz.ntmps47
    go_wp2_with fail
    refine q.mono ?_
    rintro e w1 ⟨rfl, rfl⟩
    go_wp2_with fail
    go_ret
    exact ⟨ret_bool (by simp), Below.refl _ _⟩
theorem hasPrefix_slash (l : List UInt8) : Lib.hasPrefix l [47] = decide (l.head? = some 47) := by
  unfold Lib.hasPrefix
  cases l with
  | nil => rfl
  | cons a l => simp [List.isPrefixOf, Bool.beq_eq_decide_eq, eq_comm]
set_option maxRecDepth 100000 in
set_option maxHeartbeats 3200000 in
theorem reftarget_any (s : ByteArray) (w : World) (hs : s.size ≤ 140737488355328) :
    Calls Tryz.prog 28 #[.string s] w fun e w' => e = .returned (.bool (targetL s.data.toList)) ∧ w = w' := by
  have HL := hide (size_of s)
  have hpre := hasPrefix_slash s.data.toList
  unfold targetL slashOk
  rw [hpre]
  obtain ⟨r, hr⟩ : ∃ r, r = (s.data.toList.all slashB && (decide (s.data.toList.head? = some 47) && decide (s.data.toList.length ≤ 2048))) := ⟨_, rfl⟩
  rw [← hr]
  have HR := hide hr
  clear hr hpre
  go_enter Tryz.func28, Tryz.ntmps28
  go_wp2_with fail
  go_loop [3] (fun i => ∃ k : Nat, k ≤ s.size ∧ i = .int .i64 k ∧ (s.data.toList.take k).all slashB = true) (fun i => s.size - (intOf i).toNat)
  case atStart => exact ⟨0, Nat.zero_le _, rfl, rfl⟩
  case round =>
    obtain ⟨k, hk, rfl, ha⟩ := hrel
    have HA := hide ha
    clear ha
    by_cases hlt : k < s.size
    · have hts := all_take_snoc (p := slashB) s k hlt
      have HT := hide hts
      clear hts
      have hfa : slashB s[k] = false → s.data.toList.all slashB = false := all_false (p := slashB) s k hlt
      have HF := hide hfa
      clear hfa
      obtain ⟨c, hcc⟩ : ∃ c, s[k] = c := ⟨_, rfl⟩
      rw [hcc] at HT HF
      have hc256 : c.toNat < 256 := c.toNat_lt
      by_cases h1 : (c.toNat : Int) < 33
      · have hv : slashB c = false := by unfold slashB; rw [decide_eq_false]; omega
        have HV := hide (HF.out hv)
        clear hv HF HT
        go_wp2_with fail
        go_ret
        exact ⟨ret_bool (by rw [HR.out, HV.out]; rfl), rfl⟩
      · by_cases h2 : 126 < (c.toNat : Int)
        · have hv : slashB c = false := by unfold slashB; rw [decide_eq_false]; omega
          have HV := hide (HF.out hv)
          clear hv HF HT
          go_wp2_with fail
          go_ret
          exact ⟨ret_bool (by rw [HR.out, HV.out]; rfl), rfl⟩
        · have hv : slashB c = true := by unfold slashB; rw [decide_eq_true]; omega
          have HV := hide hv
          clear hv HF
          go_wp2_with fail
          go_round
          case rel => exact ⟨k + 1, by omega, by go_num, by rw [HT.out, HA.out, HV.out]; rfl⟩
          case measure => simp [intOf]; omega
    · have hfin : s.data.toList.all slashB = true := by have := HA.out; rwa [take_all s k (by omega)] at this
      have HF := hide hfin
      clear hfin
      by_cases h0 : s.size = 0
      · have hnil := nil_of_size h0
        have HN := hide hnil
        have i1 : ¬ (1 : Int) ≤ (s.size : Int) := by omega
        clear hnil hlt hk h0
        go_wp2_with fail
        go_ret
        exact ⟨ret_bool (by rw [HR.out, HN.out]; rfl), rfl⟩
      · have hh := head_get s (by omega)
        obtain ⟨c, hcc⟩ : ∃ c, s[0] = c := ⟨_, rfl⟩
        rw [hcc] at hh
        have HH := hide hh
        have i1 : (1 : Int) ≤ (s.size : Int) := by omega
        clear hh
        by_cases hz : s.size ≤ 2048
        · have i2 : (s.size : Int) ≤ 2048 := by omega
          have i3 : 0 < s.size := by omega
          go_wp2_with fail
          go_ret
          refine ⟨ret_bool ?_, rfl⟩
          rw [HR.out, HF.out, HH.out, ← HL.out, decide_eq_true hz, Bool.and_true, Bool.true_and]
          rw [Bool.eq_iff_iff]
          simp only [beq_iff_eq, decide_eq_true_eq, Option.some.injEq]
          constructor
          · intro h; exact UInt8.toNat_inj.1 (by show c.toNat = 47; omega)
          · rintro rfl; rfl
        · have i2 : ¬ (s.size : Int) ≤ 2048 := by omega
          go_wp2_with fail
          go_ret
          refine ⟨ret_bool ?_, rfl⟩
          rw [HR.out, ← HL.out, decide_eq_false hz, Bool.and_false, Bool.and_false]
set_option maxRecDepth 100000 in
set_option maxHeartbeats 3200000 in
theorem refprinted_any (first : ByteArray) (A : Option Addr) (n c B : Nat) (fs : List (List UInt8 × List UInt8)) (w : World) (h : Rd w B 2 A n (fcells fs)) (hB : B ≤ w.heap.size) (hn : n ≤ 1000) (hok : fsOk fs) (hf : first.size ≤ 1000000) :
    Calls Tryz.prog 29 #[.string first, .slice A n c] w fun e w' => ∃ A' c', e = .returned (.tuple #[.slice A' (printB first.data.toList fs).length c', .int .i64 (printE first.data.toList fs)]) ∧
      Rd w' w'.heap.size 1 A' (printB first.data.toList fs).length (bcells (printB first.data.toList fs)) ∧ (printB first.data.toList fs).length ≤ c' ∧ Below w.heap.size w w' := by
  have hlen := h.flen
  by_cases h64 : 64 < n
  · obtain ⟨e1, e2⟩ := print_many (first := first.data.toList) (show 64 < fs.length by omega)
    rw [e1, e2]
    have i1 : (64 : Int) < (n : Int) := by omega
    have y1 : ¬ 9223372036854775807 < first.size + 2 := by omega
    clear e1 e2 hlen
    go_enter Tryz.func29, Tryz.ntmps29
    go_wp2_with fail
    go_ret2
    exact ⟨none, 0, rfl, Rd.nil_, Nat.le_refl _, Below.refl _ _⟩
  have i1 : ¬ (64 : Int) < (n : Int) := by omega
  have hfl : (first ++ ⟨#[13, 10]⟩ : ByteArray).data.toList = first.data.toList ++ crlfL := by rw [app_list]; rfl
  have hfsz : first.data.toList.length ≤ 1000000 := by rw [← size_of]; exact hf
  have y1 : ¬ 9223372036854775807 < first.size + 2 := by omega
  obtain ⟨F, hF⟩ : ∃ F, F = first.data.toList := ⟨_, rfl⟩
  rw [← hF] at hfsz hfl ⊢
  obtain ⟨rE, hrE⟩ : ∃ x, x = printE F fs := ⟨_, rfl⟩
  obtain ⟨rB, hrB⟩ : ∃ x, x = printB F fs := ⟨_, rfl⟩
  rw [← hrE, ← hrB]
  have HE := hide hrE
  have HB := hide hrB
  have HFL := hide hfl
  have HL := hide hlen
  have hle : n ≤ fs.length := by omega
  have HOK := hide hok
  clear hF hrE hrB hfl hlen hok
  go_enter Tryz.func29, Tryz.ntmps29
  go_wp2_with fail
  go_loopw [6, 7] (fun s i wr => ∃ (k : Nat) (sb : ByteArray), k ≤ n ∧ i = .int .i64 k ∧ s = .string sb ∧ (fs.take k).all fldOk = true ∧ sb.data.toList = F ++ crlfL ++ linesB (fs.take k) ∧ Below w.heap.size w wr) (fun _ i _ => n - (intOf i).toNat)
  case atStart => exact ⟨0, _, Nat.zero_le _, rfl, rfl, rfl, by rw [HFL.out]; simp [linesB], Below.refl _ _⟩
  case round =>
    obtain ⟨k, sb, hk, rfl, rfl, ha, hsb, hb⟩ := hrel
    have HA := hide ha
    have HSB := hide hsb
    have hbz := hb.size
    have hlb : sb.size ≤ 3000000000 := by
      rw [size_of, hsb]
      have h1 := linesB_len (fs.take k) 1000 (fun f hf => HOK.out f (List.mem_of_mem_take hf)) (by rw [List.length_take]; omega)
      simp [crlfL]; omega
    clear ha hsb
    by_cases hlt : k < n
    · have hkl : k < fs.length := by omega
      obtain ⟨b, off, rfl, hbB, e0, e1⟩ := (h.below (hb.mono hB)).fld hlt hkl
      have hsn := list_take_snoc fs k hkl
      obtain ⟨hs1, hs2⟩ := HOK.out fs[k] (List.getElem_mem hkl)
      have hxm : fs[k] ∈ fs := List.getElem_mem hkl
      obtain ⟨x, hx⟩ : ∃ x, x = fs[k] := ⟨_, rfl⟩
      rw [← hx] at e0 e1 hsn hs1 hs2 hxm
      have q1 := fun w => refname_any ⟨x.1.toArray⟩ w (by rw [mk_size]; omega)
      have q2 := fun w => refvalue_any ⟨x.2.toArray⟩ w (by rw [mk_size]; omega)
      have hfo : fldOk x = (goodNameL x.1 && goodValueL x.2) := rfl
      have hl1 : (⟨x.1.toArray⟩ : ByteArray).size ≤ 1000000 := by rw [mk_size]; exact hs1
      have hl2 : (⟨x.2.toArray⟩ : ByteArray).size ≤ 1000000 := by rw [mk_size]; exact hs2
      have hap : (sb ++ (⟨x.1.toArray⟩ : ByteArray) ++ ⟨#[58, 32]⟩ ++ ⟨x.2.toArray⟩ ++ ⟨#[13, 10]⟩).data.toList = sb.data.toList ++ fldLn x := by rw [app_list, app_list, app_list, app_list]; simp [fldLn, crlfL]
      change ∀ w, Calls _ _ _ w (fun e w' => e = .returned (.bool (goodNameL x.1)) ∧ w = w') at q1
      change ∀ w, Calls _ _ _ w (fun e w' => e = .returned (.bool (goodValueL x.2)) ∧ w = w') at q2
      obtain ⟨gn, hgn⟩ : ∃ x', x' = goodNameL x.1 := ⟨_, rfl⟩
      obtain ⟨gv, hgv⟩ : ∃ x', x' = goodValueL x.2 := ⟨_, rfl⟩
      simp only [← hgn] at q1
      simp only [← hgv] at q2
      rw [← hgn, ← hgv] at hfo
      obtain ⟨sx, hsx⟩ : ∃ b : ByteArray, b = ⟨x.1.toArray⟩ := ⟨_, rfl⟩
      obtain ⟨sv, hsv⟩ : ∃ b : ByteArray, b = ⟨x.2.toArray⟩ := ⟨_, rfl⟩
      rw [← hsx] at e0 q1 hl1 hap
      rw [← hsv] at e1 q2 hl2 hap
      have HX := hide hxm
      have HS := hide hsn
      have HFO := hide hfo
      have HAP := hide hap
      clear hsn hx hs1 hs2 hxm hgn hgv hsx hsv hfo hap
      rcases gn with _ | _
      · have hbad : fs.all fldOk = false := by
          rcases hh : fs.all fldOk with _ | _
          · rfl
          · have := List.all_eq_true.1 hh x HX.out
            rw [HFO.out] at this; cases this
        obtain ⟨z1, z2⟩ := print_bad (first := F) hbad
        rw [← HE.out] at z1
        rw [← HB.out] at z2
        subst z1 z2
        clear hbad
        go_wp2_with fail
        refine (q1 wr).mono ?_
        rintro e w2 ⟨rfl, rfl⟩
        go_wp2_with fail
        go_ret2
        exact ⟨none, 0, rfl, Rd.nil_, Nat.le_refl _, hb⟩
      rcases gv with _ | _
      · have hbad : fs.all fldOk = false := by
          rcases hh : fs.all fldOk with _ | _
          · rfl
          · have := List.all_eq_true.1 hh x HX.out
            rw [HFO.out] at this; cases this
        obtain ⟨z1, z2⟩ := print_bad (first := F) hbad
        rw [← HE.out] at z1
        rw [← HB.out] at z2
        subst z1 z2
        clear hbad
        go_wp2_with fail
        refine (q1 wr).mono ?_
        rintro e w2 ⟨rfl, rfl⟩
        go_wp2_with fail
        refine (q2 wr).mono ?_
        rintro e w2 ⟨rfl, rfl⟩
        go_wp2_with fail
        go_ret2
        exact ⟨none, 0, rfl, Rd.nil_, Nat.le_refl _, hb⟩
      have y2 : ¬ 9223372036854775807 < sb.size + sx.size := by omega
      have y3 : ¬ 9223372036854775807 < sb.size + sx.size + 2 := by omega
      have y4 : ¬ 9223372036854775807 < sb.size + sx.size + 2 + sv.size := by omega
      have y5 : ¬ 9223372036854775807 < sb.size + sx.size + 2 + sv.size + 2 := by omega
      go_wp2_with fail
      refine (q1 wr).mono ?_
      rintro e w2 ⟨rfl, rfl⟩
      go_wp2_with fail
      refine (q2 wr).mono ?_
      rintro e w2 ⟨rfl, rfl⟩
      go_wp2_with fail
      go_quiet (fail)
      go_wp2
      go_roundw
      case rel =>
        refine ⟨k + 1, _, by omega, by go_num, rfl, ?_, ?_, below_drewN hb⟩
        · rw [HS.out, List.all_append, HA.out]; simp [HFO.out]
        · rw [HAP.out, HSB.out, HS.out, linesB_snoc]; simp
      case measure => simp [intOf]; omega
    · have hLn := HL.out
      have hall : fs.all fldOk = true := by have := HA.out; rwa [List.take_of_length_le (by omega)] at this
      have hlst : (sb ++ ⟨#[13, 10]⟩ : ByteArray).data.toList = headB F fs := by
        rw [app_list, HSB.out, List.take_of_length_le (by omega)]
        rfl
      have y2 : ¬ 9223372036854775807 < sb.size + 2 := by omega
      by_cases hbig : 16384 < (headB F fs).length
      · obtain ⟨z1, z2⟩ := print_long (first := F) (by rw [HL.out]; omega) hall hbig
        rw [← HE.out] at z1
        rw [← HB.out] at z2
        subst z1 z2
        have i2 : (16384 : Int) < ((sb.size + 2 : Nat) : Int) := by
          have : (headB F fs).length = sb.size + 2 := by rw [← hlst, ← size_of, ByteArray.size_append]; rfl
          omega
        clear hall hlst hbig
        go_wp2_with fail
        go_ret2
        exact ⟨none, 0, rfl, Rd.nil_, Nat.le_refl _, hb⟩
      · obtain ⟨z1, z2⟩ := print_ok (first := F) (by rw [HL.out]; omega) hall hbig
        rw [← HE.out] at z1
        rw [← HB.out] at z2
        have hln : (headB F fs).length = sb.size + 2 := by rw [← hlst, ← size_of, ByteArray.size_append]; rfl
        have i2 : ¬ (16384 : Int) < ((sb.size + 2 : Nat) : Int) := by omega
        obtain ⟨A1, c1, w5, hcv, r5, hc5, b5⟩ := conv_bytes' wr (sb ++ ⟨#[13, 10]⟩) (by rw [ByteArray.size_append]; change sb.size + 2 ≤ _; omega)
        rw [hlst] at r5
        have hz5 : (sb ++ ⟨#[13, 10]⟩ : ByteArray).size = (headB F fs).length := by rw [← hlst, ← size_of]
        rw [hz5, hln] at r5 hcv hc5
        subst z1 z2
        have t5 := hb.trans (b5.mono hbz)
        clear hall hlst hbig
        have hcap : sb.size + 2 ≤ c1 := hc5
        go_wp2_with fail
        go_ret2
        exact ⟨some A1, c1, rfl, r5, hcap, t5⟩
end Go.Proofs.YtfifoimnebbflaaGreatDoor
