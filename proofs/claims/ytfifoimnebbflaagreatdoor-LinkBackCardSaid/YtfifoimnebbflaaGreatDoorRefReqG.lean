/- The reference's PrintRequest and PrintResponse. -/
import Derived.Test.YtfifoimnebbflaaGreatDoorRefPrinted
import Derived.Test.YtfifoimnebbflaaGreatDoorPrintResp
namespace Go.Proofs.YtfifoimnebbflaaGreatDoor
open Go.RowKit
set_option linter.unusedVariables false
set_option linter.unusedSimpArgs false

set_option maxRecDepth 100000 in
set_option maxHeartbeats 3200000 in
theorem refprintreq_any (m t : ByteArray) (minor : Int) (A : Option Addr) (n c B : Nat) (fs : List (List UInt8 × List UInt8)) (w : World) (h : Rd w B 2 A n (fcells fs)) (hB : B ≤ w.heap.size) (hn : n ≤ 1000) (hok : fsOk fs) (hms : m.size ≤ 1000000) (hts : t.size ≤ 1000000) :
    Calls Tryz.prog 7 #[.agg #[.string m, .string t, .int .i64 minor, .slice A n c]] w fun e w' => ∃ A' c', e = .returned (.tuple #[.slice A' (preqB m.data.toList t.data.toList minor fs).length c', .int .i64 (preqE m.data.toList t.data.toList minor fs)]) ∧
      Rd w' w'.heap.size 1 A' (preqB m.data.toList t.data.toList minor fs).length (bcells (preqB m.data.toList t.data.toList minor fs)) ∧ (preqB m.data.toList t.data.toList minor fs).length ≤ c' ∧ Below w.heap.size w w' := by
  have q1 := fun w => refname_any m w (by omega)
  have q2 := fun w => reftarget_any t w (by omega)
  have bx := Box.new w #[.string m, .string t, .int .i64 minor, .slice A n c] 31
  have ta : Below w.heap.size w (w.alloc (.cells #[.string m, .string t, .int .i64 minor, .slice A n c] 31)) := (Below.refl _ _).alloc (Nat.le_refl _) _
  obtain ⟨k0, k1, k2, k3⟩ := Box.four bx
  have gz : w.heap.size < (w.alloc (.cells #[.string m, .string t, .int .i64 minor, .slice A n c] 31)).heap.size := by simp
  unfold preqE preqB reqGood
  obtain ⟨gn, hgn⟩ : ∃ x, x = goodNameL m.data.toList := ⟨_, rfl⟩
  obtain ⟨gt, hgt⟩ : ∃ x, x = targetL t.data.toList := ⟨_, rfl⟩
  simp only [← hgn] at q1 ⊢
  simp only [← hgt] at q2 ⊢
  have endBad : ∀ W, Below w.heap.size w W → ∃ A' c', Ending.returned (.tuple #[.slice none 0 0, .int .i64 2]) = Ending.returned (.tuple #[.slice A' ([] : List UInt8).length c', .int .i64 2]) ∧ Rd W W.heap.size 1 A' ([] : List UInt8).length (bcells []) ∧ ([] : List UInt8).length ≤ c' ∧ Below w.heap.size w W := fun W b =>
    ⟨none, 0, rfl, Rd.nil_, Nat.le_refl _, b⟩
  have hm256 : gn = true → m.size ≤ 256 := fun h => by
    rw [hgn] at h
    unfold goodNameL at h
    simp only [Bool.and_eq_true, decide_eq_true_eq] at h
    rw [size_of]; exact h.2
  have ht2048 : gt = true → t.size ≤ 2048 := fun h => by
    rw [hgt] at h
    unfold targetL at h
    simp only [Bool.and_eq_true, decide_eq_true_eq] at h
    rw [size_of]; exact h.2.2
  clear bx hgn hgt
  by_cases hg : gn = true ∧ gt = true ∧ 0 ≤ minor ∧ minor ≤ 1
  · obtain ⟨rfl, rfl, h0, h1⟩ := hg
    obtain ⟨mi, rfl⟩ : ∃ k : Nat, minor = k := ⟨minor.toNat, by omega⟩
    have hm01 : mi < 2 := by omega
    rw [Int.toNat_natCast]
    have hif : (true && (true && decide (0 ≤ (mi : Int) ∧ (mi : Int) ≤ 1))) = true := by simp; omega
    rw [hif]
    have q3 := fun w => dec_any mi (by omega) w
    simp only [udig_dec] at q3
    obtain ⟨D, hD⟩ : ∃ D : ByteArray, D = ⟨(Lib.decDigits mi).toArray⟩ := ⟨_, rfl⟩
    simp only [← hD] at q3
    have hDs : D.size = 1 := by rw [hD, mk_size, dec2 mi (by omega)]
    have hfl : (m ++ ⟨#[32]⟩ ++ t ++ ⟨#[32, 72, 84, 84, 80, 47, 49, 46]⟩ ++ D : ByteArray).data.toList = reqFirst m.data.toList t.data.toList mi := by
      rw [app_list, app_list, app_list, app_list, hD]
      show _ ++ [32, 72, 84, 84, 80, 47, 49, 46] ++ _ = _
      unfold reqFirst verL
      simp
    have hfs : (m ++ ⟨#[32]⟩ ++ t ++ ⟨#[32, 72, 84, 84, 80, 47, 49, 46]⟩ ++ D : ByteArray).size ≤ 1000000 := by
      rw [ByteArray.size_append, ByteArray.size_append, ByteArray.size_append, ByteArray.size_append, hDs]
      have := hm256 rfl
      have := ht2048 rfl
      change m.size + 1 + t.size + 8 + 1 ≤ _
      omega
    have q4 := fun (W : World) (r : Rd W B 2 A n (fcells fs)) (b : B ≤ W.heap.size) => refprinted_any _ A n c B fs W r b hn hok hfs
    rw [hfl] at q4
    obtain ⟨PE, hPE⟩ : ∃ x, x = printE (reqFirst m.data.toList t.data.toList mi) fs := ⟨_, rfl⟩
    obtain ⟨PB, hPB⟩ : ∃ x, x = printB (reqFirst m.data.toList t.data.toList mi) fs := ⟨_, rfl⟩
    simp only [← hPE, ← hPB] at q4
    rw [if_pos rfl, if_pos rfl, ← hPE, ← hPB]
    clear hfl hfs hD hPE hPB hif endBad hok
    have hr0 := h.below (ta.mono hB)
    have i0 : ¬ (mi : Int) < 0 := by omega
    have i1 : ¬ 1 < (mi : Int) := by omega
    have hm1 := hm256 rfl
    have ht1 := ht2048 rfl
    go_enter Tryz.func7, Tryz.ntmps7
    go_upto_region 1 with (fail)
    generalize w.alloc _ = w0 at k0 k1 k2 k3 gz ta hr0 ⊢
    have hB0 := Nat.le_trans hB ta.size
    go_wp2_with fail
    refine (q1 w0).mono ?_
    rintro e w1 ⟨rfl, rfl⟩
    go_wp2_with fail
    refine (q2 w0).mono ?_
    rintro e w1 ⟨rfl, rfl⟩
    go_upto_region 3 with (fail)
    clear q1 q2
    have q6 := q3 w0.drew
    have q5 := fun (W : World) (b : Below w0.drew.heap.size w0.drew W) => q4 W (hr0.below ((below_drewN (k := 1) (Below.refl _ w0)).trans (b.mono hB0))) (Nat.le_trans hB0 b.size)
    clear q3
    have y1 : ¬ 9223372036854775807 < m.size + 1 := by omega
    have y2 : ¬ 9223372036854775807 < m.size + 1 + t.size := by omega
    have y3 : ¬ 9223372036854775807 < m.size + 1 + t.size + 8 := by omega
    have y4 : ¬ 9223372036854775807 < m.size + 1 + t.size + 8 + D.size := by omega
    clear hDs hm1 ht1
    go_region_held3 (fun w' => w'.cell? ⟨w.heap.size, 0, none⟩ = some (.string m) ∧ w'.cell? ⟨w.heap.size, 1, none⟩ = some (.string t) ∧ w'.cell? ⟨w.heap.size, 2, none⟩ = some (.int .i64 mi) ∧ w'.cell? ⟨w.heap.size, 3, none⟩ = some (.slice A n c) ∧ Below w.heap.size w w')
      (first
        | exact ⟨k0, k1, k2, k3, below_drewN (k := 1) ta⟩
        | exact ⟨cell_keep' (w := w0.drew) k0 (k13.trans (k12.mono k13.size)), cell_keep' (w := w0.drew) k1 (k13.trans (k12.mono k13.size)), cell_keep' (w := w0.drew) k2 (k13.trans (k12.mono k13.size)), cell_keep' (w := w0.drew) k3 (k13.trans (k12.mono k13.size)), (below_drewN (k := 1) ta).trans ((k13.trans (k12.mono k13.size)).mono ta.size)⟩
        | exact ⟨cell_keep' (w := w0.drew) k0 (k13), cell_keep' (w := w0.drew) k1 (k13), cell_keep' (w := w0.drew) k2 (k13), cell_keep' (w := w0.drew) k3 (k13), (below_drewN (k := 1) ta).trans ((k13).mono ta.size)⟩
        | assumption)
      (first
        | (go_at_call 30; refine q6.mono ?_; rintro e w13 ⟨rfl, k13⟩)
        | (go_at_call 29; refine (q5 w13 k13).mono ?_; rintro e w12 ⟨A', c', rfl, r12, l12, k12⟩))
    all_goals
      go_wp2_with fail
      go_ret2
      exact ⟨A', c', rfl, r12, l12, (below_drewN (k := 1) ta).trans ((k13.trans (k12.mono k13.size)).mono ta.size)⟩
  · have hif : (gn && (gt && decide (0 ≤ minor ∧ minor ≤ 1))) = false := by
      rcases hx : (gn && (gt && decide (0 ≤ minor ∧ minor ≤ 1))) with _ | _
      · rfl
      · simp at hx; exact absurd hx hg
    rw [hif]
    change Calls _ _ _ w (fun e w' => ∃ A' c', e = .returned (.tuple #[.slice A' ([] : List UInt8).length c', .int .i64 2]) ∧ Rd w' w'.heap.size 1 A' ([] : List UInt8).length (bcells []) ∧ ([] : List UInt8).length ≤ c' ∧ Below w.heap.size w w')
    clear hif hm256 ht2048 h
    rcases gn with _ | _
    · clear hg
      go_enter Tryz.func7, Tryz.ntmps7
      go_upto_region 1 with (fail)
      generalize w.alloc _ = w0 at k0 k1 k2 k3 gz ta ⊢
      go_wp2_with fail
      refine (q1 w0).mono ?_
      rintro e w1 ⟨rfl, rfl⟩
      go_wp2_with fail
      go_ret2
      exact endBad _ ta
    · rcases gt with _ | _
      · clear hg
        go_enter Tryz.func7, Tryz.ntmps7
        go_upto_region 1 with (fail)
        generalize w.alloc _ = w0 at k0 k1 k2 k3 gz ta ⊢
        go_wp2_with fail
        refine (q1 w0).mono ?_
        rintro e w1 ⟨rfl, rfl⟩
        go_wp2_with fail
        refine (q2 w0).mono ?_
        rintro e w1 ⟨rfl, rfl⟩
        go_wp2_with fail
        go_ret2
        exact endBad _ ta
      · by_cases h0 : minor < 0
        · clear hg
          go_enter Tryz.func7, Tryz.ntmps7
          go_upto_region 1 with (fail)
          generalize w.alloc _ = w0 at k0 k1 k2 k3 gz ta ⊢
          go_wp2_with fail
          refine (q1 w0).mono ?_
          rintro e w1 ⟨rfl, rfl⟩
          go_wp2_with fail
          refine (q2 w0).mono ?_
          rintro e w1 ⟨rfl, rfl⟩
          go_wp2_with fail
          go_ret2
          exact endBad _ ta
        · have h1 : 1 < minor := by
            rcases Int.lt_or_le 1 minor with h | h
            · exact h
            · exact absurd ⟨rfl, rfl, by omega, h⟩ hg
          clear hg
          go_enter Tryz.func7, Tryz.ntmps7
          go_upto_region 1 with (fail)
          generalize w.alloc _ = w0 at k0 k1 k2 k3 gz ta ⊢
          go_wp2_with fail
          refine (q1 w0).mono ?_
          rintro e w1 ⟨rfl, rfl⟩
          go_wp2_with fail
          refine (q2 w0).mono ?_
          rintro e w1 ⟨rfl, rfl⟩
          go_wp2_with fail
          go_ret2
          exact endBad _ ta
end Go.Proofs.YtfifoimnebbflaaGreatDoor

/- The reference's printed and PrintRequest, for strings of any length that the form reaches. -/
namespace Go.Proofs.YtfifoimnebbflaaGreatDoor
open Go.RowKit
set_option linter.unusedVariables false
set_option linter.unusedSimpArgs false

theorem fld_small {f : List UInt8 × List UInt8} (h : fldOk f = true) : f.1.length ≤ 1000000 ∧ f.2.length ≤ 1000000 := by
  unfold fldOk goodNameL goodValueL at h
  simp only [Bool.and_eq_true, decide_eq_true_eq] at h
  omega
set_option maxRecDepth 100000 in
set_option maxHeartbeats 3200000 in
theorem reftargetG_any (s : ByteArray) (w : World) (hs : s.size ≤ 9223372036854775807) :
    Calls Tryz.prog 28 #[.string s] w fun e w' => e = .returned (.bool (targetL s.data.toList)) ∧ w = w' := by
  have HL := hide (size_of s)
  have hpre := hasPrefix_slash s.data.toList
  unfold targetL slashOk
  rw [hpre]
  obtain ⟨r, hr⟩ : ∃ r, r = (s.data.toList.all slashB && (decide (s.data.toList.head? = some 47) && decide (s.data.toList.length ≤ 2048))) := ⟨_, rfl⟩
  rw [← hr]
  have HR := hide hr
  clear hr hpre
  go_enter Tryz.func28, Tryz.ntmps28
  go_wp2_with fail
  go_loop [3] (fun i => ∃ k : Nat, k ≤ s.size ∧ i = .int .i64 k ∧ (s.data.toList.take k).all slashB = true) (fun i => s.size - (intOf i).toNat)
  case atStart => exact ⟨0, Nat.zero_le _, rfl, rfl⟩
  case round =>
    obtain ⟨k, hk, rfl, ha⟩ := hrel
    have HA := hide ha
    clear ha
    by_cases hlt : k < s.size
    · have hts := all_take_snoc (p := slashB) s k hlt
      have HT := hide hts
      clear hts
      have hfa : slashB s[k] = false → s.data.toList.all slashB = false := all_false (p := slashB) s k hlt
      have HF := hide hfa
      clear hfa
      obtain ⟨c, hcc⟩ : ∃ c, s[k] = c := ⟨_, rfl⟩
      rw [hcc] at HT HF
      have hc256 : c.toNat < 256 := c.toNat_lt
      by_cases h1 : (c.toNat : Int) < 33
      · have hv : slashB c = false := by unfold slashB; rw [decide_eq_false]; omega
        have HV := hide (HF.out hv)
        clear hv HF HT
        go_wp2_with fail
        go_ret
        exact ⟨ret_bool (by rw [HR.out, HV.out]; rfl), rfl⟩
      · by_cases h2 : 126 < (c.toNat : Int)
        · have hv : slashB c = false := by unfold slashB; rw [decide_eq_false]; omega
          have HV := hide (HF.out hv)
          clear hv HF HT
          go_wp2_with fail
          go_ret
          exact ⟨ret_bool (by rw [HR.out, HV.out]; rfl), rfl⟩
        · have hv : slashB c = true := by unfold slashB; rw [decide_eq_true]; omega
          have HV := hide hv
          clear hv HF
          go_wp2_with fail
          go_round
          case rel => exact ⟨k + 1, by omega, by go_num, by rw [HT.out, HA.out, HV.out]; rfl⟩
          case measure => simp [intOf]; omega
    · have hfin : s.data.toList.all slashB = true := by have := HA.out; rwa [take_all s k (by omega)] at this
      have HF := hide hfin
      clear hfin
      by_cases h0 : s.size = 0
      · have hnil := nil_of_size h0
        have HN := hide hnil
        have i1 : ¬ (1 : Int) ≤ (s.size : Int) := by omega
        clear hnil hlt hk h0
        go_wp2_with fail
        go_ret
        exact ⟨ret_bool (by rw [HR.out, HN.out]; rfl), rfl⟩
      · have hh := head_get s (by omega)
        obtain ⟨c, hcc⟩ : ∃ c, s[0] = c := ⟨_, rfl⟩
        rw [hcc] at hh
        have HH := hide hh
        have i1 : (1 : Int) ≤ (s.size : Int) := by omega
        clear hh
        by_cases hz : s.size ≤ 2048
        · have i2 : (s.size : Int) ≤ 2048 := by omega
          have i3 : 0 < s.size := by omega
          go_wp2_with fail
          go_ret
          refine ⟨ret_bool ?_, rfl⟩
          rw [HR.out, HF.out, HH.out, ← HL.out, decide_eq_true hz, Bool.and_true, Bool.true_and]
          rw [Bool.eq_iff_iff]
          simp only [beq_iff_eq, decide_eq_true_eq, Option.some.injEq]
          constructor
          · intro h; exact UInt8.toNat_inj.1 (by show c.toNat = 47; omega)
          · rintro rfl; rfl
        · have i2 : ¬ (s.size : Int) ≤ 2048 := by omega
          go_wp2_with fail
          go_ret
          refine ⟨ret_bool ?_, rfl⟩
          rw [HR.out, ← HL.out, decide_eq_false hz, Bool.and_false, Bool.and_false]
set_option maxRecDepth 100000 in
set_option maxHeartbeats 3200000 in
theorem refprintedG_any (first : ByteArray) (A : Option Addr) (n c B : Nat) (fs : List (List UInt8 × List UInt8)) (w : World) (h : Rd w B 2 A n (fcells fs)) (hB : B ≤ w.heap.size) (hok : ∀ f ∈ fs, f.1.length ≤ 9223372036854775807 ∧ f.2.length ≤ 9223372036854775807) (hf : first.size ≤ 1000000) :
    Calls Tryz.prog 29 #[.string first, .slice A n c] w fun e w' => ∃ A' c', e = .returned (.tuple #[.slice A' (printB first.data.toList fs).length c', .int .i64 (printE first.data.toList fs)]) ∧
      Rd w' w'.heap.size 1 A' (printB first.data.toList fs).length (bcells (printB first.data.toList fs)) ∧ (printB first.data.toList fs).length ≤ c' ∧ Below w.heap.size w w' := by
  have hlen := h.flen
  by_cases h64 : 64 < n
  · obtain ⟨e1, e2⟩ := print_many (first := first.data.toList) (show 64 < fs.length by omega)
    rw [e1, e2]
    have i1 : (64 : Int) < (n : Int) := by omega
    have y1 : ¬ 9223372036854775807 < first.size + 2 := by omega
    clear e1 e2 hlen
    go_enter Tryz.func29, Tryz.ntmps29
    go_wp2_with fail
    go_ret2
    exact ⟨none, 0, rfl, Rd.nil_, Nat.le_refl _, Below.refl _ _⟩
  have i1 : ¬ (64 : Int) < (n : Int) := by omega
  have hfl : (first ++ ⟨#[13, 10]⟩ : ByteArray).data.toList = first.data.toList ++ crlfL := by rw [app_list]; rfl
  have hfsz : first.data.toList.length ≤ 1000000 := by rw [← size_of]; exact hf
  have y1 : ¬ 9223372036854775807 < first.size + 2 := by omega
  obtain ⟨F, hF⟩ : ∃ F, F = first.data.toList := ⟨_, rfl⟩
  rw [← hF] at hfsz hfl ⊢
  obtain ⟨rE, hrE⟩ : ∃ x, x = printE F fs := ⟨_, rfl⟩
  obtain ⟨rB, hrB⟩ : ∃ x, x = printB F fs := ⟨_, rfl⟩
  rw [← hrE, ← hrB]
  have HE := hide hrE
  have HB := hide hrB
  have HFL := hide hfl
  have HL := hide hlen
  have hle : n ≤ fs.length := by omega
  have HOK := hide hok
  clear hF hrE hrB hfl hlen hok
  go_enter Tryz.func29, Tryz.ntmps29
  go_wp2_with fail
  go_loopw [6, 7] (fun s i wr => ∃ (k : Nat) (sb : ByteArray), k ≤ n ∧ i = .int .i64 k ∧ s = .string sb ∧ (fs.take k).all fldOk = true ∧ sb.data.toList = F ++ crlfL ++ linesB (fs.take k) ∧ Below w.heap.size w wr) (fun _ i _ => n - (intOf i).toNat)
  case atStart => exact ⟨0, _, Nat.zero_le _, rfl, rfl, rfl, by rw [HFL.out]; simp [linesB], Below.refl _ _⟩
  case round =>
    obtain ⟨k, sb, hk, rfl, rfl, ha, hsb, hb⟩ := hrel
    have HA := hide ha
    have HSB := hide hsb
    have hbz := hb.size
    have hlb : sb.size ≤ 3000000000 := by
      rw [size_of, hsb]
      have h1 := linesB_len (fs.take k) 1000 (fun f hf => fld_small (List.all_eq_true.1 HA.out f hf)) (by rw [List.length_take]; omega)
      simp [crlfL]; omega
    clear ha hsb
    by_cases hlt : k < n
    · have hkl : k < fs.length := by omega
      obtain ⟨b, off, rfl, hbB, e0, e1⟩ := (h.below (hb.mono hB)).fld hlt hkl
      have hsn := list_take_snoc fs k hkl
      obtain ⟨hs1, hs2⟩ := HOK.out fs[k] (List.getElem_mem hkl)
      have hxm : fs[k] ∈ fs := List.getElem_mem hkl
      obtain ⟨x, hx⟩ : ∃ x, x = fs[k] := ⟨_, rfl⟩
      rw [← hx] at e0 e1 hsn hs1 hs2 hxm
      have q1 := fun w => refname_any ⟨x.1.toArray⟩ w (by rw [mk_size]; omega)
      have q2 := fun w => refvalue_any ⟨x.2.toArray⟩ w (by rw [mk_size]; omega)
      have hfo : fldOk x = (goodNameL x.1 && goodValueL x.2) := rfl
      have hl1 : (⟨x.1.toArray⟩ : ByteArray).size = x.1.length := mk_size _
      have hl2 : (⟨x.2.toArray⟩ : ByteArray).size = x.2.length := mk_size _
      have hap : (sb ++ (⟨x.1.toArray⟩ : ByteArray) ++ ⟨#[58, 32]⟩ ++ ⟨x.2.toArray⟩ ++ ⟨#[13, 10]⟩).data.toList = sb.data.toList ++ fldLn x := by rw [app_list, app_list, app_list, app_list]; simp [fldLn, crlfL]
      change ∀ w, Calls _ _ _ w (fun e w' => e = .returned (.bool (goodNameL x.1)) ∧ w = w') at q1
      change ∀ w, Calls _ _ _ w (fun e w' => e = .returned (.bool (goodValueL x.2)) ∧ w = w') at q2
      obtain ⟨gn, hgn⟩ : ∃ x', x' = goodNameL x.1 := ⟨_, rfl⟩
      obtain ⟨gv, hgv⟩ : ∃ x', x' = goodValueL x.2 := ⟨_, rfl⟩
      simp only [← hgn] at q1
      simp only [← hgv] at q2
      rw [← hgn, ← hgv] at hfo
      obtain ⟨sx, hsx⟩ : ∃ b : ByteArray, b = ⟨x.1.toArray⟩ := ⟨_, rfl⟩
      obtain ⟨sv, hsv⟩ : ∃ b : ByteArray, b = ⟨x.2.toArray⟩ := ⟨_, rfl⟩
      rw [← hsx] at e0 q1 hl1 hap
      rw [← hsv] at e1 q2 hl2 hap
      have HX := hide hxm
      have HS := hide hsn
      have HFO := hide hfo
      have HAP := hide hap
      clear hsn hx hs1 hs2 hxm hgn hgv hsx hsv hfo hap
      rcases gn with _ | _
      · have hbad : fs.all fldOk = false := by
          rcases hh : fs.all fldOk with _ | _
          · rfl
          · have := List.all_eq_true.1 hh x HX.out
            rw [HFO.out] at this; cases this
        obtain ⟨z1, z2⟩ := print_bad (first := F) hbad
        rw [← HE.out] at z1
        rw [← HB.out] at z2
        subst z1 z2
        clear hbad
        clear hl1 hl2
        go_wp2_with fail
        refine (q1 wr).mono ?_
        rintro e w2 ⟨rfl, rfl⟩
        go_wp2_with fail
        go_ret2
        exact ⟨none, 0, rfl, Rd.nil_, Nat.le_refl _, hb⟩
      rcases gv with _ | _
      · have hbad : fs.all fldOk = false := by
          rcases hh : fs.all fldOk with _ | _
          · rfl
          · have := List.all_eq_true.1 hh x HX.out
            rw [HFO.out] at this; cases this
        obtain ⟨z1, z2⟩ := print_bad (first := F) hbad
        rw [← HE.out] at z1
        rw [← HB.out] at z2
        subst z1 z2
        clear hbad
        clear hl1 hl2
        go_wp2_with fail
        refine (q1 wr).mono ?_
        rintro e w2 ⟨rfl, rfl⟩
        go_wp2_with fail
        refine (q2 wr).mono ?_
        rintro e w2 ⟨rfl, rfl⟩
        go_wp2_with fail
        go_ret2
        exact ⟨none, 0, rfl, Rd.nil_, Nat.le_refl _, hb⟩
      have hsm := fld_small (f := x) (by rw [HFO.out]; rfl)
      have hl1' : sx.size ≤ 1000000 := by omega
      have hl2' : sv.size ≤ 1000000 := by omega
      clear hl1 hl2 hsm
      have y2 : ¬ 9223372036854775807 < sb.size + sx.size := by omega
      have y3 : ¬ 9223372036854775807 < sb.size + sx.size + 2 := by omega
      have y4 : ¬ 9223372036854775807 < sb.size + sx.size + 2 + sv.size := by omega
      have y5 : ¬ 9223372036854775807 < sb.size + sx.size + 2 + sv.size + 2 := by omega
      go_wp2_with fail
      refine (q1 wr).mono ?_
      rintro e w2 ⟨rfl, rfl⟩
      go_wp2_with fail
      refine (q2 wr).mono ?_
      rintro e w2 ⟨rfl, rfl⟩
      go_wp2_with fail
      go_quiet (fail)
      go_wp2
      go_roundw
      case rel =>
        refine ⟨k + 1, _, by omega, by go_num, rfl, ?_, ?_, below_drewN hb⟩
        · rw [HS.out, List.all_append, HA.out]; simp [HFO.out]
        · rw [HAP.out, HSB.out, HS.out, linesB_snoc]; simp
      case measure => simp [intOf]; omega
    · have hLn := HL.out
      have hall : fs.all fldOk = true := by have := HA.out; rwa [List.take_of_length_le (by omega)] at this
      have hlst : (sb ++ ⟨#[13, 10]⟩ : ByteArray).data.toList = headB F fs := by
        rw [app_list, HSB.out, List.take_of_length_le (by omega)]
        rfl
      have y2 : ¬ 9223372036854775807 < sb.size + 2 := by omega
      by_cases hbig : 16384 < (headB F fs).length
      · obtain ⟨z1, z2⟩ := print_long (first := F) (by rw [HL.out]; omega) hall hbig
        rw [← HE.out] at z1
        rw [← HB.out] at z2
        subst z1 z2
        have i2 : (16384 : Int) < ((sb.size + 2 : Nat) : Int) := by
          have : (headB F fs).length = sb.size + 2 := by rw [← hlst, ← size_of, ByteArray.size_append]; rfl
          omega
        clear hall hlst hbig
        go_wp2_with fail
        go_ret2
        exact ⟨none, 0, rfl, Rd.nil_, Nat.le_refl _, hb⟩
      · obtain ⟨z1, z2⟩ := print_ok (first := F) (by rw [HL.out]; omega) hall hbig
        rw [← HE.out] at z1
        rw [← HB.out] at z2
        have hln : (headB F fs).length = sb.size + 2 := by rw [← hlst, ← size_of, ByteArray.size_append]; rfl
        have i2 : ¬ (16384 : Int) < ((sb.size + 2 : Nat) : Int) := by omega
        obtain ⟨A1, c1, w5, hcv, r5, hc5, b5⟩ := conv_bytes' wr (sb ++ ⟨#[13, 10]⟩) (by rw [ByteArray.size_append]; change sb.size + 2 ≤ _; omega)
        rw [hlst] at r5
        have hz5 : (sb ++ ⟨#[13, 10]⟩ : ByteArray).size = (headB F fs).length := by rw [← hlst, ← size_of]
        rw [hz5, hln] at r5 hcv hc5
        subst z1 z2
        have t5 := hb.trans (b5.mono hbz)
        clear hall hlst hbig
        have hcap : sb.size + 2 ≤ c1 := hc5
        go_wp2_with fail
        go_ret2
        exact ⟨some A1, c1, rfl, r5, hcap, t5⟩
set_option maxRecDepth 100000 in
set_option maxHeartbeats 3200000 in
theorem refprintreqG_any (m t : ByteArray) (minor : Int) (A : Option Addr) (n c B : Nat) (fs : List (List UInt8 × List UInt8)) (w : World) (h : Rd w B 2 A n (fcells fs)) (hB : B ≤ w.heap.size) (hok : ∀ f ∈ fs, f.1.length ≤ 9223372036854775807 ∧ f.2.length ≤ 9223372036854775807) (hms : m.size ≤ 9223372036854775807) (hts : t.size ≤ 9223372036854775807) :
    Calls Tryz.prog 7 #[.agg #[.string m, .string t, .int .i64 minor, .slice A n c]] w fun e w' => ∃ A' c', e = .returned (.tuple #[.slice A' (preqB m.data.toList t.data.toList minor fs).length c', .int .i64 (preqE m.data.toList t.data.toList minor fs)]) ∧
      Rd w' w'.heap.size 1 A' (preqB m.data.toList t.data.toList minor fs).length (bcells (preqB m.data.toList t.data.toList minor fs)) ∧ (preqB m.data.toList t.data.toList minor fs).length ≤ c' ∧ Below w.heap.size w w' := by
  have q1 := fun w => refname_any m w (by omega)
  have q2 := fun w => reftargetG_any t w (by omega)
  have bx := Box.new w #[.string m, .string t, .int .i64 minor, .slice A n c] 31
  have ta : Below w.heap.size w (w.alloc (.cells #[.string m, .string t, .int .i64 minor, .slice A n c] 31)) := (Below.refl _ _).alloc (Nat.le_refl _) _
  obtain ⟨k0, k1, k2, k3⟩ := Box.four bx
  have gz : w.heap.size < (w.alloc (.cells #[.string m, .string t, .int .i64 minor, .slice A n c] 31)).heap.size := by simp
  unfold preqE preqB reqGood
  obtain ⟨gn, hgn⟩ : ∃ x, x = goodNameL m.data.toList := ⟨_, rfl⟩
  obtain ⟨gt, hgt⟩ : ∃ x, x = targetL t.data.toList := ⟨_, rfl⟩
  simp only [← hgn] at q1 ⊢
  simp only [← hgt] at q2 ⊢
  have endBad : ∀ W, Below w.heap.size w W → ∃ A' c', Ending.returned (.tuple #[.slice none 0 0, .int .i64 2]) = Ending.returned (.tuple #[.slice A' ([] : List UInt8).length c', .int .i64 2]) ∧ Rd W W.heap.size 1 A' ([] : List UInt8).length (bcells []) ∧ ([] : List UInt8).length ≤ c' ∧ Below w.heap.size w W := fun W b =>
    ⟨none, 0, rfl, Rd.nil_, Nat.le_refl _, b⟩
  have hm256 : gn = true → m.size ≤ 256 := fun h => by
    rw [hgn] at h
    unfold goodNameL at h
    simp only [Bool.and_eq_true, decide_eq_true_eq] at h
    rw [size_of]; exact h.2
  have ht2048 : gt = true → t.size ≤ 2048 := fun h => by
    rw [hgt] at h
    unfold targetL at h
    simp only [Bool.and_eq_true, decide_eq_true_eq] at h
    rw [size_of]; exact h.2.2
  clear bx hgn hgt
  by_cases hg : gn = true ∧ gt = true ∧ 0 ≤ minor ∧ minor ≤ 1
  · obtain ⟨rfl, rfl, h0, h1⟩ := hg
    obtain ⟨mi, rfl⟩ : ∃ k : Nat, minor = k := ⟨minor.toNat, by omega⟩
    have hm01 : mi < 2 := by omega
    rw [Int.toNat_natCast]
    have hif : (true && (true && decide (0 ≤ (mi : Int) ∧ (mi : Int) ≤ 1))) = true := by simp; omega
    rw [hif]
    have q3 := fun w => dec_any mi (by omega) w
    simp only [udig_dec] at q3
    obtain ⟨D, hD⟩ : ∃ D : ByteArray, D = ⟨(Lib.decDigits mi).toArray⟩ := ⟨_, rfl⟩
    simp only [← hD] at q3
    have hDs : D.size = 1 := by rw [hD, mk_size, dec2 mi (by omega)]
    have hfl : (m ++ ⟨#[32]⟩ ++ t ++ ⟨#[32, 72, 84, 84, 80, 47, 49, 46]⟩ ++ D : ByteArray).data.toList = reqFirst m.data.toList t.data.toList mi := by
      rw [app_list, app_list, app_list, app_list, hD]
      show _ ++ [32, 72, 84, 84, 80, 47, 49, 46] ++ _ = _
      unfold reqFirst verL
      simp
    have hfs : (m ++ ⟨#[32]⟩ ++ t ++ ⟨#[32, 72, 84, 84, 80, 47, 49, 46]⟩ ++ D : ByteArray).size ≤ 1000000 := by
      rw [ByteArray.size_append, ByteArray.size_append, ByteArray.size_append, ByteArray.size_append, hDs]
      have := hm256 rfl
      have := ht2048 rfl
      change m.size + 1 + t.size + 8 + 1 ≤ _
      omega
    have q4 := fun (W : World) (r : Rd W B 2 A n (fcells fs)) (b : B ≤ W.heap.size) => refprintedG_any _ A n c B fs W r b hok hfs
    rw [hfl] at q4
    obtain ⟨PE, hPE⟩ : ∃ x, x = printE (reqFirst m.data.toList t.data.toList mi) fs := ⟨_, rfl⟩
    obtain ⟨PB, hPB⟩ : ∃ x, x = printB (reqFirst m.data.toList t.data.toList mi) fs := ⟨_, rfl⟩
    simp only [← hPE, ← hPB] at q4
    rw [if_pos rfl, if_pos rfl, ← hPE, ← hPB]
    clear hfl hfs hD hPE hPB hif endBad hok
    have hr0 := h.below (ta.mono hB)
    have i0 : ¬ (mi : Int) < 0 := by omega
    have i1 : ¬ 1 < (mi : Int) := by omega
    have hm1 := hm256 rfl
    have ht1 := ht2048 rfl
    go_enter Tryz.func7, Tryz.ntmps7
    go_upto_region 1 with (fail)
    generalize w.alloc _ = w0 at k0 k1 k2 k3 gz ta hr0 ⊢
    have hB0 := Nat.le_trans hB ta.size
    go_wp2_with fail
    refine (q1 w0).mono ?_
    rintro e w1 ⟨rfl, rfl⟩
    go_wp2_with fail
    refine (q2 w0).mono ?_
    rintro e w1 ⟨rfl, rfl⟩
    go_upto_region 3 with (fail)
    clear q1 q2
    have q6 := q3 w0.drew
    have q5 := fun (W : World) (b : Below w0.drew.heap.size w0.drew W) => q4 W (hr0.below ((below_drewN (k := 1) (Below.refl _ w0)).trans (b.mono hB0))) (Nat.le_trans hB0 b.size)
    clear q3
    have y1 : ¬ 9223372036854775807 < m.size + 1 := by omega
    have y2 : ¬ 9223372036854775807 < m.size + 1 + t.size := by omega
    have y3 : ¬ 9223372036854775807 < m.size + 1 + t.size + 8 := by omega
    have y4 : ¬ 9223372036854775807 < m.size + 1 + t.size + 8 + D.size := by omega
    clear hDs hm1 ht1
    go_region_held3 (fun w' => w'.cell? ⟨w.heap.size, 0, none⟩ = some (.string m) ∧ w'.cell? ⟨w.heap.size, 1, none⟩ = some (.string t) ∧ w'.cell? ⟨w.heap.size, 2, none⟩ = some (.int .i64 mi) ∧ w'.cell? ⟨w.heap.size, 3, none⟩ = some (.slice A n c) ∧ Below w.heap.size w w')
      (first
        | exact ⟨k0, k1, k2, k3, below_drewN (k := 1) ta⟩
        | exact ⟨cell_keep' (w := w0.drew) k0 (k13.trans (k12.mono k13.size)), cell_keep' (w := w0.drew) k1 (k13.trans (k12.mono k13.size)), cell_keep' (w := w0.drew) k2 (k13.trans (k12.mono k13.size)), cell_keep' (w := w0.drew) k3 (k13.trans (k12.mono k13.size)), (below_drewN (k := 1) ta).trans ((k13.trans (k12.mono k13.size)).mono ta.size)⟩
        | exact ⟨cell_keep' (w := w0.drew) k0 (k13), cell_keep' (w := w0.drew) k1 (k13), cell_keep' (w := w0.drew) k2 (k13), cell_keep' (w := w0.drew) k3 (k13), (below_drewN (k := 1) ta).trans ((k13).mono ta.size)⟩
        | assumption)
      (first
        | (go_at_call 30; refine q6.mono ?_; rintro e w13 ⟨rfl, k13⟩)
        | (go_at_call 29; refine (q5 w13 k13).mono ?_; rintro e w12 ⟨A', c', rfl, r12, l12, k12⟩))
    all_goals
      go_wp2_with fail
      go_ret2
      exact ⟨A', c', rfl, r12, l12, (below_drewN (k := 1) ta).trans ((k13.trans (k12.mono k13.size)).mono ta.size)⟩
  · have hif : (gn && (gt && decide (0 ≤ minor ∧ minor ≤ 1))) = false := by
      rcases hx : (gn && (gt && decide (0 ≤ minor ∧ minor ≤ 1))) with _ | _
      · rfl
      · simp at hx; exact absurd hx hg
    rw [hif]
    change Calls _ _ _ w (fun e w' => ∃ A' c', e = .returned (.tuple #[.slice A' ([] : List UInt8).length c', .int .i64 2]) ∧ Rd w' w'.heap.size 1 A' ([] : List UInt8).length (bcells []) ∧ ([] : List UInt8).length ≤ c' ∧ Below w.heap.size w w')
    clear hif hm256 ht2048 h
    rcases gn with _ | _
    · clear hg
      go_enter Tryz.func7, Tryz.ntmps7
      go_upto_region 1 with (fail)
      generalize w.alloc _ = w0 at k0 k1 k2 k3 gz ta ⊢
      go_wp2_with fail
      refine (q1 w0).mono ?_
      rintro e w1 ⟨rfl, rfl⟩
      go_wp2_with fail
      go_ret2
      exact endBad _ ta
    · rcases gt with _ | _
      · clear hg
        go_enter Tryz.func7, Tryz.ntmps7
        go_upto_region 1 with (fail)
        generalize w.alloc _ = w0 at k0 k1 k2 k3 gz ta ⊢
        go_wp2_with fail
        refine (q1 w0).mono ?_
        rintro e w1 ⟨rfl, rfl⟩
        go_wp2_with fail
        refine (q2 w0).mono ?_
        rintro e w1 ⟨rfl, rfl⟩
        go_wp2_with fail
        go_ret2
        exact endBad _ ta
      · by_cases h0 : minor < 0
        · clear hg
          go_enter Tryz.func7, Tryz.ntmps7
          go_upto_region 1 with (fail)
          generalize w.alloc _ = w0 at k0 k1 k2 k3 gz ta ⊢
          go_wp2_with fail
          refine (q1 w0).mono ?_
          rintro e w1 ⟨rfl, rfl⟩
          go_wp2_with fail
          refine (q2 w0).mono ?_
          rintro e w1 ⟨rfl, rfl⟩
          go_wp2_with fail
          go_ret2
          exact endBad _ ta
        · have h1 : 1 < minor := by
            rcases Int.lt_or_le 1 minor with h | h
            · exact h
            · exact absurd ⟨rfl, rfl, by omega, h⟩ hg
          clear hg
          go_enter Tryz.func7, Tryz.ntmps7
          go_upto_region 1 with (fail)
          generalize w.alloc _ = w0 at k0 k1 k2 k3 gz ta ⊢
          go_wp2_with fail
          refine (q1 w0).mono ?_
          rintro e w1 ⟨rfl, rfl⟩
          go_wp2_with fail
          refine (q2 w0).mono ?_
          rintro e w1 ⟨rfl, rfl⟩
          go_wp2_with fail
          go_ret2
          exact endBad _ ta
end Go.Proofs.YtfifoimnebbflaaGreatDoor
