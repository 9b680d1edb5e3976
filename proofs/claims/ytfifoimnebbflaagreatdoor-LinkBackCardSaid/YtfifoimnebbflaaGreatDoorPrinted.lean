/- head.printed: a head's bytes, by way of bytes.Buffer. -/
import Derived.Test.YtfifoimnebbflaaGreatDoorPrintsSpec
import Derived.Test.YtfifoimnebbflaaGreatDoorShelf4
import Derived.Test.YtfifoimnebbflaaGreatDoorHeadAns
import Derived.Lib.BufferOld
import Derived.Lib.BufferKept
namespace Go.Proofs.YtfifoimnebbflaaGreatDoor
open Go.RowKit

theorem byteCells_eq (l : List UInt8) : Lib.byteCells l = bcells l := rfl
theorem own_shape0 {w : World} {base e size n : Nat} {v : Value} {xs : List Value} (h : w.ownsRow base e size v n xs) : ∃ A c, v = .slice A n c ∧ n ≤ c ∧ (A = none → c = 0) := by
  rcases h.2 with ⟨rfl, rfl⟩ | ⟨g, cap, cur, rfl, h0, _, h1, h2, _⟩
  · exact ⟨none, 0, rfl, Nat.le_refl _, fun _ => rfl⟩
  · exact ⟨_, cap, rfl, h1, fun h => by cases h⟩
set_option maxRecDepth 100000 in
set_option maxHeartbeats 3200000 in
theorem printed_any (first : ByteArray) (A : Option Addr) (n c B : Nat) (fs : List (List UInt8 × List UInt8)) (w : World) (h : Rd w B 2 A n (fcells fs)) (hB : B ≤ w.heap.size) (hn : n ≤ 1000) (hok : fsOk fs) (hf : first.size ≤ 1000000) :
    Calls Tryz.prog 44 #[.string first, .slice A n c] w fun e w' => ∃ A' c', e = .returned (.tuple #[.slice A' (printB first.data.toList fs).length c', .int .i64 (printE first.data.toList fs)]) ∧
      Rd w' w'.heap.size 1 A' (printB first.data.toList fs).length (bcells (printB first.data.toList fs)) ∧ (printB first.data.toList fs).length ≤ c' ∧ (A' = none → c' = 0) ∧ Below w.heap.size w w' := by
  have hlen := h.flen
  by_cases h64 : 64 < n
  · obtain ⟨e1, e2⟩ := print_many (first := first.data.toList) (show 64 < fs.length by omega)
    rw [e1, e2]
    have i1 : (64 : Int) < (n : Int) := by omega
    clear e1 e2 hlen
    go_enter Tryz.func44, Tryz.ntmps44
    go_wp2_with fail
    go_ret2
    exact ⟨none, 0, rfl, Rd.nil_, Nat.le_refl _, fun _ => rfl, Below.refl _ _⟩
  have i1 : ¬ (64 : Int) < (n : Int) := by omega
  have hfr := Lib.fresh_isBuffer 94 5 w
  have q0 := Tryz.Buffer_WriteString_k w.heap.size w.heap.size [] (first ++ ⟨#[13, 10]⟩) _ hfr (by simp) (by simp) (by rw [ByteArray.size_append]; change 0 + (first.size + 2) ≤ _; omega)
  have hfl : (first ++ ⟨#[13, 10]⟩ : ByteArray).data.toList = first.data.toList ++ crlfL := by rw [app_list]; rfl
  rw [hfl, List.nil_append, byteCells_eq] at q0
  have hfsz : first.data.toList.length ≤ 1000000 := by rw [← size_of]; exact hf
  obtain ⟨F, hF⟩ : ∃ F, F = first.data.toList := ⟨_, rfl⟩
  rw [← hF] at q0 hfsz ⊢
  obtain ⟨rE, hrE⟩ : ∃ x, x = printE F fs := ⟨_, rfl⟩
  obtain ⟨rB, hrB⟩ : ∃ x, x = printB F fs := ⟨_, rfl⟩
  rw [← hrE, ← hrB]
  have HE := hide hrE
  have HB := hide hrB
  clear hfl hF hrE hrB
  have HL := hide hlen
  have hle : n ≤ fs.length := by omega
  have HOK := hide hok
  clear hlen hok
  have ta : Below w.heap.size w (w.alloc (.cells #[.slice none 0 0, .int .i64 0, .int .i8 0] 94)) := (Below.refl _ _).alloc (Nat.le_refl _) _
  go_enter Tryz.func44, Tryz.ntmps44
  go_wp2_with fail
  refine q0.mono ?_
  rintro e w1 ⟨rfl, hI, b1, -⟩
  have t1 := ta.trans b1
  clear q0 hfr b1 ta
  go_wp2_with fail
  go_loopw [17] (fun i wr => ∃ k : Nat, k ≤ n ∧ i = .int .i64 k ∧ (fs.take k).all fldOk = true ∧ Lib.IsBuffer 94 5 w.heap.size w.heap.size (bcells (F ++ crlfL ++ linesB (fs.take k))) wr ∧ Below w.heap.size w wr) (fun i _ => n - (intOf i).toNat)
  case atStart => exact ⟨0, Nat.zero_le _, rfl, rfl, by simpa [linesB] using hI, t1⟩
  case round =>
    obtain ⟨k, hk, rfl, ha, hI, hb⟩ := hrel
    have HA := hide ha
    have hbz := hb.size
    have hlb : (F ++ crlfL ++ linesB (fs.take k)).length ≤ 3000000000 := by
      have h1 := linesB_len (fs.take k) 1000 (fun f hf => HOK.out f (List.mem_of_mem_take hf)) (by rw [List.length_take]; omega)
      simp [crlfL]; omega
    clear ha
    by_cases hlt : k < n
    · have hkl : k < fs.length := by omega
      obtain ⟨b, off, rfl, hbB, e0, e1⟩ := (h.below (hb.mono hB)).fld hlt hkl
      have hsn := list_take_snoc fs k hkl
      obtain ⟨hs1, hs2⟩ := HOK.out fs[k] (List.getElem_mem hkl)
      have hxm : fs[k] ∈ fs := List.getElem_mem hkl
      obtain ⟨x, hx⟩ : ∃ x, x = fs[k] := ⟨_, rfl⟩
      rw [← hx] at e0 e1 hsn hs1 hs2 hxm
      have q1 := fun w => goodName_any ⟨x.1.toArray⟩ w (by rw [mk_size]; omega)
      have q2 := fun w => goodValue_any ⟨x.2.toArray⟩ w (by rw [mk_size]; omega)
      have hfo : fldOk x = (goodNameL x.1 && goodValueL x.2) := rfl
      have hl1 : (⟨x.1.toArray⟩ : ByteArray).size ≤ 1000000 := by rw [mk_size]; exact hs1
      have hl2 : (⟨x.2.toArray⟩ : ByteArray).size ≤ 1000000 := by rw [mk_size]; exact hs2
      have hap : ((⟨x.1.toArray⟩ : ByteArray) ++ ⟨#[58, 32]⟩ ++ ⟨x.2.toArray⟩ ++ ⟨#[13, 10]⟩).data.toList = fldLn x := by rw [app_list, app_list, app_list]; rfl
      change ∀ w, Calls _ _ _ w (fun e w' => e = .returned (.bool (goodNameL x.1)) ∧ w = w') at q1
      change ∀ w, Calls _ _ _ w (fun e w' => e = .returned (.bool (goodValueL x.2)) ∧ Below w.heap.size w w') at q2
      obtain ⟨gn, hgn⟩ : ∃ x', x' = goodNameL x.1 := ⟨_, rfl⟩
      obtain ⟨gv, hgv⟩ : ∃ x', x' = goodValueL x.2 := ⟨_, rfl⟩
      simp only [← hgn] at q1
      simp only [← hgv] at q2
      rw [← hgn, ← hgv] at hfo
      obtain ⟨sx, hsx⟩ : ∃ b : ByteArray, b = ⟨x.1.toArray⟩ := ⟨_, rfl⟩
      obtain ⟨sv, hsv⟩ : ∃ b : ByteArray, b = ⟨x.2.toArray⟩ := ⟨_, rfl⟩
      rw [← hsx] at e0 q1 hl1 hap
      rw [← hsv] at e1 q2 hl2 hap
      have HX := hide hxm
      have HS := hide hsn
      have HFO := hide hfo
      have HAP := hide hap
      clear hsn hx hs1 hs2 hxm hgn hgv hsx hsv hfo hap
      have c0 := cell_of_row (wr.alloc (.cells #[.string sx, .string sv] 68)) wr.heap.size 0 #[.string sx, .string sv] 68 (0, 0) (heap_alloc_new wr _)
      have c1 := cell_of_row (wr.alloc (.cells #[.string sx, .string sv] 68)) wr.heap.size 1 #[.string sx, .string sv] 68 (0, 0) (heap_alloc_new wr _)
      have hIb := hI.alloc (.cells #[.string sx, .string sv] 68)
      have bb : Below w.heap.size w (wr.alloc (.cells #[.string sx, .string sv] 68)) := hb.alloc hbz _
      have gz : wr.heap.size < (wr.alloc (.cells #[.string sx, .string sv] 68)).heap.size := by simp
      go_upto_region 8 with (fail)
      generalize wr.alloc _ = wb at c0 c1 hIb bb gz ⊢
      generalize wr.heap.size = g at c0 c1 gz ⊢
      simp at c0 c1
      clear hI hb hbz e0 e1
      rcases gn with _ | _
      · have hbad : fs.all fldOk = false := by
          rcases hh : fs.all fldOk with _ | _
          · rfl
          · have := List.all_eq_true.1 hh x HX.out
            rw [HFO.out] at this; cases this
        obtain ⟨z1, z2⟩ := print_bad (first := F) hbad
        rw [← HE.out] at z1
        rw [← HB.out] at z2
        subst z1 z2
        clear hbad
        go_wp2_with fail
        refine (q1 wb).mono ?_
        rintro e w2 ⟨rfl, rfl⟩
        go_wp2_with fail
        go_ret2
        exact ⟨none, 0, rfl, Rd.nil_, Nat.le_refl _, fun _ => rfl, bb⟩
      rcases gv with _ | _
      · have hbad : fs.all fldOk = false := by
          rcases hh : fs.all fldOk with _ | _
          · rfl
          · have := List.all_eq_true.1 hh x HX.out
            rw [HFO.out] at this; cases this
        obtain ⟨z1, z2⟩ := print_bad (first := F) hbad
        rw [← HE.out] at z1
        rw [← HB.out] at z2
        subst z1 z2
        clear hbad
        go_wp2_with fail
        refine (q1 wb).mono ?_
        rintro e w2 ⟨rfl, rfl⟩
        go_wp2_with fail
        refine (q2 wb).mono ?_
        rintro e w2 ⟨rfl, b2⟩
        go_wp2_with fail
        go_ret2
        exact ⟨none, 0, rfl, Rd.nil_, Nat.le_refl _, fun _ => rfl, bb.trans (b2.mono bb.size)⟩
      go_wp2_with fail
      refine (q1 wb).mono ?_
      rintro e w2 ⟨rfl, rfl⟩
      go_wp2_with fail
      refine (q2 wb).mono ?_
      rintro e w2 ⟨rfl, b2⟩
      have d0 := (b2.cell (p := ⟨g, 0, none⟩) gz).trans c0
      have d1 := (b2.cell (p := ⟨g, 1, none⟩) gz).trans c1
      have hI2 := Lib.IsBuffer.old hIb b2
      have t2 := bb.trans (b2.mono bb.size)
      have q3 := Tryz.Buffer_WriteString_k w.heap.size w.heap.size _ (sx ++ ⟨#[58, 32]⟩ ++ sv ++ ⟨#[13, 10]⟩) w2 hI2 t2.size (bcells_one _) (by
        rw [ByteArray.size_append, ByteArray.size_append, ByteArray.size_append, bcells_length]
        change _ + (sx.size + 2 + sv.size + 2) ≤ _
        omega)
      rw [HAP.out, byteCells_eq, bcells_append] at q3
      clear q1 q2 b2 c0 c1 hIb bb hI2
      go_wp2_with fail
      refine q3.mono ?_
      rintro e w3 ⟨rfl, hI3, b3, -⟩
      clear q3 d0 d1
      go_wp2_with fail
      go_roundw
      case rel =>
        refine ⟨k + 1, by omega, by go_num, by rw [HS.out, List.all_append, HA.out]; simp [HFO.out], ?_, t2.trans b3⟩
        rw [HS.out, linesB_snoc, ← List.append_assoc]
        exact hI3
      case measure => simp [intOf]; omega
    · have hkn : k = n := by omega
      subst hkn
      have htk : fs.take k = fs := List.take_of_length_le (by rw [HL.out]; exact Nat.le_refl _)
      have hall : fs.all fldOk = true := by rw [← htk]; exact HA.out
      rw [htk] at hI hlb
      have h64' : ¬ 64 < fs.length := by rw [HL.out]; omega
      have HZ1 := hide (fun h => print_long (first := F) h64' hall h)
      have HZ2 := hide (fun h => print_ok (first := F) h64' hall h)
      have q4 := Tryz.Buffer_WriteString_k w.heap.size w.heap.size _ ⟨#[13, 10]⟩ wr hI hbz (bcells_one _) (by rw [bcells_length]; change _ + 2 ≤ _; omega)
      rw [show (⟨#[13, 10]⟩ : ByteArray).data.toList = crlfL from rfl, byteCells_eq, bcells_append] at q4
      change Calls _ _ _ wr (fun e w' => e = .returned _ ∧ Lib.IsBuffer _ _ _ _ (bcells (headB F fs)) w' ∧ Below w.heap.size wr w' ∧ _) at q4
      obtain ⟨H, hH⟩ : ∃ H, H = headB F fs := ⟨_, rfl⟩
      rw [← hH] at q4
      simp only [← hH] at HZ1 HZ2
      clear hlb hall h64' hH htk
      go_wp2_with fail
      refine q4.mono ?_
      rintro e w2 ⟨rfl, hI2, b2, -⟩
      have t2 := hb.trans b2
      have q5 := Tryz.Buffer_Len w.heap.size w.heap.size _ w2 hI2
      rw [bcells_length] at q5
      clear q4 b2 hb
      go_wp2_with fail
      refine q5.mono ?_
      rintro e w3 ⟨rfl, j, hw3⟩
      rw [hw3]
      have q6 := Tryz.Buffer_Bytes w.heap.size w.heap.size _ (w2.drewN j) (Lib.IsBuffer.drewN hI2 j)
      rw [bcells_length] at q6
      by_cases hlong : 16384 < H.length
      · obtain ⟨z1, z2⟩ := HZ1.out hlong
        rw [← HE.out] at z1
        rw [← HB.out] at z2
        have i2 : (16384 : Int) < (H.length : Int) := by omega
        subst z1 z2
        clear hw3 q6
        go_wp2_with fail
        go_ret2
        exact ⟨none, 0, rfl, Rd.nil_, Nat.le_refl _, fun _ => rfl, below_drewN t2⟩
      · obtain ⟨z1, z2⟩ := HZ2.out hlong
        rw [← HE.out] at z1
        rw [← HB.out] at z2
        have i2 : ¬ (16384 : Int) < (H.length : Int) := by omega
        subst z1 z2
        clear hw3
        go_wp2_with fail
        refine q6.mono ?_
        rintro e w4 ⟨v, rfl, ho, j2, hw4⟩
        rw [hw4] at ho ⊢
        obtain ⟨A4, c4, rfl, hnc4, hA4⟩ := own_shape0 ho
        go_wp2_with fail
        go_ret2
        exact ⟨A4, c4, rfl, Rd.of_own ho, hnc4, hA4, below_drewN t2⟩
end Go.Proofs.YtfifoimnebbflaaGreatDoor
