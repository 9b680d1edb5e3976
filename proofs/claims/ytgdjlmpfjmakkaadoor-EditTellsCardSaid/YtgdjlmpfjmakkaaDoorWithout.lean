/- edit.hops, stays, without and with. -/
import Derived.Test.YtgdjlmpfjmakkaaDoorEditSpec
import Derived.Test.YtgdjlmpfjmakkaaDoorItems
namespace Go.Proofs.YtgdjlmpfjmakkaaDoor
open Go.RowKit

theorem hops_any (w : World) : Calls Tryd.prog 83 #[] w fun e w' => ∃ A' c', e = .returned (.slice A' 7 c') ∧ Ow w' w.heap.size 1 (.slice A' 7 c') 7 (scells hopC) ∧ 7 ≤ c' ∧ Below w.heap.size w w' := by
  have ho := own_new w #[.string ⟨#[67, 111, 110, 110, 101, 99, 116, 105, 111, 110]⟩, .string ⟨#[75, 101, 101, 112, 45, 65, 108, 105, 118, 101]⟩, .string ⟨#[80, 114, 111, 120, 121, 45, 67, 111, 110, 110, 101, 99, 116, 105, 111, 110]⟩, .string ⟨#[84, 69]⟩, .string ⟨#[84, 114, 97, 105, 108, 101, 114]⟩, .string ⟨#[84, 114, 97, 110, 115, 102, 101, 114, 45, 69, 110, 99, 111, 100, 105, 110, 103]⟩, .string ⟨#[85, 112, 103, 114, 97, 100, 101]⟩] 9 1 7 rfl (by unfold maxLen; omega) w.heap.size (Nat.le_refl _)
  go_enter Tryd.func83, Tryd.ntmps83
  go_wp2
  go_ret
  exact ⟨_, _, rfl, Ow.of_row ho, Nat.le_refl _, (Below.refl _ _).alloc (Nat.le_refl _) _⟩

def stayC : List (List UInt8) := [[67, 111, 110, 116, 101, 110, 116, 45, 76, 101, 110, 103, 116, 104], [67, 111, 110, 116, 101, 110, 116, 45, 69, 110, 99, 111, 100, 105, 110, 103], [72, 111, 115, 116], [86, 97, 114, 121], [69, 84, 97, 103]]
theorem stays_C (n : List UInt8) : staysB n = stayC.any fun s => sameL s n := by
  have h : stayL = stayC.map lowL := by decide
  unfold staysB
  rw [h, List.any_map]
  refine congrArg (fun f => stayC.any f) (funext fun s => ?_)
  show sameL (lowL s) n = sameL s n
  unfold sameL; rw [lowL_idem]
theorem pick5_0 (a b c d e : ByteArray) (w : World) : (Instr.index 113 (.agg #[.string a, .string b, .string c, .string d, .string e]) (.int .i64 0)).run Tryd.prog w = .ok (.string a) w := by kernel_rfl
theorem pick5_1 (a b c d e : ByteArray) (w : World) : (Instr.index 113 (.agg #[.string a, .string b, .string c, .string d, .string e]) (.int .i64 1)).run Tryd.prog w = .ok (.string b) w := by kernel_rfl
theorem pick5_2 (a b c d e : ByteArray) (w : World) : (Instr.index 113 (.agg #[.string a, .string b, .string c, .string d, .string e]) (.int .i64 2)).run Tryd.prog w = .ok (.string c) w := by kernel_rfl
theorem pick5_3 (a b c d e : ByteArray) (w : World) : (Instr.index 113 (.agg #[.string a, .string b, .string c, .string d, .string e]) (.int .i64 3)).run Tryd.prog w = .ok (.string d) w := by kernel_rfl
theorem pick5_4 (a b c d e : ByteArray) (w : World) : (Instr.index 113 (.agg #[.string a, .string b, .string c, .string d, .string e]) (.int .i64 4)).run Tryd.prog w = .ok (.string e) w := by kernel_rfl
def stayB : Nat → ByteArray
  | 0 => ⟨#[67, 111, 110, 116, 101, 110, 116, 45, 76, 101, 110, 103, 116, 104]⟩
  | 1 => ⟨#[67, 111, 110, 116, 101, 110, 116, 45, 69, 110, 99, 111, 100, 105, 110, 103]⟩
  | 2 => ⟨#[72, 111, 115, 116]⟩
  | 3 => ⟨#[86, 97, 114, 121]⟩
  | _ => ⟨#[69, 84, 97, 103]⟩
set_option maxRecDepth 100000 in
set_option maxHeartbeats 3200000 in
theorem stays_any (name : ByteArray) (w : World) (hn : name.size ≤ 1000000) :
    Calls Tryd.prog 84 #[.string name] w fun e w' => e = .returned (.bool (staysB name.data.toList)) ∧ Below w.heap.size w w' := by
  have hp0 := pick5_0 (stayB 0) (stayB 1) (stayB 2) (stayB 3) (stayB 4)
  have hp1 := pick5_1 (stayB 0) (stayB 1) (stayB 2) (stayB 3) (stayB 4)
  have hp2 := pick5_2 (stayB 0) (stayB 1) (stayB 2) (stayB 3) (stayB 4)
  have hp3 := pick5_3 (stayB 0) (stayB 1) (stayB 2) (stayB 3) (stayB 4)
  have hp4 := pick5_4 (stayB 0) (stayB 1) (stayB 2) (stayB 3) (stayB 4)
  simp only [stayB] at hp0 hp1 hp2 hp3 hp4
  have hs0 := fun w => fieldsame_any (stayB 0) name w (by decide) (by omega)
  have hs1 := fun w => fieldsame_any (stayB 1) name w (by decide) (by omega)
  have hs2 := fun w => fieldsame_any (stayB 2) name w (by decide) (by omega)
  have hs3 := fun w => fieldsame_any (stayB 3) name w (by decide) (by omega)
  have hs4 := fun w => fieldsame_any (stayB 4) name w (by decide) (by omega)
  obtain ⟨r, hr⟩ : ∃ r, r = staysB name.data.toList := ⟨_, rfl⟩
  have hr2 : r = (sameL (stayB 0).data.toList name.data.toList || (sameL (stayB 1).data.toList name.data.toList || (sameL (stayB 2).data.toList name.data.toList || (sameL (stayB 3).data.toList name.data.toList || (sameL (stayB 4).data.toList name.data.toList || false))))) := by rw [hr, stays_C]; rfl
  rw [← hr]
  obtain ⟨x0, h0⟩ : ∃ x, x = sameL (stayB 0).data.toList name.data.toList := ⟨_, rfl⟩
  obtain ⟨x1, h1⟩ : ∃ x, x = sameL (stayB 1).data.toList name.data.toList := ⟨_, rfl⟩
  obtain ⟨x2, h2⟩ : ∃ x, x = sameL (stayB 2).data.toList name.data.toList := ⟨_, rfl⟩
  obtain ⟨x3, h3⟩ : ∃ x, x = sameL (stayB 3).data.toList name.data.toList := ⟨_, rfl⟩
  obtain ⟨x4, h4⟩ : ∃ x, x = sameL (stayB 4).data.toList name.data.toList := ⟨_, rfl⟩
  rw [← h0, ← h1, ← h2, ← h3, ← h4] at hr2
  simp only [← h0, ← h1, ← h2, ← h3, ← h4] at hs0 hs1 hs2 hs3 hs4
  simp only [stayB] at hs0 hs1 hs2 hs3 hs4
  have HR := hide hr2
  clear hr hr2 h0 h1 h2 h3 h4
  go_enter Tryd.func84, Tryd.ntmps84
  go_wp2_with fail
  go_loopw [6] (fun i wr => ∃ t : Nat, t ≤ 5 ∧ i = .int .i64 t ∧ Hid ((1 ≤ t → x0 = false) ∧ (2 ≤ t → x1 = false) ∧ (3 ≤ t → x2 = false) ∧ (4 ≤ t → x3 = false) ∧ (5 ≤ t → x4 = false)) ∧ Below w.heap.size w wr) (fun i _ => 5 - (intOf i).toNat)
  case atStart => exact ⟨0, by omega, rfl, hide ⟨by omega, by omega, by omega, by omega, by omega⟩, Below.refl _ _⟩
  case round =>
    obtain ⟨t, ht, rfl, HT, hb⟩ := hrel
    have hcase : t = 0 ∨ t = 1 ∨ t = 2 ∨ t = 3 ∨ t = 4 ∨ t = 5 := by omega
    rcases hcase with rfl | rfl | rfl | rfl | rfl | rfl
    · go_wp2_with fail
      refine (hs0 wr).mono ?_
      rintro e w2 ⟨rfl, b2⟩
      have t2 := hb.trans (b2.mono hb.size)
      rcases hx : x0 with _ | _
      · have HX := hide hx
        clear hx
        go_wp2
        go_roundw
        case rel => exact ⟨1, by omega, rfl, hide ⟨fun _ => HX.out, fun h => by omega, fun h => by omega, fun h => by omega, fun h => by omega⟩, t2⟩
        case measure => simp [intOf]
      · have HX := hide hx
        clear hx
        go_wp2
        go_ret
        exact ⟨by rw [HR.out, HX.out]; rfl, t2⟩
    · go_wp2_with fail
      refine (hs1 wr).mono ?_
      rintro e w2 ⟨rfl, b2⟩
      have t2 := hb.trans (b2.mono hb.size)
      rcases hx : x1 with _ | _
      · have HX := hide hx
        clear hx
        go_wp2
        go_roundw
        case rel => exact ⟨2, by omega, rfl, hide ⟨fun _ => HT.out.1 (by omega), fun _ => HX.out, fun h => by omega, fun h => by omega, fun h => by omega⟩, t2⟩
        case measure => simp [intOf]
      · have HX := hide hx
        clear hx
        go_wp2
        go_ret
        exact ⟨by rw [HR.out, HT.out.1 (by omega), HX.out]; rfl, t2⟩
    · go_wp2_with fail
      refine (hs2 wr).mono ?_
      rintro e w2 ⟨rfl, b2⟩
      have t2 := hb.trans (b2.mono hb.size)
      rcases hx : x2 with _ | _
      · have HX := hide hx
        clear hx
        go_wp2
        go_roundw
        case rel => exact ⟨3, by omega, rfl, hide ⟨fun _ => HT.out.1 (by omega), fun _ => HT.out.2.1 (by omega), fun _ => HX.out, fun h => by omega, fun h => by omega⟩, t2⟩
        case measure => simp [intOf]
      · have HX := hide hx
        clear hx
        go_wp2
        go_ret
        exact ⟨by rw [HR.out, HT.out.1 (by omega), HT.out.2.1 (by omega), HX.out]; rfl, t2⟩
    · go_wp2_with fail
      refine (hs3 wr).mono ?_
      rintro e w2 ⟨rfl, b2⟩
      have t2 := hb.trans (b2.mono hb.size)
      rcases hx : x3 with _ | _
      · have HX := hide hx
        clear hx
        go_wp2
        go_roundw
        case rel => exact ⟨4, by omega, rfl, hide ⟨fun _ => HT.out.1 (by omega), fun _ => HT.out.2.1 (by omega), fun _ => HT.out.2.2.1 (by omega), fun _ => HX.out, fun h => by omega⟩, t2⟩
        case measure => simp [intOf]
      · have HX := hide hx
        clear hx
        go_wp2
        go_ret
        exact ⟨by rw [HR.out, HT.out.1 (by omega), HT.out.2.1 (by omega), HT.out.2.2.1 (by omega), HX.out]; rfl, t2⟩
    · go_wp2_with fail
      refine (hs4 wr).mono ?_
      rintro e w2 ⟨rfl, b2⟩
      have t2 := hb.trans (b2.mono hb.size)
      rcases hx : x4 with _ | _
      · have HX := hide hx
        clear hx
        go_wp2
        go_roundw
        case rel => exact ⟨5, by omega, rfl, hide ⟨fun _ => HT.out.1 (by omega), fun _ => HT.out.2.1 (by omega), fun _ => HT.out.2.2.1 (by omega), fun _ => HT.out.2.2.2.1 (by omega), fun _ => HX.out⟩, t2⟩
        case measure => simp [intOf]
      · have HX := hide hx
        clear hx
        go_wp2
        go_ret
        exact ⟨by rw [HR.out, HT.out.1 (by omega), HT.out.2.1 (by omega), HT.out.2.2.1 (by omega), HT.out.2.2.2.1 (by omega), HX.out]; rfl, t2⟩
    · go_wp2
      go_ret
      exact ⟨by rw [HR.out, HT.out.1 (by omega), HT.out.2.1 (by omega), HT.out.2.2.1 (by omega), HT.out.2.2.2.1 (by omega), HT.out.2.2.2.2 (by omega)] <;> rfl, hb⟩
end Go.Proofs.YtgdjlmpfjmakkaaDoor

/- edit.without and the reference's: fields without those of one link. -/
namespace Go.Proofs.YtgdjlmpfjmakkaaDoor
open Go.RowKit

theorem goes_snoc (ys : List (List UInt8)) (j : Nat) (h : j < ys.length) : (ys.take (j + 1)).filter goesB = (ys.take j).filter goesB ++ if staysB ys[j] = true then [] else [ys[j]] := by
  rw [list_take_snoc ys j h, List.filter_append]
  congr 1
  by_cases hs : staysB ys[j] = true
  · rw [if_pos hs, List.filter_cons_of_neg (by simp [goesB, hs])]; rfl
  · rw [if_neg hs, List.filter_cons_of_pos (by simp [goesB, hs])]; rfl
theorem ow_snoc_str {w : World} {base n : Nat} {v : Value} {ls : List (List UInt8)} {s : ByteArray} {x : List UInt8} (h : Ow w base 1 v (n + 1) (scells ls ++ (#[Value.string s]).toList)) (h1 : s.data.toList = x) : Ow w base 1 v (n + 1) (scells (ls ++ [x])) := by
  have e1 : s = ⟨x.toArray⟩ := bytes_ext (by simp [h1])
  subst e1
  rw [← scells_append]; exact h
theorem stays_or (n : List UInt8) : staysB n = (decide (lowL n = nameCL) || (decide (lowL n = codeL) || (decide (lowL n = hostL) || (decide (lowL n = varyL) || decide (lowL n = etagL))))) := by
  rw [stays_low, Bool.eq_iff_iff]
  simp [stayL]
theorem hopC_mem : ∀ x ∈ hopC, x.length ≤ 1000000 := by decide

set_option maxRecDepth 100000 in
set_option maxHeartbeats 16000000 in
theorem without_any (A : Option Addr) (n c B : Nat) (fs : List (List UInt8 × List UInt8)) (w : World) (h : Rd w B 2 A n (fcells fs)) (hB : B ≤ w.heap.size) (hn : n ≤ 1000) (hok : fsOk fs) :
    Calls Tryd.prog 54 #[.slice A n c] w fun e w' => ∃ A' c', e = .returned (.slice A' (withoutL fs).length c') ∧
      Ow w' w.heap.size 2 (.slice A' (withoutL fs).length c') (withoutL fs).length (fcells (withoutL fs)) ∧ (withoutL fs).length ≤ c' ∧ Below w.heap.size w w' := by
  obtain ⟨i0, hi0, hz0, hz1, hz2⟩ := info_parts infoStr
  have hflen := h.flen
  have hvl := getL_len fs connL
  have hvm := getL_mem hok connL
  have hnames : hopC ++ (allV (getL fs connL)).filter goesB = hopC ++ namesL fs := rfl
  have g1 := fun (W : World) (b : Below w.heap.size w W) => get_any A n c B fs ⟨#[67, 111, 110, 110, 101, 99, 116, 105, 111, 110]⟩ W (h.below (b.mono hB)) (Nat.le_trans hB b.size) (by omega) hok (by decide)
  have e1 : getL fs (⟨#[67, 111, 110, 110, 101, 99, 116, 105, 111, 110]⟩ : ByteArray).data.toList = getL fs connL := getL_congr (by decide) fs
  rw [e1] at g1
  have hdone := withoutL_C fs
  rw [← hnames] at hdone
  obtain ⟨vs, hvs⟩ : ∃ vs, vs = getL fs connL := ⟨_, rfl⟩
  rw [← hvs] at g1 hvl hvm hdone
  have hmem : ∀ x ∈ hopC ++ (allV vs).filter goesB, x.length ≤ 1000000 := by
    intro x hx
    rcases List.mem_append.1 hx with hx | hx
    · exact hopC_mem x hx
    · exact allV_mem _ hvm x (List.mem_filter.1 hx).1
  obtain ⟨m1, hm1⟩ : ∃ m, vs.length = m := ⟨_, rfl⟩
  rw [hm1] at g1 hvl
  rw [hflen] at hvl
  have HM1 := hide hm1
  have HVM := hide hvm
  have HMEM := hide hmem
  have HDONE := hide hdone
  clear hm1 hvm hmem hvs hnames e1 hdone
  go_enter Tryd.func54, Tryd.ntmps54
  go_wp2_with fail
  refine (hops_any w).mono ?_
  rintro e w1 ⟨A1, c1, rfl, o1, hc1, b1⟩
  go_wp2_with fail
  refine (g1 w1 b1).mono ?_
  rintro e w2 ⟨A2, c2, rfl, o2, hc2, b2⟩
  have r2 := Rd.of_own o2
  have ap2 := apart_of o2 o1
  have o1' := o1.below b2
  have t2 := b1.trans (b2.mono b1.size)
  clear o2 o1 g1 b2 b1
  go_wp2_with fail
  go_loopw [3, 14] (fun o i wr => ∃ k : Nat, k ≤ m1 ∧ i = .int .i64 k ∧ Ow wr w.heap.size 1 o (hopC ++ (allV (vs.take k)).filter goesB).length (scells (hopC ++ (allV (vs.take k)).filter goesB)) ∧ Rd wr w2.heap.size 1 A2 m1 (scells vs) ∧ Apart A2 o ∧ w2.heap.size ≤ wr.heap.size ∧ Below w.heap.size w wr) (fun _ i _ => m1 - (intOf i).toNat)
  case atStart => exact ⟨0, Nat.zero_le _, rfl, by simpa [allV, hopC] using o1', r2, ap2, Nat.le_refl _, t2⟩
  case round =>
    clear r2 ap2 o1' t2
    obtain ⟨k, hk, rfl, ho, r2, ap2, hz2', hb⟩ := hrel
    by_cases hlt : k < m1
    · have hkl : k < vs.length := by have := HM1.out; omega
      obtain ⟨a, hA2, -, hcell⟩ := r2.text hlt hkl
      subst hA2
      have hsn := allV_snoc vs k hkl
      have hal := allV_len (vs.take k) fun v hv => HVM.out v (List.mem_of_mem_take hv)
      rw [List.length_take, Nat.min_eq_left (by omega)] at hal
      have hxs := HVM.out vs[k] (List.getElem_mem hkl)
      have hbz := hb.size
      obtain ⟨x, hx⟩ : ∃ x, x = vs[k] := ⟨_, rfl⟩
      rw [← hx] at hcell hsn hxs
      have hs := fun w => split_any ⟨x.toArray⟩ w (by rw [mk_size]; omega)
      rw [mk_list] at hs
      have hsl := split_length x
      have hsm := fun y hy => FieldSplitsP.split_mem _ _ (Nat.le_refl _) y (hy : y ∈ splitL x)
      obtain ⟨ys, hys⟩ : ∃ ys, ys = splitL x := ⟨_, rfl⟩
      rw [← hys] at hs hsn hsl hsm
      have hsn2 : (allV (vs.take (k + 1))).filter goesB = (allV (vs.take k)).filter goesB ++ ys.filter goesB := by rw [hsn, List.filter_append]
      have hgk2 : (hopC ++ (allV (vs.take k)).filter goesB).length ≤ 1100000000 := by
        have h1 : ((allV (vs.take k)).filter goesB).length ≤ (allV (vs.take k)).length := List.length_filter_le _ _
        have h2 : k * 1000001 ≤ 1000 * 1000001 := Nat.mul_le_mul_right _ (by omega)
        rw [List.length_append]
        have : hopC.length = 7 := rfl
        omega
      have hsn3 : hopC ++ (allV (vs.take (k + 1))).filter goesB = (hopC ++ (allV (vs.take k)).filter goesB) ++ ys.filter goesB := by rw [hsn2, List.append_assoc]
      obtain ⟨gk, hgk⟩ : ∃ gk, gk = hopC ++ (allV (vs.take k)).filter goesB := ⟨_, rfl⟩
      rw [← hgk] at hsn3 hgk2 ho
      obtain ⟨sx, hsx⟩ : ∃ sx : ByteArray, sx = ⟨x.toArray⟩ := ⟨_, rfl⟩
      rw [← hsx] at hcell hs
      have HS := hide hsn3
      have HSM := hide hsm
      clear hsn hsn2 hsn3 hal hx hys hgk hsx hsm
      go_wp2_with fail
      refine (hs _).mono ?_
      rintro e w3 ⟨A3, c3, rfl, o3, hc3, b3⟩
      have r3 := Rd.of_own o3
      have ap3 := apart_of o3 ho
      have ho3 := ho.below b3
      have r2' := r2.below (b3.mono hz2')
      have hb3 := hb.trans (b3.mono hbz)
      have z3 := Nat.le_trans hz2' b3.size
      clear o3 hs ho r2 hcell
      obtain ⟨m, hm⟩ : ∃ m, ys.length = m := ⟨_, rfl⟩
      rw [hm] at r3 hc3 hsl ⊢
      have HM2 := hide hm
      clear hm
      go_wp2_with fail
      go_loopw [3, 21] (fun o i wr2 => ∃ j : Nat, j ≤ m ∧ i = .int .i64 j ∧ Ow wr2 w.heap.size 1 o (gk ++ (ys.take j).filter goesB).length (scells (gk ++ (ys.take j).filter goesB)) ∧ Rd wr2 w3.heap.size 1 A3 m (scells ys) ∧ Apart A3 o ∧ Rd wr2 w2.heap.size 1 (some a) m1 (scells vs) ∧ Apart (some a) o ∧ w3.heap.size ≤ wr2.heap.size ∧ Below w.heap.size w wr2) (fun _ i _ => m - (intOf i).toNat)
      case atStart => exact ⟨0, Nat.zero_le _, rfl, by simpa using ho3, r3, ap3, r2', ap2, Nat.le_refl _, hb3⟩
      case round =>
        clear ho3 r3 ap3 r2' ap2
        obtain ⟨j, hj, rfl, ho4, r3, ap3, r2, ap2, hz3, hb4⟩ := hrel
        by_cases hlj : j < m
        · have hjl : j < ys.length := by have := HM2.out; omega
          obtain ⟨a2, hA3, hab, hc2'⟩ := r3.text hlj hjl
          subst hA3
          have hgs := goes_snoc ys j hjl
          have hgl : (gk ++ (ys.take j).filter goesB).length ≤ 1200000000 := by
            have h1 : ((ys.take j).filter goesB).length ≤ (ys.take j).length := List.length_filter_le _ _
            rw [List.length_take] at h1
            have := HM2.out
            rw [List.length_append]; omega
          have hyl := HSM.out ys[j] (List.getElem_mem hjl)
          obtain ⟨y, hy⟩ : ∃ y, y = ys[j] := ⟨_, rfl⟩
          rw [← hy] at hc2' hgs hyl
          have hst := fun w => stays_any ⟨y.toArray⟩ w (by rw [mk_size]; omega)
          rw [mk_list] at hst
          obtain ⟨gj, hgj⟩ : ∃ g, g = (ys.take j).filter goesB := ⟨_, rfl⟩
          rw [← hgj] at hgs hgl ho4
          obtain ⟨sy, hsy⟩ : ∃ sy : ByteArray, sy = ⟨y.toArray⟩ := ⟨_, rfl⟩
          rw [← hsy] at hc2'
          simp only [← hsy] at hst
          have HSY := hide (show sy.data.toList = y by rw [hsy])
          have HGS := hide hgs
          obtain ⟨ng, hng⟩ : ∃ n, (gk ++ gj).length = n := ⟨_, rfl⟩
          rw [hng] at hgl ho4
          have HNG := hide hng
          have hb4z := hb4.size
          clear hgs hy hgj hsy hyl hng
          rcases hsb : staysB y with _ | _
          · rw [hsb] at hst
            have HSB := hide hsb
            clear hsb
            go_wp2_with fail
            refine (hst _).mono ?_
            rintro e w5 ⟨rfl, b5⟩
            have ho5 := ho4.below b5
            have r35 := r3.below (b5.mono hz3)
            have r25 := r2.below (b5.mono (Nat.le_trans z3 hz3))
            have t5 := hb4.trans (b5.mono hb4z)
            have z5 := Nat.le_trans hz3 b5.size
            have t5z := t5.size
            clear ho4 r3 r2 hst hc2' b5
            go_wp2_with (at_builtin; refine wpl_push_ow rfl _ _ _ rfl w.heap.size i0 _ 1 16 Tryd.underlying32 hi0 hz0 hz1 hz2 rfl (by omega) _ _ _ rfl _ rfl ho5 rfl (by simp [Value.oneCell']) (by unfold maxLen; omega) (by omega) t5z ?_; intro v1 w7 hown1 hbel1 hg1 hv1)
            have r37 := r35.grown hg1 z5 ap3
            have ap37 := ap3.step r35 (by omega) z5 hv1
            have z25 := Nat.le_trans z3 z5
            have r27 := r25.grown hg1 z25 ap2
            have ap27 := ap2.step r25 (by omega) z25 hv1
            have z7 := Nat.le_trans z5 hg1.size
            clear r35 r25 ap3 ap2 hg1 hv1
            go_roundw
            case rel =>
              refine ⟨j + 1, by omega, by go_num, ?_, r37, ap37, r27, ap27, z7, t5.trans hbel1⟩
              rw [HGS.out, HSB.out, if_neg (by simp), ← List.append_assoc, List.length_append, HNG.out]
              exact ow_snoc_str hown1 HSY.out
            case measure => simp [intOf]; omega
          · rw [hsb] at hst
            have HSB := hide hsb
            clear hsb
            go_wp2_with fail
            refine (hst _).mono ?_
            rintro e w5 ⟨rfl, b5⟩
            go_wp2
            go_roundw
            case rel => exact ⟨j + 1, by omega, by go_num, by rw [HGS.out, HSB.out, if_pos rfl, List.append_nil, HNG.out]; exact ho4.below b5, r3.below (b5.mono hz3), ap3, r2.below (b5.mono (Nat.le_trans z3 hz3)), ap2, Nat.le_trans hz3 b5.size, hb4.trans (b5.mono hb4z)⟩
            case measure => simp [intOf]; omega
        · rw [List.take_of_length_le (by have := HM2.out; omega)] at ho4
          go_wp2
          go_roundw
          case rel => exact ⟨k + 1, by omega, by go_num, by rw [HS.out]; exact ho4, r2, ap2, Nat.le_trans z3 hz3, hb4⟩
          case measure => simp [intOf]; omega
    · rw [List.take_of_length_le (by have := HM1.out; omega)] at ho
      have hfb : ((allV vs).filter goesB).length ≤ 1000001000 := by
        have h1 : ((allV vs).filter goesB).length ≤ (allV vs).length := List.length_filter_le _ _
        have h2 := allV_len vs HVM.out
        rw [HM1.out] at h2
        have h3 : m1 * 1000001 ≤ 1000 * 1000001 := Nat.mul_le_mul_right _ (by omega)
        omega
      clear r2 ap2 HM1 HVM
      have hdone := HDONE.out
      have hnl : (hopC ++ (allV vs).filter goesB).length = 7 + ((allV vs).filter goesB).length := by rw [List.length_append]; rfl
      obtain ⟨names, hnames⟩ : ∃ l, l = hopC ++ (allV vs).filter goesB := ⟨_, rfl⟩
      rw [← hnames] at ho hdone HMEM hnl
      obtain ⟨An, cn, rfl, hcn, -⟩ := ho.shape
      have rn := ho.rd
      obtain ⟨N, hN⟩ : ∃ N, names.length = N := ⟨_, rfl⟩
      rw [hN] at ho rn hcn hnl ⊢
      have hN7 : 7 ≤ N := by omega
      have hNb : N ≤ 1100000000 := by omega
      clear hnl hfb
      have HN := hide hN
      have HDONE2 := hide hdone
      have hbz := hb.size
      clear hN hdone HDONE hnames ho
      go_wp2_with fail
      go_loopw [0, 36] (fun v i wr2 => ∃ (j : Nat) (Al : Option Addr) (nl cl : Nat), j ≤ N ∧ i = .int .i64 j ∧ v = .slice Al nl cl ∧ nl ≤ 1000 ∧ (∃ B', B' ≤ wr2.heap.size ∧ Rd wr2 B' 2 Al nl (fcells (dropsL fs (names.take j)))) ∧ (0 < j → nl ≤ cl ∧ Ow wr2 w.heap.size 2 v nl (fcells (dropsL fs (names.take j)))) ∧ Below wr.heap.size wr wr2) (fun _ i _ => N - (intOf i).toNat)
      case atStart => exact ⟨0, _, _, _, Nat.zero_le _, rfl, rfl, hn, ⟨B, Nat.le_trans hB hbz, h.below (hb.mono hB)⟩, fun h => absurd h (by omega), Below.refl _ _⟩
      case round =>
        obtain ⟨j, Al, nl, cl, hj, rfl, rfl, hnl2, ⟨B', hB', rl⟩, hol, hb2⟩ := hrel
        by_cases hlj : j < N
        · have hjl : j < names.length := by have := HN.out; omega
          obtain ⟨a2, hA3, hab, hc2'⟩ := (rn.below hb2).text hlj hjl
          subst hA3
          have hds := dropsL_snoc fs names j hjl
          have hyl := HMEM.out names[j] (List.getElem_mem hjl)
          obtain ⟨y, hy⟩ : ∃ y, y = names[j] := ⟨_, rfl⟩
          rw [← hy] at hc2' hds hyl
          have hdr := drop_any Al nl cl B' (dropsL fs (names.take j)) ⟨y.toArray⟩ _ rl hB' (by omega) (fsOk_drops hok _) (by rw [mk_size]; omega)
          rw [mk_list, ← hds] at hdr
          have hll := dropsL_len (names.take (j + 1)) fs
          rw [hflen] at hll
          obtain ⟨sy, hsy⟩ : ∃ sy : ByteArray, sy = ⟨y.toArray⟩ := ⟨_, rfl⟩
          rw [← hsy] at hc2' hdr
          obtain ⟨gs, hgs⟩ : ∃ gs, gs = dropsL fs (names.take (j + 1)) := ⟨_, rfl⟩
          rw [← hgs] at hdr hll
          obtain ⟨ng, hng⟩ : ∃ n, gs.length = n := ⟨_, rfl⟩
          rw [hng] at hdr hll
          have HGS := hide hgs
          have hb2z := hb2.size
          clear hds hy hsy hgs hyl hol rl hng
          go_wp2_with fail
          refine hdr.mono ?_
          rintro e w5 ⟨A5, c5, rfl, o5, hc5, b5⟩
          have r5 := o5.rd
          have o5' := o5.base_ (Nat.le_trans hbz hb2z)
          clear hdr o5 hc2'
          go_wp2
          go_roundw
          case rel => exact ⟨j + 1, _, _, _, by omega, by go_num, rfl, by omega, ⟨_, Nat.le_refl _, by rw [← HGS.out]; exact r5⟩, fun _ => ⟨hc5, by rw [← HGS.out]; exact o5'⟩, hb2.trans (b5.mono hb2z)⟩
          case measure => simp [intOf]; omega
        · rw [List.take_of_length_le (by have := HN.out; omega), HDONE2.out] at hol
          obtain ⟨h1, h2⟩ := hol (by omega)
          have h3 : (withoutL fs).length = nl := by have := h2.1; rw [fcells_length] at this; omega
          have H1 := hide h1
          have H3 := hide h3
          clear h3 h1 rl hol
          go_wp2
          go_ret
          exact ⟨Al, cl, by rw [H3.out] <;> rfl, by rw [H3.out]; exact h2, by rw [H3.out]; exact H1.out, hb.trans (hb2.mono hbz)⟩

set_option maxRecDepth 100000 in
set_option maxHeartbeats 16000000 in
theorem refwithout_any (A : Option Addr) (n c B : Nat) (fs : List (List UInt8 × List UInt8)) (w : World) (h : Rd w B 2 A n (fcells fs)) (hB : B ≤ w.heap.size) (hn : n ≤ 1000) (hok : fsOk fs) :
    Calls Tryd.prog 56 #[.slice A n c] w fun e w' => ∃ A' c', e = .returned (.slice A' (withoutL fs).length c') ∧
      Ow w' w.heap.size 2 (.slice A' (withoutL fs).length c') (withoutL fs).length (fcells (withoutL fs)) ∧ (withoutL fs).length ≤ c' ∧ Below w.heap.size w w' := by
  obtain ⟨i0, hi0, hz0, hz1, hz2⟩ := info_parts infoStr
  have hflen := h.flen
  have hvl := getL_len fs connL
  have hvm := getL_mem hok connL
  have g1 := fun (W : World) (b : Below w.heap.size w W) => all_any A n c B fs ⟨#[99, 111, 110, 110, 101, 99, 116, 105, 111, 110]⟩ W (h.below (b.mono hB)) (Nat.le_trans hB b.size) (by omega) hok (by decide)
  change ∀ (W : World), _ → Calls Tryd.prog 50 _ W (fun e w' => ∃ A' c', e = .returned (.slice A' (allL fs connL).length c') ∧ w'.ownsRow W.heap.size 9 1 (.slice A' (allL fs connL).length c') (allL fs connL).length (scells (allL fs connL)) ∧ (allL fs connL).length ≤ c' ∧ Below W.heap.size W w') at g1
  have hdone := withoutL_R fs
  have hal := allV_len _ hvm
  have ham := allV_mem _ hvm
  change (allL fs connL).length ≤ _ at hal
  change ∀ x ∈ allL fs connL, _ at ham
  have hal2 : (allL fs connL).length ≤ 1000001000 := by
    have h3 : (getL fs connL).length * 1000001 ≤ 1000 * 1000001 := Nat.mul_le_mul_right _ (by omega)
    omega
  have hmem : ∀ x ∈ hopL ++ allL fs connL, x.length ≤ 1000000 := by
    intro x hx
    rcases List.mem_append.1 hx with hx | hx
    · exact (by decide : ∀ x ∈ hopL, x.length ≤ 1000000) x hx
    · exact ham x hx
  obtain ⟨names, hnames⟩ : ∃ l, l = hopL ++ allL fs connL := ⟨_, rfl⟩
  have hnl : names.length = 7 + (allL fs connL).length := by rw [hnames, List.length_append]; rfl
  rw [← hnames] at hmem hdone
  obtain ⟨al, hall⟩ : ∃ l, l = allL fs connL := ⟨_, rfl⟩
  rw [← hall] at hal2 hnames hnl
  simp only [← hall] at g1
  obtain ⟨na, hna⟩ : ∃ n, al.length = n := ⟨_, rfl⟩
  simp only [hna] at g1
  rw [hna] at hal2 hnl
  have HMEM := hide hmem
  have HDONE := hide hdone
  have HNAMES := hide hnames
  have HNL := hide hnl
  clear hal ham hvm hvl hmem hdone hnames hall hnl hna
  have hop := own_new w #[.string ⟨#[99, 111, 110, 110, 101, 99, 116, 105, 111, 110]⟩, .string ⟨#[107, 101, 101, 112, 45, 97, 108, 105, 118, 101]⟩, .string ⟨#[112, 114, 111, 120, 121, 45, 99, 111, 110, 110, 101, 99, 116, 105, 111, 110]⟩, .string ⟨#[116, 101]⟩, .string ⟨#[116, 114, 97, 105, 108, 101, 114]⟩, .string ⟨#[116, 114, 97, 110, 115, 102, 101, 114, 45, 101, 110, 99, 111, 100, 105, 110, 103]⟩, .string ⟨#[117, 112, 103, 114, 97, 100, 101]⟩] 9 1 7 rfl (by unfold maxLen; omega) w.heap.size (Nat.le_refl _)
  have t1 : Below w.heap.size w (w.alloc (.cells #[.string ⟨#[99, 111, 110, 110, 101, 99, 116, 105, 111, 110]⟩, .string ⟨#[107, 101, 101, 112, 45, 97, 108, 105, 118, 101]⟩, .string ⟨#[112, 114, 111, 120, 121, 45, 99, 111, 110, 110, 101, 99, 116, 105, 111, 110]⟩, .string ⟨#[116, 101]⟩, .string ⟨#[116, 114, 97, 105, 108, 101, 114]⟩, .string ⟨#[116, 114, 97, 110, 115, 102, 101, 114, 45, 101, 110, 99, 111, 100, 105, 110, 103]⟩, .string ⟨#[117, 112, 103, 114, 97, 100, 101]⟩] 9)) := (Below.refl _ _).alloc (Nat.le_refl _) _
  have g2 := g1 _ t1
  clear g1
  go_enter Tryd.func56, Tryd.ntmps56
  go_wp2_with fail
  refine g2.mono ?_
  rintro e w2 ⟨A2, c2, rfl, o2, hc2, b2⟩
  have r2 := Rd.of_own o2
  have ho2 := own_below hop b2
  have t2 := t1.trans (b2.mono t1.size)
  clear o2 hop b2 g2 t1
  go_wp2_with (at_builtin; refine wpl_append _ rfl _ _ _ rfl w.heap.size _ i0 _ 1 16 Tryd.underlying32 hi0 hz0 hz1 hz2 rfl (by omega) _ _ _ rfl _ _ _ _ _ rfl ho2 r2 (scells_one al) (by unfold maxLen; omega) (by omega) t2.size ?_; intro v1 w3 hown1 hbel1 _)
  have hnm : scells names = [.string ⟨#[99, 111, 110, 110, 101, 99, 116, 105, 111, 110]⟩, .string ⟨#[107, 101, 101, 112, 45, 97, 108, 105, 118, 101]⟩, .string ⟨#[112, 114, 111, 120, 121, 45, 99, 111, 110, 110, 101, 99, 116, 105, 111, 110]⟩, .string ⟨#[116, 101]⟩, .string ⟨#[116, 114, 97, 105, 108, 101, 114]⟩, .string ⟨#[116, 114, 97, 110, 115, 102, 101, 114, 45, 101, 110, 99, 111, 100, 105, 110, 103]⟩, .string ⟨#[117, 112, 103, 114, 97, 100, 101]⟩] ++ scells al := by rw [HNAMES.out, ← scells_append]; rfl
  have HN0 := hide (show names[0]? = some connL by rw [HNAMES.out]; rfl)
  obtain ⟨An, cn, rfl, hcn, -⟩ := own_shape hown1
  have rn : Rd w3 w3.heap.size 1 An (7 + na) (scells names) := by rw [hnm]; exact Rd.of_own hown1
  have t3 := t2.trans hbel1
  have hbz := t3.size
  have hB3 := Nat.le_trans hB hbz
  have h3 := h.below (t3.mono hB)
  obtain ⟨N, hN⟩ : ∃ N, N = 7 + na := ⟨_, rfl⟩
  have HNN := hide hN
  have hN2 : 7 ≤ N ∧ N ≤ 1100000000 := by omega
  rw [← hN] at rn hcn
  rw [← hN]
  rw [← hN] at HNL
  clear hN hnm hown1 t2 hbel1 ho2 r2 h HNAMES hal2 hc2
  go_wp2_with fail
  go_loopw [0, 4] (fun v i wr2 => ∃ (j : Nat) (Al : Option Addr) (nl cl : Nat), j ≤ N ∧ i = .int .i64 j ∧ v = .slice Al nl cl ∧ nl ≤ 1000 ∧ (∃ B', B' ≤ wr2.heap.size ∧ Rd wr2 B' 2 Al nl (fcells (skipL fs (names.take j)))) ∧ (0 < j → nl ≤ cl ∧ Ow wr2 w.heap.size 2 v nl (fcells (skipL fs (names.take j)))) ∧ Below w3.heap.size w3 wr2) (fun _ i _ => N - (intOf i).toNat)
  case atStart => exact ⟨0, _, _, _, Nat.zero_le _, rfl, rfl, hn, ⟨B, hB3, h3⟩, fun h => absurd h (by omega), Below.refl _ _⟩
  case round =>
    obtain ⟨j, Al, nl, cl, hj, rfl, rfl, hnl2, ⟨B', hB', rl⟩, hol, hb2⟩ := hrel
    by_cases hlj : j < N
    · have hjl : j < names.length := by have := HNL.out; omega
      obtain ⟨a2, hA3, hab, hc2'⟩ := (rn.below hb2).text hlj hjl
      subst hA3
      have hds := skipL_snoc fs names j hjl
      have hyl := HMEM.out names[j] (List.getElem_mem hjl)
      obtain ⟨y, hy⟩ : ∃ y, y = names[j] := ⟨_, rfl⟩
      have HY0 := hide (show j = 0 → staysB y = false by
        intro e
        subst e
        have h1 := HN0.out
        rw [List.getElem?_eq_getElem hjl, ← hy] at h1
        cases h1
        decide)
      rw [← hy] at hc2' hds hyl
      have hlow := fun w => reflower_any ⟨y.toArray⟩ w (by rw [mk_size]; omega)
      rw [mk_list] at hlow
      have hst := stays_or y
      obtain ⟨sl, hsl⟩ : ∃ s : ByteArray, s = ⟨(lowL y).toArray⟩ := ⟨_, rfl⟩
      simp only [← hsl] at hlow
      have q0 : (sl.toList == [99, 111, 110, 116, 101, 110, 116, 45, 108, 101, 110, 103, 116, 104]) = decide (lowL y = nameCL) := by rw [ByteArray.toList_eq, hsl, Bool.eq_iff_iff, decide_eq_true_iff]; simp [nameCL]
      have q1 : (sl.toList == [99, 111, 110, 116, 101, 110, 116, 45, 101, 110, 99, 111, 100, 105, 110, 103]) = decide (lowL y = codeL) := by rw [ByteArray.toList_eq, hsl, Bool.eq_iff_iff, decide_eq_true_iff]; simp [codeL]
      have q2 : (sl.toList == [104, 111, 115, 116]) = decide (lowL y = hostL) := by rw [ByteArray.toList_eq, hsl, Bool.eq_iff_iff, decide_eq_true_iff]; simp [hostL]
      have q3 : (sl.toList == [118, 97, 114, 121]) = decide (lowL y = varyL) := by rw [ByteArray.toList_eq, hsl, Bool.eq_iff_iff, decide_eq_true_iff]; simp [varyL]
      have q4 : (sl.toList == [101, 116, 97, 103]) = decide (lowL y = etagL) := by rw [ByteArray.toList_eq, hsl, Bool.eq_iff_iff, decide_eq_true_iff]; simp [etagL]
      obtain ⟨x0, h0⟩ : ∃ x, x = decide (lowL y = nameCL) := ⟨_, rfl⟩
      obtain ⟨x1, h1⟩ : ∃ x, x = decide (lowL y = codeL) := ⟨_, rfl⟩
      obtain ⟨x2, h2⟩ : ∃ x, x = decide (lowL y = hostL) := ⟨_, rfl⟩
      obtain ⟨x3, hx3⟩ : ∃ x, x = decide (lowL y = varyL) := ⟨_, rfl⟩
      obtain ⟨x4, h4⟩ : ∃ x, x = decide (lowL y = etagL) := ⟨_, rfl⟩
      rw [← h0] at q0 hst
      rw [← h1] at q1 hst
      rw [← h2] at q2 hst
      rw [← hx3] at q3 hst
      rw [← h4] at q4 hst
      have hdr := fun (W : World) (b : Below wr.heap.size wr W) => refdrop_any Al nl cl B' (skipL fs (names.take j)) ⟨y.toArray⟩ W (rl.below (b.mono hB')) (Nat.le_trans hB' b.size) (by omega) (fsOk_drops hok _) (by rw [mk_size]; omega)
      rw [mk_list] at hdr
      have hll : (dropL (skipL fs (names.take j)) y).length ≤ 1000 := Nat.le_trans (dropL_len _ _) (by have := rl.flen; omega)
      obtain ⟨sy, hsy⟩ : ∃ sy : ByteArray, sy = ⟨y.toArray⟩ := ⟨_, rfl⟩
      rw [← hsy] at hc2'
      simp only [← hsy] at hlow hdr
      obtain ⟨gs, hgs⟩ : ∃ gs, gs = dropL (skipL fs (names.take j)) y := ⟨_, rfl⟩
      rw [← hgs] at hll hds
      simp only [← hgs] at hdr
      obtain ⟨ng, hng⟩ : ∃ n, gs.length = n := ⟨_, rfl⟩
      rw [hng] at hll
      simp only [hng] at hdr
      have HDS := hide hds
      have HST0 := hide hst
      have HOL := hide hol
      have hb2z := hb2.size
      clear h0 h1 h2 hx3 h4 hds hy hsy hgs hyl hng hsl hst hol
      go_wp2_with fail
      refine (hlow wr).mono ?_
      rintro e w4 ⟨rfl, b⟩
      have hc4 : w4.cell? (a2.add j) = some (.string sy) := (b.cell (World.block_lt_of_cell? wr _ hc2')).trans hc2'
      have hdr4 := hdr w4 b
      clear hlow hdr hc2'
      rcases x0 with _ | _
      · rcases x1 with _ | _
        · rcases x2 with _ | _
          · rcases x3 with _ | _
            · rcases x4 with _ | _
              · have HST := hide (show staysB y = false from HST0.out)
                clear HST0
                go_wp2_with fail
                refine hdr4.mono ?_
                rintro e w5 ⟨A5, c5, rfl, o5, hc5, b5⟩
                have ow5 := Ow.of_row o5
                have r5 := ow5.rd
                have ow5' := ow5.base_ (Nat.le_trans hbz (Nat.le_trans hb2z b.size))
                have t5 := (hb2.trans (b.mono hb2z)).trans (b5.mono (Nat.le_trans hb2z b.size))
                clear hdr4 o5 ow5 hc4
                go_wp2
                go_roundw
                case rel => exact ⟨j + 1, _, _, _, by omega, by go_num, rfl, hll, ⟨_, Nat.le_refl _, by rw [HDS.out, HST.out, if_neg (by simp)]; exact r5⟩, fun _ => ⟨hc5, by rw [HDS.out, HST.out, if_neg (by simp)]; exact ow5'⟩, t5⟩
                case measure => simp [intOf]; omega
              · have HST := hide (show staysB y = true from HST0.out)
                clear HST0 hdr4
                go_wp2
                go_roundw
                case rel => exact ⟨j + 1, _, _, _, by omega, by go_num, rfl, hnl2, ⟨B', Nat.le_trans hB' b.size, by rw [HDS.out, HST.out, if_pos rfl]; exact rl.below (b.mono hB')⟩, fun _ => (Nat.eq_zero_or_pos j).elim (fun e => absurd (HY0.out e) (by rw [HST.out]; simp)) (fun e => ⟨(HOL.out e).1, by rw [HDS.out, HST.out, if_pos rfl]; exact (HOL.out e).2.below b⟩), hb2.trans (b.mono hb2z)⟩
                case measure => simp [intOf]; omega
            · have HST := hide (show staysB y = true from HST0.out)
              clear HST0 hdr4
              go_wp2
              go_roundw
              case rel => exact ⟨j + 1, _, _, _, by omega, by go_num, rfl, hnl2, ⟨B', Nat.le_trans hB' b.size, by rw [HDS.out, HST.out, if_pos rfl]; exact rl.below (b.mono hB')⟩, fun _ => (Nat.eq_zero_or_pos j).elim (fun e => absurd (HY0.out e) (by rw [HST.out]; simp)) (fun e => ⟨(HOL.out e).1, by rw [HDS.out, HST.out, if_pos rfl]; exact (HOL.out e).2.below b⟩), hb2.trans (b.mono hb2z)⟩
              case measure => simp [intOf]; omega
          · have HST := hide (show staysB y = true from HST0.out)
            clear HST0 hdr4
            go_wp2
            go_roundw
            case rel => exact ⟨j + 1, _, _, _, by omega, by go_num, rfl, hnl2, ⟨B', Nat.le_trans hB' b.size, by rw [HDS.out, HST.out, if_pos rfl]; exact rl.below (b.mono hB')⟩, fun _ => (Nat.eq_zero_or_pos j).elim (fun e => absurd (HY0.out e) (by rw [HST.out]; simp)) (fun e => ⟨(HOL.out e).1, by rw [HDS.out, HST.out, if_pos rfl]; exact (HOL.out e).2.below b⟩), hb2.trans (b.mono hb2z)⟩
            case measure => simp [intOf]; omega
        · have HST := hide (show staysB y = true from HST0.out)
          clear HST0 hdr4
          go_wp2
          go_roundw
          case rel => exact ⟨j + 1, _, _, _, by omega, by go_num, rfl, hnl2, ⟨B', Nat.le_trans hB' b.size, by rw [HDS.out, HST.out, if_pos rfl]; exact rl.below (b.mono hB')⟩, fun _ => (Nat.eq_zero_or_pos j).elim (fun e => absurd (HY0.out e) (by rw [HST.out]; simp)) (fun e => ⟨(HOL.out e).1, by rw [HDS.out, HST.out, if_pos rfl]; exact (HOL.out e).2.below b⟩), hb2.trans (b.mono hb2z)⟩
          case measure => simp [intOf]; omega
      · have HST := hide (show staysB y = true from HST0.out)
        clear HST0 hdr4
        go_wp2
        go_roundw
        case rel => exact ⟨j + 1, _, _, _, by omega, by go_num, rfl, hnl2, ⟨B', Nat.le_trans hB' b.size, by rw [HDS.out, HST.out, if_pos rfl]; exact rl.below (b.mono hB')⟩, fun _ => (Nat.eq_zero_or_pos j).elim (fun e => absurd (HY0.out e) (by rw [HST.out]; simp)) (fun e => ⟨(HOL.out e).1, by rw [HDS.out, HST.out, if_pos rfl]; exact (HOL.out e).2.below b⟩), hb2.trans (b.mono hb2z)⟩
        case measure => simp [intOf]; omega
    · rw [List.take_of_length_le (by have := HNL.out; omega), HDONE.out] at hol
      obtain ⟨h1, h2⟩ := hol (by omega)
      have h3 : (withoutL fs).length = nl := by have := h2.1; rw [fcells_length] at this; omega
      have H1 := hide h1
      have H3 := hide h3
      clear h3 h1 rl hol
      go_wp2
      go_ret
      exact ⟨Al, cl, by rw [H3.out] <;> rfl, by rw [H3.out]; exact h2, by rw [H3.out]; exact H1.out, t3.trans (hb2.mono hbz)⟩
end Go.Proofs.YtgdjlmpfjmakkaaDoor

/- edit.with and the reference's: one more field behind all. -/
namespace Go.Proofs.YtgdjlmpfjmakkaaDoor
open Go.RowKit

theorem own_snoc_fld' {w : World} {base e n : Nat} {v : Value} {ls : List (List UInt8 × List UInt8)} {s t : ByteArray} (h : w.ownsRow base e 2 v (n + 1) (fcells ls ++ (#[Value.string s, .string t]).toList)) : w.ownsRow base e 2 v (n + 1) (fcells (ls ++ [(s.data.toList, t.data.toList)])) := own_snoc_fld h rfl rfl

set_option maxRecDepth 100000 in
set_option maxHeartbeats 3200000 in
theorem with_any (A : Option Addr) (n c B : Nat) (fs : List (List UInt8 × List UInt8)) (name value : ByteArray) (w : World) (h : Rd w B 2 A n (fcells fs)) (hB : B ≤ w.heap.size) (hn : n ≤ 1000000) :
    Calls Tryd.prog 55 #[.slice A n c, .string name, .string value] w fun e w' => ∃ A' c', e = .returned (.slice A' (n + 1) c') ∧
      Ow w' w.heap.size 2 (.slice A' (n + 1) c') (n + 1) (fcells (fs ++ [(name.data.toList, value.data.toList)])) ∧ n + 1 ≤ c' ∧ Below w.heap.size w w' := by
  obtain ⟨i0, hi0, hz0, hz1, hz2⟩ := info_parts infoFld
  have ho := own_new w #[] 38 2 0 rfl (by unfold maxLen; omega) w.heap.size (Nat.le_refl _)
  have hr := h.alloc hB (.cells #[] 38)
  have t1 : Below w.heap.size w (w.alloc (.cells #[] 38)) := (Below.refl _ _).alloc (Nat.le_refl _) _
  go_enter Tryd.func55, Tryd.ntmps55
  go_wp2_with (first | (at_builtin; refine wpl_append _ rfl _ _ _ rfl w.heap.size _ i0 _ 2 32 Tryd.underlying22 hi0 hz0 hz1 hz2 rfl (by omega) _ _ _ rfl _ _ _ _ _ rfl ho hr (fcells_one fs) (by unfold maxLen; omega) (by omega) t1.size ?_; intro v1 w2 hown1 hbel1 _; rw [Nat.zero_add] at hown1; have hown2 : w2.ownsRow w.heap.size 38 2 v1 n (fcells fs) := hown1; clear hown1; have t2 := t1.trans hbel1; clear hbel1 ho hr) | (at_builtin; refine wpl_push rfl _ _ _ rfl w.heap.size i0 _ 2 32 Tryd.underlying22 hi0 hz0 hz1 hz2 rfl (by omega) _ _ _ rfl _ rfl hown2 rfl (by simp [Value.oneCell']) (by unfold maxLen; omega) (by omega) t2.size ?_; intro v2 w3 hown3 hbel3 _))
  have hown4 := own_snoc_fld' hown3
  go_ret
  obtain ⟨A', c', rfl, hc', -⟩ := own_shape hown4
  exact ⟨A', c', rfl, Ow.of_row hown4, hc', t2.trans hbel3⟩

set_option maxRecDepth 100000 in
set_option maxHeartbeats 3200000 in
theorem and_any (A : Option Addr) (n c B : Nat) (fs : List (List UInt8 × List UInt8)) (name value : ByteArray) (w : World) (h : Rd w B 2 A n (fcells fs)) (hB : B ≤ w.heap.size) (hn : n ≤ 1000000) :
    Calls Tryd.prog 57 #[.slice A n c, .string name, .string value] w fun e w' => ∃ A' c', e = .returned (.slice A' (n + 1) c') ∧
      Ow w' w.heap.size 2 (.slice A' (n + 1) c') (n + 1) (fcells (fs ++ [(name.data.toList, value.data.toList)])) ∧ n + 1 ≤ c' ∧ Below w.heap.size w w' := by
  obtain ⟨i0, hi0, hz0, hz1, hz2⟩ := info_parts infoFld
  have ho := own_new w #[] 38 2 0 rfl (by unfold maxLen; omega) w.heap.size (Nat.le_refl _)
  have hr := h.alloc hB (.cells #[] 38)
  have t1 : Below w.heap.size w (w.alloc (.cells #[] 38)) := (Below.refl _ _).alloc (Nat.le_refl _) _
  go_enter Tryd.func57, Tryd.ntmps57
  go_wp2_with (first | (at_builtin; refine wpl_append _ rfl _ _ _ rfl w.heap.size _ i0 _ 2 32 Tryd.underlying22 hi0 hz0 hz1 hz2 rfl (by omega) _ _ _ rfl _ _ _ _ _ rfl ho hr (fcells_one fs) (by unfold maxLen; omega) (by omega) t1.size ?_; intro v1 w2 hown1 hbel1 _; rw [Nat.zero_add] at hown1; have hown2 : w2.ownsRow w.heap.size 38 2 v1 n (fcells fs) := hown1; clear hown1; have t2 := t1.trans hbel1; clear hbel1 ho hr) | (at_builtin; refine wpl_push rfl _ _ _ rfl w.heap.size i0 _ 2 32 Tryd.underlying22 hi0 hz0 hz1 hz2 rfl (by omega) _ _ _ rfl _ rfl hown2 rfl (by simp [Value.oneCell']) (by unfold maxLen; omega) (by omega) t2.size ?_; intro v2 w3 hown3 hbel3 _))
  have hown4 := own_snoc_fld' hown3
  go_ret
  obtain ⟨A', c', rfl, hc', -⟩ := own_shape hown4
  exact ⟨A', c', rfl, Ow.of_row hown4, hc', t2.trans hbel3⟩
end Go.Proofs.YtgdjlmpfjmakkaaDoor
