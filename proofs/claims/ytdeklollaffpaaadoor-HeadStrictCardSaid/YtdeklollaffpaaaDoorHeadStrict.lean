/- HeadStrict returns true for any number and two strings, and they read as before. -/
import Derived.Test.YtdeklollaffpaaaDoorHeadAns
import Derived.Test.YtdeklollaffpaaaDoorStrictSpec
import Derived.Test.YtdeklollaffpaaaDoorRefName
namespace Go.Proofs.YtdeklollaffpaaaDoor.HeadStrictP
open Go.RowKit

theorem app_list (a b : ByteArray) : (a ++ b).data.toList = a.data.toList ++ b.data.toList := by simp
section
variable (a b : ByteArray)
def strictS : List ByteArray := [
  (⟨#[71, 69, 84, 32, 47, 32, 72, 84, 84, 80, 47, 49, 46, 49, 13, 10]⟩ ++ a ++ ⟨#[32, 58, 32]⟩ ++ b ++ ⟨#[13, 10, 13, 10]⟩ : ByteArray),
  (⟨#[71, 69, 84, 32, 47, 32, 72, 84, 84, 80, 47, 49, 46, 49, 13, 10]⟩ ++ a ++ ⟨#[58, 32]⟩ ++ b ++ ⟨#[13, 10, 32, 109, 111, 114, 101, 13, 10, 13, 10]⟩ : ByteArray),
  (⟨#[71, 69, 84, 32, 47, 32, 72, 84, 84, 80, 47, 49, 46, 49, 10]⟩ ++ a ++ ⟨#[58, 32]⟩ ++ b ++ ⟨#[13, 10, 13, 10]⟩ : ByteArray),
  (⟨#[71, 69, 84, 32, 32, 47, 32, 72, 84, 84, 80, 47, 49, 46, 49, 13, 10, 13, 10]⟩ : ByteArray),
  (⟨#[71, 69, 84, 32, 47, 32, 72, 84, 84, 80, 47, 49, 46, 50, 13, 10, 13, 10]⟩ : ByteArray),
  (⟨#[71, 69, 84, 32, 47, 32, 72, 84, 84, 80, 47, 49, 46, 49, 32, 13, 10, 13, 10]⟩ : ByteArray),
  (⟨#[32, 71, 69, 84, 32, 47, 32, 72, 84, 84, 80, 47, 49, 46, 49, 13, 10, 13, 10]⟩ : ByteArray),
  (⟨#[71, 69, 84, 32, 47, 32, 72, 84, 84, 80, 47, 49, 46, 49, 13, 10]⟩ ++ a ++ ⟨#[13, 10, 13, 10]⟩ : ByteArray),
  (⟨#[13, 10, 71, 69, 84, 32, 47, 32, 72, 84, 84, 80, 47, 49, 46, 49, 13, 10, 13, 10]⟩ : ByteArray),
  (⟨#[71, 69, 84, 32, 97, 32, 72, 84, 84, 80, 47, 49, 46, 49, 13, 10, 13, 10]⟩ : ByteArray),
  (⟨#[71, 69, 84, 32, 47, 32, 72, 84, 84, 80, 47, 49, 46, 49, 13, 10, 58, 32]⟩ ++ b ++ ⟨#[13, 10, 13, 10]⟩ : ByteArray),
  (⟨#[71, 69, 84, 32, 47, 32, 72, 84, 84, 80, 47, 49, 46, 49, 13, 10]⟩ ++ a ++ ⟨#[58, 32, 97, 0, 98, 13, 10, 13, 10]⟩ : ByteArray)]
theorem strict_get (hN : goodNameL a.data.toList = true) (hV : goodValueL b.data.toList = true) (hvl : b.data.toList.length ≤ 1000) (h1 : a.size ≤ 256) (h2 : b.size ≤ 1000) : ∀ s ∈ strictS a b, reqE s.data.toList = 2 ∧ s.size ≤ 3000 := by
  intro s hs
  simp only [strictS, List.mem_cons, List.not_mem_nil, or_false] at hs
  rcases hs with rfl | rfl | rfl | rfl | rfl | rfl | rfl | rfl | rfl | rfl | rfl | rfl
  · constructor
    · have h := strict0 hN hV hvl
      rw [app_list, app_list, app_list, app_list]
      simp only [List.append_assoc] at h ⊢
      exact h
    · rw [ByteArray.size_append, ByteArray.size_append, ByteArray.size_append, ByteArray.size_append]
      change 16 + a.size + 3 + b.size + 4 ≤ 3000
      omega
  · constructor
    · have h := strict1 hN hV hvl
      rw [app_list, app_list, app_list, app_list]
      simp only [List.append_assoc] at h ⊢
      exact h
    · rw [ByteArray.size_append, ByteArray.size_append, ByteArray.size_append, ByteArray.size_append]
      change 16 + a.size + 2 + b.size + 11 ≤ 3000
      omega
  · constructor
    · have h := strict2 hN hV hvl
      rw [app_list, app_list, app_list, app_list]
      simp only [List.append_assoc] at h ⊢
      exact h
    · rw [ByteArray.size_append, ByteArray.size_append, ByteArray.size_append, ByteArray.size_append]
      change 15 + a.size + 2 + b.size + 4 ≤ 3000
      omega
  · exact ⟨strict3, by decide⟩
  · exact ⟨strict4, by decide⟩
  · exact ⟨strict5, by decide⟩
  · exact ⟨strict6, by decide⟩
  · constructor
    · have h := strict7 hN
      rw [app_list, app_list]
      simp only [List.append_assoc] at h ⊢
      exact h
    · rw [ByteArray.size_append, ByteArray.size_append]
      change 16 + a.size + 4 ≤ 3000
      omega
  · exact ⟨strict8, by decide⟩
  · exact ⟨strict9, by decide⟩
  · constructor
    · have h := strict10 hV hvl
      rw [app_list, app_list]
      simp only [List.append_assoc] at h ⊢
      exact h
    · rw [ByteArray.size_append, ByteArray.size_append]
      change 18 + b.size + 4 ≤ 3000
      omega
  · constructor
    · have h := strict11 hN
      rw [app_list, app_list]
      simp only [List.append_assoc] at h ⊢
      exact h
    · rw [ByteArray.size_append, ByteArray.size_append]
      change 16 + a.size + 9 ≤ 3000
      omega
end
set_option maxRecDepth 100000 in
set_option maxHeartbeats 3200000 in
theorem walk2 (m : Nat) (a b : ByteArray) (w : World) (hm256 : m < 256) (hN : goodNameL a.data.toList = true) (hV : goodValueL b.data.toList = true) (hb0 : b.size ≠ 0) (h2 : b.size ≤ 1000) (mx : Int) (hm : w.cell? ⟨0, 0, none⟩ = some (.int .i64 mx)) :
    Calls Tryd.prog 3 #[.int .u8 m, .string a, .string b] w fun e w' => e = .returned (.bool true) ∧ Below w.heap.size w w' := by
  have h1 : a.size ≤ 256 := by rw [size_of]; exact (name_facts hN).2.2.2.1
  have hvl : b.data.toList.length ≤ 1000 := by rw [← size_of]; exact h2
  have hz : (b.toList == []) = false := by
    rw [ByteArray.toList_eq, beq_eq_false_iff_ne]
    intro h
    exact hb0 (by rw [size_of, h]; rfl)
  have q1 := refname_any a w (by omega)
  have q2 := refvalue_any b w (by omega)
  rw [hN] at q1
  rw [hV] at q2
  have hmb : 0 < w.heap.size := World.block_lt_of_cell? w _ hm
  have an := fun (W : World) (bl : Below w.heap.size w W) => ans17_any W mx ((bl.cell (p := ⟨0, 0, none⟩) hmb).trans hm)
  have pr := fun (W : World) (bl : Below w.heap.size w W) (A : Option Addr) (n c : Nat) (bs : List UInt8) (r : Rd W W.heap.size 1 A n (bcells bs)) (hn : n ≤ 100000) => parsereq_any A n c W.heap.size bs mx W r (Nat.le_refl _) hn ((bl.cell (p := ⟨0, 0, none⟩) hmb).trans hm)
  have hall := strict_get a b hN hV hvl h1 h2
  have hmod : (m : Int).tmod 12 = ((m % 12 : Nat) : Int) := by rw [Int.tmod_eq_emod_of_nonneg (by omega)]; rfl
  go_enter Tryd.func3, Tryd.ntmps3
  go_wp2_with fail
  refine q1.mono ?_
  rintro e w1 ⟨rfl, rfl⟩
  go_wp2_with fail
  refine q2.mono ?_
  rintro e w1 ⟨rfl, rfl⟩
  go_upto_region 4 with (fail)
  generalize hW : w.alloc _ = w1
  have hc : ∀ i, i < 12 → ∃ s : ByteArray, w1.cell? ⟨w.heap.size, i, none⟩ = some (.string s) ∧ reqE s.data.toList = 2 ∧ s.size ≤ 3000 := by
    intro i hi
    have hl : i < (strictS a b).length := hi
    have hg := hall _ (List.getElem_mem hl)
    refine ⟨(strictS a b)[i], ?_, hg⟩
    rw [← hW, cell_of_row _ w.heap.size i _ _ (0, 0) (heap_alloc_new w _)]
    show ((strictS a b).map Value.string).toArray[i]? = _
    rw [List.getElem?_toArray, List.getElem?_map, List.getElem?_eq_getElem hl]
    rfl
  have t1 : Below w.heap.size w w1 := by subst hW; exact (Below.refl _ _).alloc (Nat.le_refl _) _
  obtain ⟨s, hs0, hs2, hs3⟩ := hc (m % 12) (Nat.mod_lt _ (by decide))
  obtain ⟨A1, c1, w2, hcv1, rr1, b2⟩ := conv_bytes w1 s (by omega)
  have t2 := t1.trans (b2.mono t1.size)
  have p1 := pr w2 t2 (some A1) s.size c1 _ rr1 (by omega)
  rw [hs2] at p1
  have hlt12 : m % 12 < 12 := Nat.mod_lt _ (by decide)
  clear hW hc hall hs2 b2 rr1
  go_wp2_with fail
  refine p1.mono ?_
  rintro e w3 ⟨A3, c3, rfl, r3, b3⟩
  have t3 := t2.trans (b3.mono t2.size)
  clear p1 r3 b3 hcv1 hs0 t2 t1
  go_upto_region 5 with (fail)
  generalize hW4 : w3.alloc _ = w4
  have t4 : Below w.heap.size w w4 := by subst hW4; exact t3.alloc t3.size _
  clear hW4 t3
  have hsz : (⟨#[71, 69, 84, 32, 47, 32, 72, 84, 84, 80, 47, 49, 46, 49, 13, 10]⟩ ++ a ++ ⟨#[58]⟩ ++ b ++ ⟨#[32, 9, 13, 10, 13, 10]⟩ : ByteArray).size ≤ 2000 := by
    rw [ByteArray.size_append, ByteArray.size_append, ByteArray.size_append, ByteArray.size_append]
    change 16 + a.size + 1 + b.size + 6 ≤ 2000
    omega
  obtain ⟨A5, c5, w5, hcv2, rr2, b5⟩ := conv_bytes w4 (⟨#[71, 69, 84, 32, 47, 32, 72, 84, 84, 80, 47, 49, 46, 49, 13, 10]⟩ ++ a ++ ⟨#[58]⟩ ++ b ++ ⟨#[32, 9, 13, 10, 13, 10]⟩ : ByteArray) (by omega)
  have t5 := t4.trans (b5.mono t4.size)
  obtain ⟨n2, hn2⟩ : ∃ n, n = (⟨#[71, 69, 84, 32, 47, 32, 72, 84, 84, 80, 47, 49, 46, 49, 13, 10]⟩ ++ a ++ ⟨#[58]⟩ ++ b ++ ⟨#[32, 9, 13, 10, 13, 10]⟩ : ByteArray).size := ⟨_, rfl⟩
  rw [← hn2] at hcv2 rr2 hsz
  have p2 := pr w5 t5 (some A5) n2 c5 _ rr2 (by omega)
  have hdl : (⟨#[71, 69, 84, 32, 47, 32, 72, 84, 84, 80, 47, 49, 46, 49, 13, 10]⟩ ++ a ++ ⟨#[58]⟩ ++ b ++ ⟨#[32, 9, 13, 10, 13, 10]⟩ : ByteArray).data.toList = get1 ++ crlfL ++ (a.data.toList ++ [58] ++ b.data.toList ++ [32, 9]) ++ endL := by
    rw [app_list, app_list, app_list, app_list]
    simp only [List.append_assoc]
    rfl
  obtain ⟨k1, k2⟩ := strictOk hN hV hvl
  have k3 : rFs (get1 ++ crlfL ++ (a.data.toList ++ [58] ++ b.data.toList ++ [32, 9]) ++ endL) = [(a.data.toList, b.data.toList)] := by unfold rFs; rw [if_pos k1, k2]
  simp only [hdl, k1, k3] at p2
  change Calls _ _ _ w5 (fun e w' => ∃ A' c', e = .returned (.tuple #[.agg #[.string ⟨(rM _).toArray⟩, .string ⟨(rT _).toArray⟩, .int .i64 (rN _), .slice A' 1 c'], .int .i64 0]) ∧ Rd w' w'.heap.size 2 A' 1 (fcells [(a.data.toList, b.data.toList)]) ∧ Below w5.heap.size w5 w') at p2
  obtain ⟨vM, hvM⟩ : ∃ x : ByteArray, x = ⟨(rM (get1 ++ crlfL ++ (a.data.toList ++ [58] ++ b.data.toList ++ [32, 9]) ++ endL)).toArray⟩ := ⟨_, rfl⟩
  obtain ⟨vT, hvT⟩ : ∃ x : ByteArray, x = ⟨(rT (get1 ++ crlfL ++ (a.data.toList ++ [58] ++ b.data.toList ++ [32, 9]) ++ endL)).toArray⟩ := ⟨_, rfl⟩
  obtain ⟨vN, hvN⟩ : ∃ x : Nat, x = rN (get1 ++ crlfL ++ (a.data.toList ++ [58] ++ b.data.toList ++ [32, 9]) ++ endL) := ⟨_, rfl⟩
  simp only [← hvM, ← hvT, ← hvN] at p2
  clear hvM hvT hvN hdl k1 k2 k3 rr2 b5 t4 hsz hn2
  go_wp2_with fail
  refine p2.mono ?_
  rintro e w6 ⟨A6, c6, rfl, r6, b6⟩
  have t6 := t5.trans (b6.mono t5.size)
  obtain ⟨g6, o6, rfl, hb6, -, e61⟩ := r6.fld (k := 0) (by decide) (by simp)
  simp only [List.getElem_cons_zero, Nat.zero_mul, Nat.add_zero] at e61
  rw [bytes_of] at e61
  clear p2 r6 b6 hcv2 t5
  go_upto_region 6 with (fail)
  have k63 := cell_of_row (w6.alloc (.cells #[.string vM, .string vT, .int .i64 vN, .slice (some ⟨g6, o6, none⟩) 1 c6] 27)) w6.heap.size 3 #[.string vM, .string vT, .int .i64 vN, .slice (some ⟨g6, o6, none⟩) 1 c6] 27 (0, 0) (heap_alloc_new w6 _)
  have e62 := cell_past w6 (.cells #[.string vM, .string vT, .int .i64 vN, .slice (some ⟨g6, o6, none⟩) 1 c6] 27) e61
  generalize hW7 : w6.alloc _ = w7 at k63 e62 ⊢
  have t7 : Below w.heap.size w w7 := by rw [← hW7]; exact t6.alloc t6.size _
  have hg67 : w6.heap.size < w7.heap.size := by rw [← hW7]; simp
  obtain ⟨g, hg⟩ : ∃ g, w6.heap.size = g := ⟨_, rfl⟩
  rw [hg] at k63 hg67 hb6 ⊢
  simp at k63
  clear hW7 e61 t6 hg
  go_wp2_with fail
  refine (an w7 t7).mono ?_
  rintro e w8 ⟨rfl, b8⟩
  have k83 := (b8.cell (p := ⟨g, 3, none⟩) hg67).trans k63
  have e82 := (b8.cell (p := ⟨g6, o6 + 1, none⟩) (by show g6 < _; omega)).trans e62
  have t8 := t7.trans (b8.mono t7.size)
  clear k63 e62 b8 t7
  go_wp2_with fail
  go_ret
  exact ⟨rfl, t8⟩
set_option maxRecDepth 100000 in
set_option maxHeartbeats 3200000 in
theorem walk (n : Int) (a b : ByteArray) (w : World) (hn : (Lit.int .u8 n).wf = true) (ha : a.size ≤ 9223372036854775807) (hb : b.size ≤ 9223372036854775807) (mx : Int) (hm : w.cell? ⟨0, 0, none⟩ = some (.int .i64 mx)) :
    Calls Tryd.prog 3 #[.int .u8 n, .string a, .string b] w fun e w' => e = .returned (.bool true) ∧ Below w.heap.size w w' := by
  have hn' : 0 ≤ n ∧ n < 256 := by simp [Lit.wf, IntKind.min, IntKind.max, IntKind.signed, IntKind.bits] at hn; omega
  obtain ⟨m, rfl⟩ : ∃ m : Nat, n = m := ⟨n.toNat, by omega⟩
  have hm256 : m < 256 := by omega
  have q1 := refname_any a w ha
  have an := ans17_any w mx hm
  rcases hN : goodNameL a.data.toList with _ | _
  · rw [hN] at q1
    clear hN hn hn'
    go_enter Tryd.func3, Tryd.ntmps3
    go_wp2_with fail
    refine q1.mono ?_
    rintro e w1 ⟨rfl, rfl⟩
    go_wp2_with fail
    refine an.mono ?_
    rintro e w1 ⟨rfl, b1⟩
    go_wp2_with fail
    go_ret
    exact ⟨rfl, b1⟩
  · have q2 := refvalue_any b w hb
    rcases hV : goodValueL b.data.toList with _ | _
    · rw [hN] at q1
      rw [hV] at q2
      clear hN hV hn hn'
      go_enter Tryd.func3, Tryd.ntmps3
      go_wp2_with fail
      refine q1.mono ?_
      rintro e w1 ⟨rfl, rfl⟩
      go_wp2_with fail
      refine q2.mono ?_
      rintro e w1 ⟨rfl, rfl⟩
      go_wp2_with fail
      refine an.mono ?_
      rintro e w1 ⟨rfl, b1⟩
      go_wp2_with fail
      go_ret
      exact ⟨rfl, b1⟩
    · by_cases hb0 : b.size = 0
      · have hb1 : b = ⟨#[]⟩ := bytes_ext (by rw [List.eq_nil_of_length_eq_zero (show b.data.toList.length = 0 by rw [← size_of]; exact hb0)])
        subst hb1
        rw [hN] at q1
        rw [hV] at q2
        clear hN hV hn hn'
        go_enter Tryd.func3, Tryd.ntmps3
        go_wp2_with fail
        refine q1.mono ?_
        rintro e w1 ⟨rfl, rfl⟩
        go_wp2_with fail
        refine q2.mono ?_
        rintro e w1 ⟨rfl, rfl⟩
        go_wp2_with fail
        refine an.mono ?_
        rintro e w1 ⟨rfl, b1⟩
        go_wp2_with fail
        go_ret
        exact ⟨rfl, b1⟩
      · by_cases h2 : b.size ≤ 1000
        · exact walk2 m a b w hm256 hN hV hb0 h2 mx hm
        · have hz : (b.toList == []) = false := by
            rw [ByteArray.toList_eq, beq_eq_false_iff_ne]
            intro h
            exact hb0 (by rw [size_of, h]; rfl)
          rw [hN] at q1
          rw [hV] at q2
          clear hN hV hn hn'
          go_enter Tryd.func3, Tryd.ntmps3
          go_wp2_with fail
          refine q1.mono ?_
          rintro e w1 ⟨rfl, rfl⟩
          go_wp2_with fail
          refine q2.mono ?_
          rintro e w1 ⟨rfl, rfl⟩
          go_wp2_with fail
          refine an.mono ?_
          rintro e w1 ⟨rfl, b1⟩
          go_wp2_with fail
          go_ret
          exact ⟨rfl, b1⟩
end Go.Proofs.YtdeklollaffpaaaDoor.HeadStrictP
