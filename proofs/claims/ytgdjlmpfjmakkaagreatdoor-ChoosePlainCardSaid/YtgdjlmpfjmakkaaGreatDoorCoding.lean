/- The reference's Coding and Of; law 23's kind. -/
import Derived.Test.YtgdjlmpfjmakkaaGreatDoorTellSpec
import Derived.Test.YtgdjlmpfjmakkaaGreatDoorBox
namespace Go.Proofs.YtgdjlmpfjmakkaaGreatDoor
open Go.RowKit

def ofL (x : List UInt8) : Nat := if lowL x = cnameL 0 then 0 else if lowL x = cnameL 1 ∨ lowL x = [120, 45, 103, 122, 105, 112] then 1 else if lowL x = cnameL 2 then 2 else 3
set_option maxRecDepth 100000 in
set_option maxHeartbeats 3200000 in
theorem of_any (s : ByteArray) (w : World) (hs : s.size ≤ 1000000) :
    Calls Tryz.prog 25 #[.string s] w fun e w' => e = .returned (.int .i64 (ofL s.data.toList)) ∧ Below w.heap.size w w' := by
  have hlw := reflower_any s w (by omega)
  obtain ⟨x, hx⟩ : ∃ x, x = lowL s.data.toList := ⟨_, rfl⟩
  obtain ⟨r, hr⟩ : ∃ r, r = ofL s.data.toList := ⟨_, rfl⟩
  rw [← hr]
  unfold ofL at hr
  rw [← hx] at hr hlw
  obtain ⟨b, hb⟩ : ∃ b : ByteArray, b = ⟨x.toArray⟩ := ⟨_, rfl⟩
  rw [← hb] at hlw
  have q0 : (b.toList == [105, 100, 101, 110, 116, 105, 116, 121]) = decide (x = cnameL 0) := by rw [ByteArray.toList_eq, hb, Bool.eq_iff_iff, decide_eq_true_iff]; simp [cnameL]
  have q1 : (b.toList == [103, 122, 105, 112]) = decide (x = cnameL 1) := by rw [ByteArray.toList_eq, hb, Bool.eq_iff_iff, decide_eq_true_iff]; simp [cnameL]
  have q2 : (b.toList == [120, 45, 103, 122, 105, 112]) = decide (x = [120, 45, 103, 122, 105, 112]) := by rw [ByteArray.toList_eq, hb, Bool.eq_iff_iff, decide_eq_true_iff]; simp
  have q3 : (b.toList == [100, 101, 102, 108, 97, 116, 101]) = decide (x = cnameL 2) := by rw [ByteArray.toList_eq, hb, Bool.eq_iff_iff, decide_eq_true_iff]; simp [cnameL]
  by_cases h0 : x = cnameL 0
  · rw [if_pos h0] at hr
    rw [decide_eq_true h0] at q0
    subst hr
    clear hb hx h0 q1 q2 q3
    go_enter Tryz.func25, Tryz.ntmps25
    go_wp2_with fail
    refine hlw.mono ?_
    rintro e w1 ⟨rfl, b1⟩
    go_wp2
    go_ret
    exact ⟨rfl, b1⟩
  rw [if_neg h0] at hr
  rw [decide_eq_false h0] at q0
  by_cases h1 : x = cnameL 1
  · rw [if_pos (.inl h1)] at hr
    rw [decide_eq_true h1] at q1
    subst hr
    clear hb hx h0 h1 q2 q3
    go_enter Tryz.func25, Tryz.ntmps25
    go_wp2_with fail
    refine hlw.mono ?_
    rintro e w1 ⟨rfl, b1⟩
    go_wp2
    go_ret
    exact ⟨rfl, b1⟩
  rw [decide_eq_false h1] at q1
  by_cases h2 : x = [120, 45, 103, 122, 105, 112]
  · rw [if_pos (.inr h2)] at hr
    rw [decide_eq_true h2] at q2
    subst hr
    clear hb hx h0 h1 h2 q3
    go_enter Tryz.func25, Tryz.ntmps25
    go_wp2_with fail
    refine hlw.mono ?_
    rintro e w1 ⟨rfl, b1⟩
    go_wp2
    go_ret
    exact ⟨rfl, b1⟩
  rw [decide_eq_false h2] at q2
  rw [if_neg (fun h => h.elim h1 h2)] at hr
  by_cases h3 : x = cnameL 2
  · rw [if_pos h3] at hr
    rw [decide_eq_true h3] at q3
    subst hr
    clear hb hx h0 h1 h2 h3
    go_enter Tryz.func25, Tryz.ntmps25
    go_wp2_with fail
    refine hlw.mono ?_
    rintro e w1 ⟨rfl, b1⟩
    go_wp2
    go_ret
    exact ⟨rfl, b1⟩
  rw [if_neg h3] at hr
  rw [decide_eq_false h3] at q3
  subst hr
  clear hb hx h0 h1 h2 h3
  go_enter Tryz.func25, Tryz.ntmps25
  go_wp2_with fail
  refine hlw.mono ?_
  rintro e w1 ⟨rfl, b1⟩
  go_wp2
  go_ret
  exact ⟨rfl, b1⟩
theorem codingL_one (x : List UInt8) : codingL [x] = ofL x := rfl
set_option maxRecDepth 100000 in
set_option maxHeartbeats 3200000 in
theorem coding_any (minor status : Int) (s_ : ByteArray) (A : Option Addr) (n c B : Nat) (fs : List (List UInt8 × List UInt8)) (w : World) (h : Rd w B 2 A n (fcells fs)) (hB : B ≤ w.heap.size) (hn : n ≤ 1000) (hok : fsOk fs) :
    Calls Tryz.prog 13 #[.agg #[.int .i64 minor, .int .i64 status, .string s_, .slice A n c]] w fun e w' => e = .returned (.int .i64 (codingL (allL fs codeL))) ∧ Below w.heap.size w w' := by
  have t1 : Below w.heap.size w (w.alloc (.cells #[.int .i64 minor, .int .i64 status, .string s_, .slice A n c] 30)) := (Below.refl _ _).alloc (Nat.le_refl _) _
  have q := all_any A n c B fs ⟨#[99, 111, 110, 116, 101, 110, 116, 45, 101, 110, 99, 111, 100, 105, 110, 103]⟩ _ (h.below (t1.mono hB)) (Nat.le_trans hB t1.size) hn hok (by decide)
  change Calls Tryz.prog 22 _ _ (fun e w' => ∃ A' c', e = .returned (.slice A' (allL fs codeL).length c') ∧ w'.ownsRow (w.alloc (.cells #[.int .i64 minor, .int .i64 status, .string s_, .slice A n c] 30)).heap.size 9 1 (.slice A' (allL fs codeL).length c') (allL fs codeL).length (scells (allL fs codeL)) ∧ (allL fs codeL).length ≤ c' ∧ Below (w.alloc (.cells #[.int .i64 minor, .int .i64 status, .string s_, .slice A n c] 30)).heap.size _ w') at q
  have hmem := allV_mem _ (getL_mem hok codeL)
  change ∀ x ∈ allL fs codeL, _ at hmem
  obtain ⟨T, hT⟩ : ∃ T, T = allL fs codeL := ⟨_, rfl⟩
  rw [← hT] at q hmem ⊢
  clear hT h hok
  rcases T with _ | ⟨x, _ | ⟨y, T⟩⟩
  · simp only [List.length_nil] at q
    go_enter Tryz.func13, Tryz.ntmps13
    go_wp2_with fail
    refine q.mono ?_
    rintro e w2 ⟨A2, c2, rfl, o2, hc2, b2⟩
    go_wp2
    go_ret
    exact ⟨rfl, t1.trans (b2.mono t1.size)⟩
  · simp only [List.length_cons, List.length_nil, Nat.zero_add] at q
    have hxl := hmem x (by simp)
    rw [codingL_one]
    go_enter Tryz.func13, Tryz.ntmps13
    go_wp2_with fail
    refine q.mono ?_
    rintro e w2 ⟨A2, c2, rfl, o2, hc2, b2⟩
    have rT := Rd.of_own o2
    obtain ⟨a, rfl, -, hcell⟩ := rT.text (k := 0) (by omega) (by simp)
    rw [Addr.add_zero'] at hcell
    have hcell' : w2.cell? a = some (.string ⟨x.toArray⟩) := hcell
    have t2 := t1.trans (b2.mono t1.size)
    have ho := of_any ⟨x.toArray⟩ w2 (by rw [mk_size]; omega)
    rw [mk_list] at ho
    obtain ⟨sx, hsx⟩ : ∃ s : ByteArray, s = ⟨x.toArray⟩ := ⟨_, rfl⟩
    rw [← hsx] at hcell' ho
    clear hcell o2 rT hsx
    go_wp2_with fail
    refine ho.mono ?_
    rintro e w3 ⟨rfl, b3⟩
    go_wp2
    go_ret
    exact ⟨rfl, t2.trans (b3.mono t2.size)⟩
  · obtain ⟨m, hm⟩ : ∃ m, m = T.length := ⟨_, rfl⟩
    have e : (x :: y :: T).length = m + 2 := by rw [hm]; rfl
    rw [e] at q
    have e0 : ((m : Int) + 2 == 0) = false := by simp; omega
    have e1 : ((m : Int) + 2 == 1) = false := by simp; omega
    have e3 : codingL (x :: y :: T) = 3 := rfl
    rw [e3]
    clear e3 e hm hmem
    go_enter Tryz.func13, Tryz.ntmps13
    go_wp2_with fail
    refine q.mono ?_
    rintro e w2 ⟨A2, c2, rfl, o2, hc2, b2⟩
    go_wp2
    go_ret
    exact ⟨rfl, t1.trans (b2.mono t1.size)⟩
end Go.Proofs.YtgdjlmpfjmakkaaGreatDoor
