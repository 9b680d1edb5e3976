/- head.PrintRequest. -/
import Derived.Test.YtijlaclngibekaaGreatDoorKBoxG
import Derived.Deep.RegionHeld3
import Derived.Test.YtijlaclngibekaaGreatDoorKPow10
import Derived.Test.YtijlaclngibekaaGreatDoorKShelves
import Derived.Test.YtijlaclngibekaaGreatDoorKRefName
import Derived.Test.YtijlaclngibekaaGreatDoorKBase
import Derived.Deep.QuietTactic
import Derived.BigQuiet
namespace Go.Proofs.YtijlaclngibekaaGreatDoor
open Go.RowKit

def reqFirst (m t : List UInt8) (minor : Nat) : List UInt8 := m ++ [32] ++ t ++ [32] ++ verL ++ Lib.decDigits minor
def reqGood (m t : List UInt8) (minor : Int) : Bool := goodNameL m && (targetL t && decide (0 ≤ minor ∧ minor ≤ 1))
def preqE (m t : List UInt8) (minor : Int) (fs : List (List UInt8 × List UInt8)) : Nat := if reqGood m t minor then printE (reqFirst m t minor.toNat) fs else 2
def preqB (m t : List UInt8) (minor : Int) (fs : List (List UInt8 × List UInt8)) : List UInt8 := if reqGood m t minor then printB (reqFirst m t minor.toNat) fs else []
theorem cell_keep' {w w1 : World} {b off : Nat} {v : Value} (h : w.cell? ⟨b, off, none⟩ = some v) (hb : Below w.heap.size w w1) : w1.cell? ⟨b, off, none⟩ = some v :=
  (hb.cell (p := ⟨b, off, none⟩) (World.block_lt_of_cell? w _ h)).trans h
theorem dec2 (i : Nat) (h : i < 10) : (Lib.decDigits i).length = 1 := by unfold Lib.decDigits; rw [dif_pos h]; rfl

set_option maxRecDepth 100000 in
set_option maxHeartbeats 3200000 in
theorem printreq_any (m t : ByteArray) (minor : Int) (A : Option Addr) (n c B : Nat) (fs : List (List UInt8 × List UInt8)) (w : World) (h : Rd w B 2 A n (fcells fs)) (hB : B ≤ w.heap.size) (hn : n ≤ 1000) (hok : fsOk fs) (hms : m.size ≤ 1000000) (hts : t.size ≤ 1000000) :
    Calls Tryz.prog 109 #[.agg #[.string m, .string t, .int .i64 minor, .slice A n c]] w fun e w' => ∃ A' c', e = .returned (.tuple #[.slice A' (preqB m.data.toList t.data.toList minor fs).length c', .int .i64 (preqE m.data.toList t.data.toList minor fs)]) ∧
      Rd w' w'.heap.size 1 A' (preqB m.data.toList t.data.toList minor fs).length (bcells (preqB m.data.toList t.data.toList minor fs)) ∧ (preqB m.data.toList t.data.toList minor fs).length ≤ c' ∧ (A' = none → c' = 0) ∧ Below w.heap.size w w' := by
  have q1 := fun w => goodName_any m w (by omega)
  have q2 := fun w => goodTarget_any t w (by omega)
  have bx := Box.new w #[.string m, .string t, .int .i64 minor, .slice A n c] 80
  have ta : Below w.heap.size w (w.alloc (.cells #[.string m, .string t, .int .i64 minor, .slice A n c] 80)) := (Below.refl _ _).alloc (Nat.le_refl _) _
  obtain ⟨k0, k1, k2, k3⟩ := Box.four bx
  have gz : w.heap.size < (w.alloc (.cells #[.string m, .string t, .int .i64 minor, .slice A n c] 80)).heap.size := by simp
  unfold preqE preqB reqGood
  obtain ⟨gn, hgn⟩ : ∃ x, x = goodNameL m.data.toList := ⟨_, rfl⟩
  obtain ⟨gt, hgt⟩ : ∃ x, x = targetL t.data.toList := ⟨_, rfl⟩
  simp only [← hgn] at q1 ⊢
  simp only [← hgt] at q2 ⊢
  have endBad : ∀ W, Below w.heap.size w W → ∃ A' c', Ending.returned (.tuple #[.slice none 0 0, .int .i64 2]) = Ending.returned (.tuple #[.slice A' ([] : List UInt8).length c', .int .i64 2]) ∧ Rd W W.heap.size 1 A' ([] : List UInt8).length (bcells []) ∧ ([] : List UInt8).length ≤ c' ∧ (A' = none → c' = 0) ∧ Below w.heap.size w W := fun W b =>
    ⟨none, 0, rfl, Rd.nil_, Nat.le_refl _, fun _ => rfl, b⟩
  have hm256 : gn = true → m.size ≤ 256 := fun h => by
    rw [hgn] at h
    unfold goodNameL at h
    simp only [Bool.and_eq_true, decide_eq_true_eq] at h
    rw [size_of]; exact h.2
  have ht2048 : gt = true → t.size ≤ 2048 := fun h => by
    rw [hgt] at h
    unfold targetL at h
    simp only [Bool.and_eq_true, decide_eq_true_eq] at h
    rw [size_of]; exact h.2.2
  clear bx hgn hgt
  by_cases hg : gn = true ∧ gt = true ∧ 0 ≤ minor ∧ minor ≤ 1
  · obtain ⟨rfl, rfl, h0, h1⟩ := hg
    obtain ⟨mi, rfl⟩ : ∃ k : Nat, minor = k := ⟨minor.toNat, by omega⟩
    have hm01 : mi < 2 := by omega
    rw [Int.toNat_natCast]
    have hif : (true && (true && decide (0 ≤ (mi : Int) ∧ (mi : Int) ≤ 1))) = true := by simp; omega
    rw [hif]
    have q3 := fun w => Tryz.strconv_Itoa_small mi (by omega) w
    obtain ⟨D, hD⟩ : ∃ D : ByteArray, D = ⟨(Lib.decDigits mi).toArray⟩ := ⟨_, rfl⟩
    simp only [← hD] at q3
    have hDs : D.size = 1 := by rw [hD, mk_size, dec2 mi (by omega)]
    have hfl : (m ++ ⟨#[32]⟩ ++ t ++ ⟨#[32]⟩ ++ ⟨#[72, 84, 84, 80, 47, 49, 46]⟩ ++ D : ByteArray).data.toList = reqFirst m.data.toList t.data.toList mi := by
      rw [app_list, app_list, app_list, app_list, app_list, hD]
      rfl
    have hfs : (m ++ ⟨#[32]⟩ ++ t ++ ⟨#[32]⟩ ++ ⟨#[72, 84, 84, 80, 47, 49, 46]⟩ ++ D : ByteArray).size ≤ 1000000 := by
      rw [ByteArray.size_append, ByteArray.size_append, ByteArray.size_append, ByteArray.size_append, ByteArray.size_append, hDs]
      have := hm256 rfl
      have := ht2048 rfl
      change m.size + 1 + t.size + 1 + 7 + 1 ≤ _
      omega
    have q4 := fun (W : World) (r : Rd W B 2 A n (fcells fs)) (b : B ≤ W.heap.size) => printed_any _ A n c B fs W r b hn hok hfs
    rw [hfl] at q4
    obtain ⟨PE, hPE⟩ : ∃ x, x = printE (reqFirst m.data.toList t.data.toList mi) fs := ⟨_, rfl⟩
    obtain ⟨PB, hPB⟩ : ∃ x, x = printB (reqFirst m.data.toList t.data.toList mi) fs := ⟨_, rfl⟩
    simp only [← hPE, ← hPB] at q4
    rw [if_pos rfl, if_pos rfl, ← hPE, ← hPB]
    clear hfl hfs hD hPE hPB hif endBad hok
    have hr0 := h.below (ta.mono hB)
    have i0 : ¬ (mi : Int) < 0 := by omega
    have i1 : ¬ 1 < (mi : Int) := by omega
    have hm1 := hm256 rfl
    have ht1 := ht2048 rfl
    go_enter Tryz.func109, Tryz.ntmps109
    go_upto_region 1 with (fail)
    generalize w.alloc _ = w0 at k0 k1 k2 k3 gz ta hr0 ⊢
    have hB0 := Nat.le_trans hB ta.size
    go_wp2_with fail
    refine (q1 w0).mono ?_
    rintro e w1 ⟨rfl, rfl⟩
    go_wp2_with fail
    refine (q2 w0).mono ?_
    rintro e w1 ⟨rfl, rfl⟩
    go_upto_region 3 with (fail)
    clear q1 q2
    have q5 := q4 w0.drew hr0 hB0
    have y1 : ¬ 9223372036854775807 < m.size + 1 := by omega
    have y2 : ¬ 9223372036854775807 < m.size + 1 + t.size := by omega
    have y3 : ¬ 9223372036854775807 < m.size + 1 + t.size + 1 := by omega
    have y4 : ¬ 9223372036854775807 < m.size + 1 + t.size + 1 + 7 := by omega
    have y5 : ¬ 9223372036854775807 < m.size + 1 + t.size + 1 + 7 + 1 := by omega
    go_region_held3 (fun w' => w'.cell? ⟨w.heap.size, 0, none⟩ = some (.string m) ∧ w'.cell? ⟨w.heap.size, 1, none⟩ = some (.string t) ∧ w'.cell? ⟨w.heap.size, 2, none⟩ = some (.int .i64 mi) ∧ w'.cell? ⟨w.heap.size, 3, none⟩ = some (.slice A n c) ∧ Below w.heap.size w w')
      (first | exact ⟨k0, k1, k2, k3, below_drewN (k := 1) ta⟩ | exact ⟨cell_keep' (w := w0.drew) k0 k12, cell_keep' (w := w0.drew) k1 k12, cell_keep' (w := w0.drew) k2 k12, cell_keep' (w := w0.drew) k3 k12, (below_drewN (k := 1) ta).trans (k12.mono ta.size)⟩ | assumption)
      (first
        | (go_at_call 75; refine (q3 _).mono ?_; rintro e w13 ⟨rfl, rfl⟩)
        | (go_at_call 78; refine q5.mono ?_; rintro e w12 ⟨A', c', rfl, r12, l12, z12, k12⟩))
    all_goals
      go_wp2_with fail
      go_ret2
      exact ⟨A', c', rfl, r12, l12, z12, (below_drewN (k := 1) ta).trans (k12.mono ta.size)⟩
  · have hif : (gn && (gt && decide (0 ≤ minor ∧ minor ≤ 1))) = false := by
      rcases hx : (gn && (gt && decide (0 ≤ minor ∧ minor ≤ 1))) with _ | _
      · rfl
      · simp at hx; exact absurd hx hg
    rw [hif]
    change Calls _ _ _ w (fun e w' => ∃ A' c', e = .returned (.tuple #[.slice A' ([] : List UInt8).length c', .int .i64 2]) ∧ Rd w' w'.heap.size 1 A' ([] : List UInt8).length (bcells []) ∧ ([] : List UInt8).length ≤ c' ∧ (A' = none → c' = 0) ∧ Below w.heap.size w w')
    clear hif hm256 ht2048 h
    rcases gn with _ | _
    · clear hg
      go_enter Tryz.func109, Tryz.ntmps109
      go_upto_region 1 with (fail)
      generalize w.alloc _ = w0 at k0 k1 k2 k3 gz ta ⊢
      go_wp2_with fail
      refine (q1 w0).mono ?_
      rintro e w1 ⟨rfl, rfl⟩
      go_wp2_with fail
      go_ret2
      exact endBad _ ta
    · rcases gt with _ | _
      · clear hg
        go_enter Tryz.func109, Tryz.ntmps109
        go_upto_region 1 with (fail)
        generalize w.alloc _ = w0 at k0 k1 k2 k3 gz ta ⊢
        go_wp2_with fail
        refine (q1 w0).mono ?_
        rintro e w1 ⟨rfl, rfl⟩
        go_wp2_with fail
        refine (q2 w0).mono ?_
        rintro e w1 ⟨rfl, rfl⟩
        go_wp2_with fail
        go_ret2
        exact endBad _ ta
      · by_cases h0 : minor < 0
        · clear hg
          go_enter Tryz.func109, Tryz.ntmps109
          go_upto_region 1 with (fail)
          generalize w.alloc _ = w0 at k0 k1 k2 k3 gz ta ⊢
          go_wp2_with fail
          refine (q1 w0).mono ?_
          rintro e w1 ⟨rfl, rfl⟩
          go_wp2_with fail
          refine (q2 w0).mono ?_
          rintro e w1 ⟨rfl, rfl⟩
          go_wp2_with fail
          go_ret2
          exact endBad _ ta
        · have h1 : 1 < minor := by
            rcases Int.lt_or_le 1 minor with h | h
            · exact h
            · exact absurd ⟨rfl, rfl, by omega, h⟩ hg
          clear hg
          go_enter Tryz.func109, Tryz.ntmps109
          go_upto_region 1 with (fail)
          generalize w.alloc _ = w0 at k0 k1 k2 k3 gz ta ⊢
          go_wp2_with fail
          refine (q1 w0).mono ?_
          rintro e w1 ⟨rfl, rfl⟩
          go_wp2_with fail
          refine (q2 w0).mono ?_
          rintro e w1 ⟨rfl, rfl⟩
          go_wp2_with fail
          go_ret2
          exact endBad _ ta
end Go.Proofs.YtijlaclngibekaaGreatDoor
/- head.PrintResponse, goodReason. -/
namespace Go.Proofs.YtijlaclngibekaaGreatDoor
open Go.RowKit
set_option linter.unusedVariables false
set_option linter.unusedSimpArgs false

def resFirst (mi st : Nat) (rs : List UInt8) : List UInt8 := verL ++ Lib.decDigits mi ++ [32] ++ Lib.decDigits st ++ [32] ++ rs
def reasonB (l : List UInt8) : Bool := decide (l.length ≤ 4094) && l.all valueB
def resGood (mi st : Int) (rs : List UInt8) : Bool := decide (0 ≤ mi ∧ mi ≤ 1) && (decide (100 ≤ st ∧ st ≤ 599) && reasonB rs)
def presE (mi st : Int) (rs : List UInt8) (fs : List (List UInt8 × List UInt8)) : Nat := if resGood mi st rs then printE (resFirst mi.toNat st.toNat rs) fs else 2
def presB (mi st : Int) (rs : List UInt8) (fs : List (List UInt8 × List UInt8)) : List UInt8 := if resGood mi st rs then printB (resFirst mi.toNat st.toNat rs) fs else []
theorem goodval_x (l : List UInt8) (h : l.length ≤ 4094) : goodValueL ([120] ++ l ++ [120]) = l.all valueB := by
  have ht : trimL ([120] ++ l ++ [120]) = [120] ++ l ++ [120] := by
    have := trim_mid [] ([120] ++ l ++ [120]) [] rfl rfl (.inr ⟨120, rfl, by decide⟩) (.inr ⟨120, List.getLast?_concat, by decide⟩)
    simpa using this
  unfold goodValueL
  rw [ht]
  have hv : valueB 120 = true := by decide
  simp [hv]
  omega
set_option maxRecDepth 100000 in
set_option maxHeartbeats 3200000 in
theorem goodReason_any (s : ByteArray) (w : World) (hs : s.size ≤ 1000000) :
    Calls Tryz.prog 77 #[.string s] w fun e w' => e = .returned (.bool (reasonB s.data.toList)) ∧ Below w.heap.size w w' := by
  have HL := hide (size_of s)
  by_cases h : s.size ≤ 4094
  · have q := fun w => goodValue_any (⟨#[120]⟩ ++ s ++ ⟨#[120]⟩) w (by rw [ByteArray.size_append, ByteArray.size_append]; change 1 + s.size + 1 ≤ _; omega)
    rw [app_list, app_list] at q
    change ∀ w, Calls _ _ _ w (fun e w' => e = .returned (.bool (goodValueL ([120] ++ s.data.toList ++ [120]))) ∧ Below w.heap.size w w') at q
    have hg := goodval_x s.data.toList (by rw [← size_of]; exact h)
    have hr : reasonB s.data.toList = s.data.toList.all valueB := by
      unfold reasonB
      rw [decide_eq_true (by rw [← size_of]; exact h), Bool.true_and]
    rw [hr, ← hg]
    obtain ⟨gv, hgv⟩ : ∃ x, x = goodValueL ([120] ++ s.data.toList ++ [120]) := ⟨_, rfl⟩
    simp only [← hgv] at q ⊢
    have i1 : (s.size : Int) ≤ 4094 := by omega
    have y1 : ¬ 9223372036854775807 < 1 + s.size := by omega
    have y2 : ¬ 9223372036854775807 < 1 + s.size + 1 := by omega
    clear hg hr hgv
    go_enter Tryz.func77, Tryz.ntmps77
    go_wp2_with fail
    refine (q w).mono ?_
    rintro e w1 ⟨rfl, b1⟩
    go_wp2_with fail
    go_ret
    exact ⟨rfl, b1⟩
  · have hr : reasonB s.data.toList = false := by
      unfold reasonB
      rw [decide_eq_false (by rw [← size_of]; exact h), Bool.false_and]
    rw [hr]
    have i1 : ¬ (s.size : Int) ≤ 4094 := by omega
    go_enter Tryz.func77, Tryz.ntmps77
    go_wp2_with fail
    go_ret
    exact ⟨rfl, Below.refl _ _⟩
def PowTab (w : World) : Prop := Lib.TabBelow Tryz.prog w.heap.size w "internal/strconv.uint64pow10" .u64 Lib.pow10Tab
theorem PowTab.on {w w' : World} (h : PowTab w) (b : Below w.heap.size w w') : PowTab w' := Lib.tabBelow_of_tabIs (h w' b)
theorem dec3 {k : Nat} (h : k ≤ 599) : (Lib.decDigits k).length ≤ 3 := by
  by_cases h1 : k < 10
  · rw [Lib.decDigits_one h1]; simp
  · rw [Lib.decDigits, dif_neg h1]
    by_cases h2 : k / 10 < 10
    · rw [Lib.decDigits_one h2]; simp
    · rw [Lib.decDigits, dif_neg h2, Lib.decDigits_one (by omega)]; simp
theorem itoa_any (k : Nat) (hk : k ≤ 1000000) (w : World) (ht : PowTab w) : Calls Tryz.prog 75 #[.int .i64 k] w fun e w' => e = .returned (.string ⟨(Lib.decDigits k).toArray⟩) ∧ Below w.heap.size w w' := by
  refine (Tryz.strconv_Itoa k (by omega) (by omega) w ht.here).mono ?_
  rintro e w' ⟨rfl, q, os, rfl⟩
  refine ⟨by rw [Lib.itoa_nonneg], ?_⟩
  exact Lib.below_grow _ _ (Nat.le_refl _) _ _
set_option maxRecDepth 100000 in
set_option maxHeartbeats 3200000 in
theorem printresp_own (rs : ByteArray) (minor st : Int) (A : Option Addr) (n c B : Nat) (fs : List (List UInt8 × List UInt8)) (w : World) (h : Rd w B 2 A n (fcells fs)) (hB : B ≤ w.heap.size) (hn : n ≤ 1000) (hok : fsOk fs) (hrs : rs.size ≤ 1000000) (htab : PowTab w) :
    Calls Tryz.prog 50 #[.agg #[.int .i64 minor, .int .i64 st, .string rs, .slice A n c]] w fun e w' => ∃ A' c', e = .returned (.tuple #[.slice A' (presB minor st rs.data.toList fs).length c', .int .i64 (presE minor st rs.data.toList fs)]) ∧
      Rd w' w'.heap.size 1 A' (presB minor st rs.data.toList fs).length (bcells (presB minor st rs.data.toList fs)) ∧ (presB minor st rs.data.toList fs).length ≤ c' ∧ ((A' = none → c' = 0) ∧ w'.ownsRow w.heap.size 5 1 (.slice A' (presB minor st rs.data.toList fs).length c') (presB minor st rs.data.toList fs).length (bcells (presB minor st rs.data.toList fs))) ∧ Below w.heap.size w w' := by
  have q1 := fun w => goodReason_any rs w hrs
  have bx := Box.new w #[.int .i64 minor, .int .i64 st, .string rs, .slice A n c] 46
  have ta : Below w.heap.size w (w.alloc (.cells #[.int .i64 minor, .int .i64 st, .string rs, .slice A n c] 46)) := (Below.refl _ _).alloc (Nat.le_refl _) _
  obtain ⟨k0, k1, k2, k3⟩ := Box.four bx
  have gz : w.heap.size < (w.alloc (.cells #[.int .i64 minor, .int .i64 st, .string rs, .slice A n c] 46)).heap.size := by simp
  unfold presE presB resGood
  have hr4094 : reasonB rs.data.toList = true → rs.size ≤ 4094 := fun h => by
    unfold reasonB at h
    simp only [Bool.and_eq_true, decide_eq_true_eq] at h
    rw [size_of]; exact h.1
  obtain ⟨gr, hgr⟩ : ∃ x, x = reasonB rs.data.toList := ⟨_, rfl⟩
  simp only [← hgr] at q1 hr4094 ⊢
  have endBad : ∀ W, Below w.heap.size w W → ∃ A' c', Ending.returned (.tuple #[.slice none 0 0, .int .i64 2]) = Ending.returned (.tuple #[.slice A' ([] : List UInt8).length c', .int .i64 2]) ∧ Rd W W.heap.size 1 A' ([] : List UInt8).length (bcells []) ∧ ([] : List UInt8).length ≤ c' ∧ ((A' = none → c' = 0) ∧ W.ownsRow w.heap.size 5 1 (.slice A' ([] : List UInt8).length c') ([] : List UInt8).length (bcells [])) ∧ Below w.heap.size w W := fun W b =>
    ⟨none, 0, rfl, Rd.nil_, Nat.le_refl _, ⟨fun _ => rfl, World.ownsRow_nil _ _ _ _⟩, b⟩
  clear bx hgr
  by_cases hg : 0 ≤ minor ∧ minor ≤ 1 ∧ 100 ≤ st ∧ st ≤ 599 ∧ gr = true
  · obtain ⟨h0, h1, h2, h3, rfl⟩ := hg
    obtain ⟨mi, rfl⟩ : ∃ k : Nat, minor = k := ⟨minor.toNat, by omega⟩
    obtain ⟨si, rfl⟩ : ∃ k : Nat, st = k := ⟨st.toNat, by omega⟩
    rw [Int.toNat_natCast, Int.toNat_natCast]
    have hif : (decide (0 ≤ (mi : Int) ∧ (mi : Int) ≤ 1) && (decide (100 ≤ (si : Int) ∧ (si : Int) ≤ 599) && true)) = true := by simp; omega
    rw [hif]
    have q3 := fun w => Tryz.strconv_Itoa_small mi (by omega) w
    have q3s := fun (W : World) (b : Below w.heap.size w W) => itoa_any si (by omega) W (htab.on b)
    obtain ⟨D, hD⟩ : ∃ D : ByteArray, D = ⟨(Lib.decDigits mi).toArray⟩ := ⟨_, rfl⟩
    obtain ⟨E, hE⟩ : ∃ D : ByteArray, D = ⟨(Lib.decDigits si).toArray⟩ := ⟨_, rfl⟩
    simp only [← hD] at q3
    simp only [← hE] at q3s
    have hDs : D.size = 1 := by rw [hD, mk_size, dec2 mi (by omega)]
    have hEs : E.size ≤ 3 := by rw [hE, mk_size]; exact dec3 (by omega)
    have hfl : (⟨#[72, 84, 84, 80, 47, 49, 46]⟩ ++ D ++ ⟨#[32]⟩ ++ E ++ ⟨#[32]⟩ ++ rs : ByteArray).data.toList = resFirst mi si rs.data.toList := by
      rw [app_list, app_list, app_list, app_list, app_list, hD, hE]
      rfl
    have hr1 := hr4094 rfl
    have hfs : (⟨#[72, 84, 84, 80, 47, 49, 46]⟩ ++ D ++ ⟨#[32]⟩ ++ E ++ ⟨#[32]⟩ ++ rs : ByteArray).size ≤ 1000000 := by
      rw [ByteArray.size_append, ByteArray.size_append, ByteArray.size_append, ByteArray.size_append, ByteArray.size_append, hDs]
      change 7 + 1 + 1 + E.size + 1 + rs.size ≤ _
      omega
    have q4 := fun (W : World) (r : Rd W B 2 A n (fcells fs)) (b : B ≤ W.heap.size) => printed_own _ A n c B fs W r b hn hok hfs
    rw [hfl] at q4
    obtain ⟨PE, hPE⟩ : ∃ x, x = printE (resFirst mi si rs.data.toList) fs := ⟨_, rfl⟩
    obtain ⟨PB, hPB⟩ : ∃ x, x = printB (resFirst mi si rs.data.toList) fs := ⟨_, rfl⟩
    simp only [← hPE, ← hPB] at q4
    rw [if_pos rfl, if_pos rfl, ← hPE, ← hPB]
    clear hfl hfs hD hE hPE hPB hif endBad hok hr4094
    have hr0 := h.below (ta.mono hB)
    have i0 : ¬ (mi : Int) < 0 := by omega
    have i1 : ¬ 1 < (mi : Int) := by omega
    have i2 : ¬ (si : Int) < 100 := by omega
    have i3 : ¬ 599 < (si : Int) := by omega
    go_enter Tryz.func50, Tryz.ntmps50
    go_upto_region 1 with (fail)
    generalize w.alloc _ = w0 at k0 k1 k2 k3 gz ta hr0 ⊢
    have hB0 := Nat.le_trans hB ta.size
    go_wp2_with fail
    refine (q1 w0).mono ?_
    rintro e w1 ⟨rfl, b1⟩
    go_upto_region 3 with (fail)
    have tb := ta.trans (b1.mono ta.size)
    have k0' := cell_keep' k0 b1
    have k1' := cell_keep' k1 b1
    have k2' := cell_keep' k2 b1
    have k3' := cell_keep' k3 b1
    have hB1 := Nat.le_trans hB0 b1.size
    have q6 := q3s w1.drew (below_drewN (k := 1) tb)
    have q5 := fun (W : World) (b : Below w1.heap.size w1 W) => q4 W ((hr0.below (b1.mono hB0)).below (b.mono hB1)) (Nat.le_trans hB1 b.size)
    clear q1 q3s q4 k0 k1 k2 k3
    have y1 : ¬ 9223372036854775807 < 7 + D.size := by omega
    have y2 : ¬ 9223372036854775807 < 7 + D.size + 1 := by omega
    have y3 : ¬ 9223372036854775807 < 7 + D.size + 1 + E.size := by omega
    have y4 : ¬ 9223372036854775807 < 7 + D.size + 1 + E.size + 1 := by omega
    have y5 : ¬ 9223372036854775807 < 7 + D.size + 1 + E.size + 1 + rs.size := by omega
    clear hDs hEs hr1
    go_region_held3 (fun w' => w'.cell? ⟨w.heap.size, 0, none⟩ = some (.int .i64 mi) ∧ w'.cell? ⟨w.heap.size, 1, none⟩ = some (.int .i64 si) ∧ w'.cell? ⟨w.heap.size, 2, none⟩ = some (.string rs) ∧ w'.cell? ⟨w.heap.size, 3, none⟩ = some (.slice A n c) ∧ Below w1.heap.size w1 w')
      (first
        | exact ⟨k0', k1', k2', k3', below_drewN (k := 1) (Below.refl _ _)⟩
        | exact ⟨cell_keep' (w := w1.drew) k0' (k14.trans (k12.mono k14.size)), cell_keep' (w := w1.drew) k1' (k14.trans (k12.mono k14.size)), cell_keep' (w := w1.drew) k2' (k14.trans (k12.mono k14.size)), cell_keep' (w := w1.drew) k3' (k14.trans (k12.mono k14.size)), (below_drewN (k := 1) (Below.refl w1.heap.size w1)).trans (k14.trans (k12.mono k14.size))⟩
        | exact ⟨cell_keep' (w := w1.drew) k0' k14, cell_keep' (w := w1.drew) k1' k14, cell_keep' (w := w1.drew) k2' k14, cell_keep' (w := w1.drew) k3' k14, (below_drewN (k := 1) (Below.refl w1.heap.size w1)).trans k14⟩
        | assumption)
      (first
        | (go_at_call 75; refine (q3 _).mono ?_; rintro e w13 ⟨rfl, rfl⟩)
        | (go_at_call 75; refine q6.mono ?_; rintro e w14 ⟨rfl, k14⟩)
        | (go_at_call 78; refine (q5 w14 ((below_drewN (k := 1) (Below.refl w1.heap.size w1)).trans k14)).mono ?_; rintro e w12 ⟨A', c', rfl, r12, l12, z12, k12⟩))
    all_goals
      go_wp2_with fail
      go_ret2
      exact ⟨A', c', rfl, r12, l12, ⟨z12.1, own_lower z12.2 (Nat.le_trans tb.size (Nat.le_trans (below_drewN (k := 1) (Below.refl w1.heap.size w1)).size k14.size))⟩, tb.trans ((((below_drewN (k := 1) (Below.refl w1.heap.size w1)).trans k14).trans (k12.mono k14.size)).mono tb.size)⟩
  · have hif : (decide (0 ≤ minor ∧ minor ≤ 1) && (decide (100 ≤ st ∧ st ≤ 599) && gr)) = false := by
      rcases hx : (decide (0 ≤ minor ∧ minor ≤ 1) && (decide (100 ≤ st ∧ st ≤ 599) && gr)) with _ | _
      · rfl
      · simp only [Bool.and_eq_true, decide_eq_true_eq] at hx; exact absurd ⟨hx.1.1, hx.1.2, hx.2.1.1, hx.2.1.2, hx.2.2⟩ hg
    rw [hif]
    change Calls _ _ _ w (fun e w' => ∃ A' c', e = .returned (.tuple #[.slice A' ([] : List UInt8).length c', .int .i64 2]) ∧ Rd w' w'.heap.size 1 A' ([] : List UInt8).length (bcells []) ∧ ([] : List UInt8).length ≤ c' ∧ ((A' = none → c' = 0) ∧ w'.ownsRow w.heap.size 5 1 (.slice A' ([] : List UInt8).length c') ([] : List UInt8).length (bcells [])) ∧ Below w.heap.size w w')
    clear hif hr4094 h
    by_cases c1 : minor < 0
    · clear hg
      go_enter Tryz.func50, Tryz.ntmps50
      go_upto_region 1 with (fail)
      generalize w.alloc _ = w0 at k0 k1 k2 k3 gz ta ⊢
      go_wp2_with fail
      go_ret2
      first | exact endBad _ ta | simpa using endBad _ ta
    by_cases c2 : 1 < minor
    · clear hg
      go_enter Tryz.func50, Tryz.ntmps50
      go_upto_region 1 with (fail)
      generalize w.alloc _ = w0 at k0 k1 k2 k3 gz ta ⊢
      go_wp2_with fail
      go_ret2
      first | exact endBad _ ta | simpa using endBad _ ta
    by_cases c3 : st < 100
    · clear hg
      go_enter Tryz.func50, Tryz.ntmps50
      go_upto_region 1 with (fail)
      generalize w.alloc _ = w0 at k0 k1 k2 k3 gz ta ⊢
      go_wp2_with fail
      go_ret2
      first | exact endBad _ ta | simpa using endBad _ ta
    by_cases c4 : 599 < st
    · clear hg
      go_enter Tryz.func50, Tryz.ntmps50
      go_upto_region 1 with (fail)
      generalize w.alloc _ = w0 at k0 k1 k2 k3 gz ta ⊢
      go_wp2_with fail
      go_ret2
      first | exact endBad _ ta | simpa using endBad _ ta
    obtain rfl : gr = false := by
      cases gr with
      | false => rfl
      | true => exact absurd ⟨by omega, by omega, by omega, by omega, rfl⟩ hg
    clear hg
    go_enter Tryz.func50, Tryz.ntmps50
    go_upto_region 1 with (fail)
    generalize w.alloc _ = w0 at k0 k1 k2 k3 gz ta ⊢
    go_wp2_with fail
    refine (q1 w0).mono ?_
    rintro e w1 ⟨rfl, b1⟩
    go_wp2_with fail
    go_ret2
    exact endBad _ (ta.trans (b1.mono ta.size))
theorem printresp_any (rs : ByteArray) (minor st : Int) (A : Option Addr) (n c B : Nat) (fs : List (List UInt8 × List UInt8)) (w : World) (h : Rd w B 2 A n (fcells fs)) (hB : B ≤ w.heap.size) (hn : n ≤ 1000) (hok : fsOk fs) (hrs : rs.size ≤ 1000000) (htab : PowTab w) :
    Calls Tryz.prog 50 #[.agg #[.int .i64 minor, .int .i64 st, .string rs, .slice A n c]] w fun e w' => ∃ A' c', e = .returned (.tuple #[.slice A' (presB minor st rs.data.toList fs).length c', .int .i64 (presE minor st rs.data.toList fs)]) ∧
      Rd w' w'.heap.size 1 A' (presB minor st rs.data.toList fs).length (bcells (presB minor st rs.data.toList fs)) ∧ (presB minor st rs.data.toList fs).length ≤ c' ∧ (A' = none → c' = 0) ∧ Below w.heap.size w w' := by
  refine (printresp_own rs minor st A n c B fs w h hB hn hok hrs htab).mono ?_
  rintro e w' ⟨A', c', h1, h2, h3, h4, h5⟩
  exact ⟨A', c', h1, h2, h3, h4.1, h5⟩
end Go.Proofs.YtijlaclngibekaaGreatDoor
/- The reference's Target, Reason and printed. -/
namespace Go.Proofs.YtijlaclngibekaaGreatDoor
open Go.RowKit
set_option linter.unusedVariables false
set_option linter.unusedSimpArgs false

theorem udig_dec (n : Nat) : udig n = Lib.decDigits n := by
  have hd : ∀ k : Nat, k < 10 → (48 + UInt8.ofNat k) = UInt8.ofNat (48 + k) := by decide
  induction n using udig.induct with
  | case1 n h => rw [udig, dif_pos h, Lib.decDigits, dif_pos h, hd _ (Nat.mod_lt _ (by decide)), Nat.mod_eq_of_lt h]
  | case2 n h ih => rw [udig, dif_neg h, Lib.decDigits, dif_neg h, ih, hd _ (Nat.mod_lt _ (by decide))]
theorem conv_bytes' (W : World) (s : ByteArray) (hs : s.size ≤ 1000000) :
    ∃ A c w', (convert 9 35 (.string s)).run Tryz.prog W = .ok (.slice (some A) s.size c) w' ∧ Rd w' w'.heap.size 1 (some A) s.size (bcells s.data.toList) ∧ s.size ≤ c ∧ Below W.heap.size W w' := by
  have hcv := run_bytes_of_string (P := Tryz.prog) W 9 35 5 s Tryz.underlying9 Tryz.underlying35 Tryz.underlying5
  obtain ⟨c, hc⟩ : ∃ c, c = grownCap W s.size 0 5 := ⟨_, rfl⟩
  have hc1 : s.size ≤ c := by rw [hc]; exact grownCap_ge _ _ _ _
  have hc2 : c ≤ maxLen := by rw [hc]; exact grownCap_le_maxLen _ _ _ _ (by simp [maxLen]; omega)
  rw [← hc] at hcv
  have ho := ow_of_string W 5 s c hc1 hc2
  exact ⟨_, _, _, hcv, ho.rd, hc1, (Below.refl _ _).drew.alloc (Nat.le_refl _) _⟩
set_option maxRecDepth 100000 in
set_option maxHeartbeats 3200000 in
theorem refreason_any (s : ByteArray) (w : World) (hs : s.size ≤ 1000000) :
    Calls Tryz.prog 40 #[.string s] w fun e w' => e = .returned (.bool (reasonB s.data.toList)) ∧ Below w.heap.size w w' := by
  have q := plain_any s w (by omega)
  have hr : reasonB s.data.toList = (plainL s.data.toList && decide ((s.size : Int) ≤ 4094)) := by
    unfold reasonB plainL
    rw [size_of, Bool.and_comm]
    congr 1
    exact decide_eq_decide.2 (by omega)
  rw [hr]
  obtain ⟨p, hp⟩ : ∃ p, p = plainL s.data.toList := ⟨_, rfl⟩
  rw [← hp] at q ⊢
  clear hr hp
  cases p with
  | false =>
    go_enter Tryz.func40, Tryz.ntmps40
    go_wp2_with fail
    refine q.mono ?_
    rintro e w1 ⟨rfl, rfl⟩
    go_wp2_with fail
    go_ret
    exact ⟨rfl, Below.refl _ _⟩
  | true =>
    go_enter Tryz.func40, Tryz.ntmps40
    go_wp2_with fail
    refine q.mono ?_
    rintro e w1 ⟨rfl, rfl⟩
    go_wp2_with fail
    go_ret
    exact ⟨ret_bool (by simp), Below.refl _ _⟩
theorem hasPrefix_slash (l : List UInt8) : Lib.hasPrefix l [47] = decide (l.head? = some 47) := by
  unfold Lib.hasPrefix
  cases l with
  | nil => rfl
  | cons a l => simp [List.isPrefixOf, Bool.beq_eq_decide_eq, eq_comm]
end Go.Proofs.YtijlaclngibekaaGreatDoor
