/- head.PrintResponse, goodReason. -/
import Derived.Test.YtfifoimnebbflaaGreatDoorPrintReq
import Derived.Test.YtfifoimnebbflaaGreatDoorPow10
import Derived.Test.YtfifoimnebbflaaGreatDoorShelf5
namespace Go.Proofs.YtfifoimnebbflaaGreatDoor
open Go.RowKit
set_option linter.unusedVariables false
set_option linter.unusedSimpArgs false

def resFirst (mi st : Nat) (rs : List UInt8) : List UInt8 := verL ++ Lib.decDigits mi ++ [32] ++ Lib.decDigits st ++ [32] ++ rs
def reasonL (l : List UInt8) : Bool := decide (l.length ≤ 4094) && l.all valueB
def resGood (mi st : Int) (rs : List UInt8) : Bool := decide (0 ≤ mi ∧ mi ≤ 1) && (decide (100 ≤ st ∧ st ≤ 599) && reasonL rs)
def presE (mi st : Int) (rs : List UInt8) (fs : List (List UInt8 × List UInt8)) : Nat := if resGood mi st rs then printE (resFirst mi.toNat st.toNat rs) fs else 2
def presB (mi st : Int) (rs : List UInt8) (fs : List (List UInt8 × List UInt8)) : List UInt8 := if resGood mi st rs then printB (resFirst mi.toNat st.toNat rs) fs else []
theorem goodval_x (l : List UInt8) (h : l.length ≤ 4094) : goodValueL ([120] ++ l ++ [120]) = l.all valueB := by
  have ht : trimL ([120] ++ l ++ [120]) = [120] ++ l ++ [120] := by
    have := trim_mid [] ([120] ++ l ++ [120]) [] rfl rfl (.inr ⟨120, rfl, by decide⟩) (.inr ⟨120, List.getLast?_concat, by decide⟩)
    simpa using this
  unfold goodValueL
  rw [ht]
  have hv : valueB 120 = true := by decide
  simp [hv]
  omega
set_option maxRecDepth 100000 in
set_option maxHeartbeats 3200000 in
theorem goodReason_any (s : ByteArray) (w : World) (hs : s.size ≤ 1000000) :
    Calls Tryz.prog 46 #[.string s] w fun e w' => e = .returned (.bool (reasonL s.data.toList)) ∧ Below w.heap.size w w' := by
  have HL := hide (size_of s)
  by_cases h : s.size ≤ 4094
  · have q := fun w => goodValue_any (⟨#[120]⟩ ++ s ++ ⟨#[120]⟩) w (by rw [ByteArray.size_append, ByteArray.size_append]; change 1 + s.size + 1 ≤ _; omega)
    rw [app_list, app_list] at q
    change ∀ w, Calls _ _ _ w (fun e w' => e = .returned (.bool (goodValueL ([120] ++ s.data.toList ++ [120]))) ∧ Below w.heap.size w w') at q
    have hg := goodval_x s.data.toList (by rw [← size_of]; exact h)
    have hr : reasonL s.data.toList = s.data.toList.all valueB := by
      unfold reasonL
      rw [decide_eq_true (by rw [← size_of]; exact h), Bool.true_and]
    rw [hr, ← hg]
    obtain ⟨gv, hgv⟩ : ∃ x, x = goodValueL ([120] ++ s.data.toList ++ [120]) := ⟨_, rfl⟩
    simp only [← hgv] at q ⊢
    have i1 : (s.size : Int) ≤ 4094 := by omega
    have y1 : ¬ 9223372036854775807 < 1 + s.size := by omega
    have y2 : ¬ 9223372036854775807 < 1 + s.size + 1 := by omega
    clear hg hr hgv
    go_enter Tryz.func46, Tryz.ntmps46
    go_wp2_with fail
    refine (q w).mono ?_
    rintro e w1 ⟨rfl, b1⟩
    go_wp2_with fail
    go_ret
    exact ⟨rfl, b1⟩
  · have hr : reasonL s.data.toList = false := by
      unfold reasonL
      rw [decide_eq_false (by rw [← size_of]; exact h), Bool.false_and]
    rw [hr]
    have i1 : ¬ (s.size : Int) ≤ 4094 := by omega
    go_enter Tryz.func46, Tryz.ntmps46
    go_wp2_with fail
    go_ret
    exact ⟨rfl, Below.refl _ _⟩
def PowTab (w : World) : Prop := Lib.TabBelow Tryz.prog w.heap.size w "internal/strconv.uint64pow10" .u64 Lib.pow10Tab
theorem PowTab.on {w w' : World} (h : PowTab w) (b : Below w.heap.size w w') : PowTab w' := Lib.tabBelow_of_tabIs (h w' b)
theorem dec3 {k : Nat} (h : k ≤ 599) : (Lib.decDigits k).length ≤ 3 := by
  by_cases h1 : k < 10
  · rw [Lib.decDigits_one h1]; simp
  · rw [Lib.decDigits, dif_neg h1]
    by_cases h2 : k / 10 < 10
    · rw [Lib.decDigits_one h2]; simp
    · rw [Lib.decDigits, dif_neg h2, Lib.decDigits_one (by omega)]; simp
theorem itoa_any (k : Nat) (hk : k ≤ 1000000) (w : World) (ht : PowTab w) : Calls Tryz.prog 45 #[.int .i64 k] w fun e w' => e = .returned (.string ⟨(Lib.decDigits k).toArray⟩) ∧ Below w.heap.size w w' := by
  refine (Tryz.strconv_Itoa k (by omega) (by omega) w ht.here).mono ?_
  rintro e w' ⟨rfl, q, os, rfl⟩
  refine ⟨by rw [Lib.itoa_nonneg], ?_⟩
  exact Lib.below_grow _ _ (Nat.le_refl _) _ _
set_option maxRecDepth 100000 in
set_option maxHeartbeats 3200000 in
theorem printresp_any (rs : ByteArray) (minor st : Int) (A : Option Addr) (n c B : Nat) (fs : List (List UInt8 × List UInt8)) (w : World) (h : Rd w B 2 A n (fcells fs)) (hB : B ≤ w.heap.size) (hn : n ≤ 1000) (hok : fsOk fs) (hrs : rs.size ≤ 1000000) (htab : PowTab w) :
    Calls Tryz.prog 20 #[.agg #[.int .i64 minor, .int .i64 st, .string rs, .slice A n c]] w fun e w' => ∃ A' c', e = .returned (.tuple #[.slice A' (presB minor st rs.data.toList fs).length c', .int .i64 (presE minor st rs.data.toList fs)]) ∧
      Rd w' w'.heap.size 1 A' (presB minor st rs.data.toList fs).length (bcells (presB minor st rs.data.toList fs)) ∧ (presB minor st rs.data.toList fs).length ≤ c' ∧ (A' = none → c' = 0) ∧ Below w.heap.size w w' := by
  have q1 := fun w => goodReason_any rs w hrs
  have bx := Box.new w #[.int .i64 minor, .int .i64 st, .string rs, .slice A n c] 45
  have ta : Below w.heap.size w (w.alloc (.cells #[.int .i64 minor, .int .i64 st, .string rs, .slice A n c] 45)) := (Below.refl _ _).alloc (Nat.le_refl _) _
  obtain ⟨k0, k1, k2, k3⟩ := Box.four bx
  have gz : w.heap.size < (w.alloc (.cells #[.int .i64 minor, .int .i64 st, .string rs, .slice A n c] 45)).heap.size := by simp
  unfold presE presB resGood
  have hr4094 : reasonL rs.data.toList = true → rs.size ≤ 4094 := fun h => by
    unfold reasonL at h
    simp only [Bool.and_eq_true, decide_eq_true_eq] at h
    rw [size_of]; exact h.1
  obtain ⟨gr, hgr⟩ : ∃ x, x = reasonL rs.data.toList := ⟨_, rfl⟩
  simp only [← hgr] at q1 hr4094 ⊢
  have endBad : ∀ W, Below w.heap.size w W → ∃ A' c', Ending.returned (.tuple #[.slice none 0 0, .int .i64 2]) = Ending.returned (.tuple #[.slice A' ([] : List UInt8).length c', .int .i64 2]) ∧ Rd W W.heap.size 1 A' ([] : List UInt8).length (bcells []) ∧ ([] : List UInt8).length ≤ c' ∧ (A' = none → c' = 0) ∧ Below w.heap.size w W := fun W b =>
    ⟨none, 0, rfl, Rd.nil_, Nat.le_refl _, fun _ => rfl, b⟩
  clear bx hgr
  by_cases hg : 0 ≤ minor ∧ minor ≤ 1 ∧ 100 ≤ st ∧ st ≤ 599 ∧ gr = true
  · obtain ⟨h0, h1, h2, h3, rfl⟩ := hg
    obtain ⟨mi, rfl⟩ : ∃ k : Nat, minor = k := ⟨minor.toNat, by omega⟩
    obtain ⟨si, rfl⟩ : ∃ k : Nat, st = k := ⟨st.toNat, by omega⟩
    rw [Int.toNat_natCast, Int.toNat_natCast]
    have hif : (decide (0 ≤ (mi : Int) ∧ (mi : Int) ≤ 1) && (decide (100 ≤ (si : Int) ∧ (si : Int) ≤ 599) && true)) = true := by simp; omega
    rw [hif]
    have q3 := fun w => Tryz.strconv_Itoa_small mi (by omega) w
    have q3s := fun (W : World) (b : Below w.heap.size w W) => itoa_any si (by omega) W (htab.on b)
    obtain ⟨D, hD⟩ : ∃ D : ByteArray, D = ⟨(Lib.decDigits mi).toArray⟩ := ⟨_, rfl⟩
    obtain ⟨E, hE⟩ : ∃ D : ByteArray, D = ⟨(Lib.decDigits si).toArray⟩ := ⟨_, rfl⟩
    simp only [← hD] at q3
    simp only [← hE] at q3s
    have hDs : D.size = 1 := by rw [hD, mk_size, dec2 mi (by omega)]
    have hEs : E.size ≤ 3 := by rw [hE, mk_size]; exact dec3 (by omega)
    have hfl : (⟨#[72, 84, 84, 80, 47, 49, 46]⟩ ++ D ++ ⟨#[32]⟩ ++ E ++ ⟨#[32]⟩ ++ rs : ByteArray).data.toList = resFirst mi si rs.data.toList := by
      rw [app_list, app_list, app_list, app_list, app_list, hD, hE]
      rfl
    have hr1 := hr4094 rfl
    have hfs : (⟨#[72, 84, 84, 80, 47, 49, 46]⟩ ++ D ++ ⟨#[32]⟩ ++ E ++ ⟨#[32]⟩ ++ rs : ByteArray).size ≤ 1000000 := by
      rw [ByteArray.size_append, ByteArray.size_append, ByteArray.size_append, ByteArray.size_append, ByteArray.size_append, hDs]
      change 7 + 1 + 1 + E.size + 1 + rs.size ≤ _
      omega
    have q4 := fun (W : World) (r : Rd W B 2 A n (fcells fs)) (b : B ≤ W.heap.size) => printed_any _ A n c B fs W r b hn hok hfs
    rw [hfl] at q4
    obtain ⟨PE, hPE⟩ : ∃ x, x = printE (resFirst mi si rs.data.toList) fs := ⟨_, rfl⟩
    obtain ⟨PB, hPB⟩ : ∃ x, x = printB (resFirst mi si rs.data.toList) fs := ⟨_, rfl⟩
    simp only [← hPE, ← hPB] at q4
    rw [if_pos rfl, if_pos rfl, ← hPE, ← hPB]
    clear hfl hfs hD hE hPE hPB hif endBad hok hr4094
    have hr0 := h.below (ta.mono hB)
    have i0 : ¬ (mi : Int) < 0 := by omega
    have i1 : ¬ 1 < (mi : Int) := by omega
    have i2 : ¬ (si : Int) < 100 := by omega
    have i3 : ¬ 599 < (si : Int) := by omega
    go_enter Tryz.func20, Tryz.ntmps20
    go_upto_region 1 with (fail)
    generalize w.alloc _ = w0 at k0 k1 k2 k3 gz ta hr0 ⊢
    have hB0 := Nat.le_trans hB ta.size
    go_wp2_with fail
    refine (q1 w0).mono ?_
    rintro e w1 ⟨rfl, b1⟩
    go_upto_region 3 with (fail)
    have tb := ta.trans (b1.mono ta.size)
    have k0' := cell_keep' k0 b1
    have k1' := cell_keep' k1 b1
    have k2' := cell_keep' k2 b1
    have k3' := cell_keep' k3 b1
    have hB1 := Nat.le_trans hB0 b1.size
    have q6 := q3s w1.drew (below_drewN (k := 1) tb)
    have q5 := fun (W : World) (b : Below w1.heap.size w1 W) => q4 W ((hr0.below (b1.mono hB0)).below (b.mono hB1)) (Nat.le_trans hB1 b.size)
    clear q1 q3s q4 k0 k1 k2 k3
    have y1 : ¬ 9223372036854775807 < 7 + D.size := by omega
    have y2 : ¬ 9223372036854775807 < 7 + D.size + 1 := by omega
    have y3 : ¬ 9223372036854775807 < 7 + D.size + 1 + E.size := by omega
    have y4 : ¬ 9223372036854775807 < 7 + D.size + 1 + E.size + 1 := by omega
    have y5 : ¬ 9223372036854775807 < 7 + D.size + 1 + E.size + 1 + rs.size := by omega
    clear hDs hEs hr1
    go_region_held3 (fun w' => w'.cell? ⟨w.heap.size, 0, none⟩ = some (.int .i64 mi) ∧ w'.cell? ⟨w.heap.size, 1, none⟩ = some (.int .i64 si) ∧ w'.cell? ⟨w.heap.size, 2, none⟩ = some (.string rs) ∧ w'.cell? ⟨w.heap.size, 3, none⟩ = some (.slice A n c) ∧ Below w1.heap.size w1 w')
      (first
        | exact ⟨k0', k1', k2', k3', below_drewN (k := 1) (Below.refl _ _)⟩
        | exact ⟨cell_keep' (w := w1.drew) k0' (k14.trans (k12.mono k14.size)), cell_keep' (w := w1.drew) k1' (k14.trans (k12.mono k14.size)), cell_keep' (w := w1.drew) k2' (k14.trans (k12.mono k14.size)), cell_keep' (w := w1.drew) k3' (k14.trans (k12.mono k14.size)), (below_drewN (k := 1) (Below.refl w1.heap.size w1)).trans (k14.trans (k12.mono k14.size))⟩
        | exact ⟨cell_keep' (w := w1.drew) k0' k14, cell_keep' (w := w1.drew) k1' k14, cell_keep' (w := w1.drew) k2' k14, cell_keep' (w := w1.drew) k3' k14, (below_drewN (k := 1) (Below.refl w1.heap.size w1)).trans k14⟩
        | assumption)
      (first
        | (go_at_call 45; refine (q3 _).mono ?_; rintro e w13 ⟨rfl, rfl⟩)
        | (go_at_call 45; refine q6.mono ?_; rintro e w14 ⟨rfl, k14⟩)
        | (go_at_call 44; refine (q5 w14 ((below_drewN (k := 1) (Below.refl w1.heap.size w1)).trans k14)).mono ?_; rintro e w12 ⟨A', c', rfl, r12, l12, z12, k12⟩))
    all_goals
      go_wp2_with fail
      go_ret2
      exact ⟨A', c', rfl, r12, l12, z12, tb.trans ((((below_drewN (k := 1) (Below.refl w1.heap.size w1)).trans k14).trans (k12.mono k14.size)).mono tb.size)⟩
  · have hif : (decide (0 ≤ minor ∧ minor ≤ 1) && (decide (100 ≤ st ∧ st ≤ 599) && gr)) = false := by
      rcases hx : (decide (0 ≤ minor ∧ minor ≤ 1) && (decide (100 ≤ st ∧ st ≤ 599) && gr)) with _ | _
      · rfl
      · simp only [Bool.and_eq_true, decide_eq_true_eq] at hx; exact absurd ⟨hx.1.1, hx.1.2, hx.2.1.1, hx.2.1.2, hx.2.2⟩ hg
    rw [hif]
    change Calls _ _ _ w (fun e w' => ∃ A' c', e = .returned (.tuple #[.slice A' ([] : List UInt8).length c', .int .i64 2]) ∧ Rd w' w'.heap.size 1 A' ([] : List UInt8).length (bcells []) ∧ ([] : List UInt8).length ≤ c' ∧ (A' = none → c' = 0) ∧ Below w.heap.size w w')
    clear hif hr4094 h
    by_cases c1 : minor < 0
    · clear hg
      go_enter Tryz.func20, Tryz.ntmps20
      go_upto_region 1 with (fail)
      generalize w.alloc _ = w0 at k0 k1 k2 k3 gz ta ⊢
      go_wp2_with fail
      go_ret2
      first | exact endBad _ ta | simpa using endBad _ ta
    by_cases c2 : 1 < minor
    · clear hg
      go_enter Tryz.func20, Tryz.ntmps20
      go_upto_region 1 with (fail)
      generalize w.alloc _ = w0 at k0 k1 k2 k3 gz ta ⊢
      go_wp2_with fail
      go_ret2
      first | exact endBad _ ta | simpa using endBad _ ta
    by_cases c3 : st < 100
    · clear hg
      go_enter Tryz.func20, Tryz.ntmps20
      go_upto_region 1 with (fail)
      generalize w.alloc _ = w0 at k0 k1 k2 k3 gz ta ⊢
      go_wp2_with fail
      go_ret2
      first | exact endBad _ ta | simpa using endBad _ ta
    by_cases c4 : 599 < st
    · clear hg
      go_enter Tryz.func20, Tryz.ntmps20
      go_upto_region 1 with (fail)
      generalize w.alloc _ = w0 at k0 k1 k2 k3 gz ta ⊢
      go_wp2_with fail
      go_ret2
      first | exact endBad _ ta | simpa using endBad _ ta
    obtain rfl : gr = false := by
      cases gr with
      | false => rfl
      | true => exact absurd ⟨by omega, by omega, by omega, by omega, rfl⟩ hg
    clear hg
    go_enter Tryz.func20, Tryz.ntmps20
    go_upto_region 1 with (fail)
    generalize w.alloc _ = w0 at k0 k1 k2 k3 gz ta ⊢
    go_wp2_with fail
    refine (q1 w0).mono ?_
    rintro e w1 ⟨rfl, b1⟩
    go_wp2_with fail
    go_ret2
    exact endBad _ (ta.trans (b1.mono ta.size))
end Go.Proofs.YtfifoimnebbflaaGreatDoor
