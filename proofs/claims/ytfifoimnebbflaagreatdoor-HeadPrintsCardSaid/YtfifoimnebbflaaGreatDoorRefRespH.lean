/- The reference's PrintRequest and PrintResponse. -/
import Derived.Test.YtfifoimnebbflaaGreatDoorRefPrinted
import Derived.Test.YtfifoimnebbflaaGreatDoorPrintResp
namespace Go.Proofs.YtfifoimnebbflaaGreatDoor
open Go.RowKit
set_option linter.unusedVariables false
set_option linter.unusedSimpArgs false

set_option maxRecDepth 100000 in
set_option maxHeartbeats 3200000 in
theorem refprintresp_any (rs : ByteArray) (minor st : Int) (A : Option Addr) (n c B : Nat) (fs : List (List UInt8 × List UInt8)) (w : World) (h : Rd w B 2 A n (fcells fs)) (hB : B ≤ w.heap.size) (hn : n ≤ 1000) (hok : fsOk fs) (hrs : rs.size ≤ 1000000) :
    Calls Tryz.prog 21 #[.agg #[.int .i64 minor, .int .i64 st, .string rs, .slice A n c]] w fun e w' => ∃ A' c', e = .returned (.tuple #[.slice A' (presB minor st rs.data.toList fs).length c', .int .i64 (presE minor st rs.data.toList fs)]) ∧
      Rd w' w'.heap.size 1 A' (presB minor st rs.data.toList fs).length (bcells (presB minor st rs.data.toList fs)) ∧ (presB minor st rs.data.toList fs).length ≤ c' ∧ Below w.heap.size w w' := by
  have q1 := fun w => refreason_any rs w hrs
  have bx := Box.new w #[.int .i64 minor, .int .i64 st, .string rs, .slice A n c] 45
  have ta : Below w.heap.size w (w.alloc (.cells #[.int .i64 minor, .int .i64 st, .string rs, .slice A n c] 45)) := (Below.refl _ _).alloc (Nat.le_refl _) _
  obtain ⟨k0, k1, k2, k3⟩ := Box.four bx
  have gz : w.heap.size < (w.alloc (.cells #[.int .i64 minor, .int .i64 st, .string rs, .slice A n c] 45)).heap.size := by simp
  unfold presE presB resGood
  have hr4094 : reasonL rs.data.toList = true → rs.size ≤ 4094 := fun h => by
    unfold reasonL at h
    simp only [Bool.and_eq_true, decide_eq_true_eq] at h
    rw [size_of]; exact h.1
  obtain ⟨gr, hgr⟩ : ∃ x, x = reasonL rs.data.toList := ⟨_, rfl⟩
  simp only [← hgr] at q1 hr4094 ⊢
  have endBad : ∀ W, Below w.heap.size w W → ∃ A' c', Ending.returned (.tuple #[.slice none 0 0, .int .i64 2]) = Ending.returned (.tuple #[.slice A' ([] : List UInt8).length c', .int .i64 2]) ∧ Rd W W.heap.size 1 A' ([] : List UInt8).length (bcells []) ∧ ([] : List UInt8).length ≤ c' ∧ Below w.heap.size w W := fun W b =>
    ⟨none, 0, rfl, Rd.nil_, Nat.le_refl _, b⟩
  clear bx hgr
  by_cases hg : 0 ≤ minor ∧ minor ≤ 1 ∧ 100 ≤ st ∧ st ≤ 599 ∧ gr = true
  · obtain ⟨h0, h1, h2, h3, rfl⟩ := hg
    obtain ⟨mi, rfl⟩ : ∃ k : Nat, minor = k := ⟨minor.toNat, by omega⟩
    obtain ⟨si, rfl⟩ : ∃ k : Nat, st = k := ⟨st.toNat, by omega⟩
    rw [Int.toNat_natCast, Int.toNat_natCast]
    have hif : (decide (0 ≤ (mi : Int) ∧ (mi : Int) ≤ 1) && (decide (100 ≤ (si : Int) ∧ (si : Int) ≤ 599) && true)) = true := by simp; omega
    rw [hif]
    have q3 := fun w => dec_any mi (by omega) w
    have q3s := fun w => dec_any si (by omega) w
    simp only [udig_dec] at q3 q3s
    obtain ⟨D, hD⟩ : ∃ D : ByteArray, D = ⟨(Lib.decDigits mi).toArray⟩ := ⟨_, rfl⟩
    obtain ⟨E, hE⟩ : ∃ D : ByteArray, D = ⟨(Lib.decDigits si).toArray⟩ := ⟨_, rfl⟩
    simp only [← hD] at q3
    simp only [← hE] at q3s
    have hDs : D.size = 1 := by rw [hD, mk_size, dec2 mi (by omega)]
    have hEs : E.size ≤ 3 := by rw [hE, mk_size]; exact dec3 (by omega)
    have hfl : (⟨#[72, 84, 84, 80, 47, 49, 46]⟩ ++ D ++ ⟨#[32]⟩ ++ E ++ ⟨#[32]⟩ ++ rs : ByteArray).data.toList = resFirst mi si rs.data.toList := by
      rw [app_list, app_list, app_list, app_list, app_list, hD, hE]
      rfl
    have hr1 := hr4094 rfl
    have hfs : (⟨#[72, 84, 84, 80, 47, 49, 46]⟩ ++ D ++ ⟨#[32]⟩ ++ E ++ ⟨#[32]⟩ ++ rs : ByteArray).size ≤ 1000000 := by
      rw [ByteArray.size_append, ByteArray.size_append, ByteArray.size_append, ByteArray.size_append, ByteArray.size_append, hDs]
      change 7 + 1 + 1 + E.size + 1 + rs.size ≤ _
      omega
    have q4 := fun (W : World) (r : Rd W B 2 A n (fcells fs)) (b : B ≤ W.heap.size) => refprinted_any _ A n c B fs W r b hn hok hfs
    rw [hfl] at q4
    obtain ⟨PE, hPE⟩ : ∃ x, x = printE (resFirst mi si rs.data.toList) fs := ⟨_, rfl⟩
    obtain ⟨PB, hPB⟩ : ∃ x, x = printB (resFirst mi si rs.data.toList) fs := ⟨_, rfl⟩
    simp only [← hPE, ← hPB] at q4
    rw [if_pos rfl, if_pos rfl, ← hPE, ← hPB]
    clear hfl hfs hD hE hPE hPB hif endBad hok hr4094
    have hr0 := h.below (ta.mono hB)
    have i0 : ¬ (mi : Int) < 0 := by omega
    have i1 : ¬ 1 < (mi : Int) := by omega
    have i2 : ¬ (si : Int) < 100 := by omega
    have i3 : ¬ 599 < (si : Int) := by omega
    go_enter Tryz.func21, Tryz.ntmps21
    go_upto_region 1 with (fail)
    generalize w.alloc _ = w0 at k0 k1 k2 k3 gz ta hr0 ⊢
    have hB0 := Nat.le_trans hB ta.size
    go_wp2_with fail
    refine (q1 w0).mono ?_
    rintro e w1 ⟨rfl, b1⟩
    go_upto_region 3 with (fail)
    have tb := ta.trans (b1.mono ta.size)
    have k0' := cell_keep' k0 b1
    have k1' := cell_keep' k1 b1
    have k2' := cell_keep' k2 b1
    have k3' := cell_keep' k3 b1
    have hB1 := Nat.le_trans hB0 b1.size
    have q6 := q3 w1.drew
    have q5 := fun (W : World) (b : Below w1.heap.size w1 W) => q4 W ((hr0.below (b1.mono hB0)).below (b.mono hB1)) (Nat.le_trans hB1 b.size)
    clear q1 q3 q4 k0 k1 k2 k3
    have y1 : ¬ 9223372036854775807 < 7 + D.size := by omega
    have y2 : ¬ 9223372036854775807 < 7 + D.size + 1 := by omega
    have y3 : ¬ 9223372036854775807 < 7 + D.size + 1 + E.size := by omega
    have y4 : ¬ 9223372036854775807 < 7 + D.size + 1 + E.size + 1 := by omega
    have y5 : ¬ 9223372036854775807 < 7 + D.size + 1 + E.size + 1 + rs.size := by omega
    clear hDs hEs hr1
    go_region_held3 (fun w' => w'.cell? ⟨w.heap.size, 0, none⟩ = some (.int .i64 mi) ∧ w'.cell? ⟨w.heap.size, 1, none⟩ = some (.int .i64 si) ∧ w'.cell? ⟨w.heap.size, 2, none⟩ = some (.string rs) ∧ w'.cell? ⟨w.heap.size, 3, none⟩ = some (.slice A n c) ∧ Below w1.heap.size w1 w')
      (first
        | exact ⟨k0', k1', k2', k3', below_drewN (k := 1) (Below.refl _ _)⟩
        | exact ⟨cell_keep' (w := w1.drew) k0' ((k13.trans (k14.mono k13.size)).trans (k12.mono (k13.trans (k14.mono k13.size)).size)), cell_keep' (w := w1.drew) k1' ((k13.trans (k14.mono k13.size)).trans (k12.mono (k13.trans (k14.mono k13.size)).size)), cell_keep' (w := w1.drew) k2' ((k13.trans (k14.mono k13.size)).trans (k12.mono (k13.trans (k14.mono k13.size)).size)), cell_keep' (w := w1.drew) k3' ((k13.trans (k14.mono k13.size)).trans (k12.mono (k13.trans (k14.mono k13.size)).size)), (below_drewN (k := 1) (Below.refl w1.heap.size w1)).trans ((k13.trans (k14.mono k13.size)).trans (k12.mono (k13.trans (k14.mono k13.size)).size))⟩
        | exact ⟨cell_keep' (w := w1.drew) k0' (k13.trans (k14.mono k13.size)), cell_keep' (w := w1.drew) k1' (k13.trans (k14.mono k13.size)), cell_keep' (w := w1.drew) k2' (k13.trans (k14.mono k13.size)), cell_keep' (w := w1.drew) k3' (k13.trans (k14.mono k13.size)), (below_drewN (k := 1) (Below.refl w1.heap.size w1)).trans (k13.trans (k14.mono k13.size))⟩
        | exact ⟨cell_keep' (w := w1.drew) k0' (k13), cell_keep' (w := w1.drew) k1' (k13), cell_keep' (w := w1.drew) k2' (k13), cell_keep' (w := w1.drew) k3' (k13), (below_drewN (k := 1) (Below.refl w1.heap.size w1)).trans (k13)⟩
        | assumption)
      (first
        | (go_at_call 30; with_reducible refine q6.mono ?_; rintro e w13 ⟨rfl, k13⟩)
        | (go_at_call 30; refine (q3s w13).mono ?_; rintro e w14 ⟨rfl, k14⟩)
        | (go_at_call 29; refine (q5 w14 ((below_drewN (k := 1) (Below.refl w1.heap.size w1)).trans (k13.trans (k14.mono k13.size)))).mono ?_; rintro e w12 ⟨A', c', rfl, r12, l12, k12⟩))
    all_goals
      go_wp2_with fail
      go_ret2
      exact ⟨A', c', rfl, r12, l12, tb.trans (((below_drewN (k := 1) (Below.refl w1.heap.size w1)).trans ((k13.trans (k14.mono k13.size)).trans (k12.mono (k13.trans (k14.mono k13.size)).size))).mono tb.size)⟩
  · have hif : (decide (0 ≤ minor ∧ minor ≤ 1) && (decide (100 ≤ st ∧ st ≤ 599) && gr)) = false := by
      rcases hx : (decide (0 ≤ minor ∧ minor ≤ 1) && (decide (100 ≤ st ∧ st ≤ 599) && gr)) with _ | _
      · rfl
      · simp only [Bool.and_eq_true, decide_eq_true_eq] at hx; exact absurd ⟨hx.1.1, hx.1.2, hx.2.1.1, hx.2.1.2, hx.2.2⟩ hg
    rw [hif]
    change Calls _ _ _ w (fun e w' => ∃ A' c', e = .returned (.tuple #[.slice A' ([] : List UInt8).length c', .int .i64 2]) ∧ Rd w' w'.heap.size 1 A' ([] : List UInt8).length (bcells []) ∧ ([] : List UInt8).length ≤ c' ∧ Below w.heap.size w w')
    clear hif hr4094 h
    by_cases c1 : minor < 0
    · clear hg
      go_enter Tryz.func21, Tryz.ntmps21
      go_upto_region 1 with (fail)
      generalize w.alloc _ = w0 at k0 k1 k2 k3 gz ta ⊢
      go_wp2_with fail
      go_ret2
      first | exact endBad _ ta | simpa using endBad _ ta
    by_cases c2 : 1 < minor
    · clear hg
      go_enter Tryz.func21, Tryz.ntmps21
      go_upto_region 1 with (fail)
      generalize w.alloc _ = w0 at k0 k1 k2 k3 gz ta ⊢
      go_wp2_with fail
      go_ret2
      first | exact endBad _ ta | simpa using endBad _ ta
    by_cases c3 : st < 100
    · clear hg
      go_enter Tryz.func21, Tryz.ntmps21
      go_upto_region 1 with (fail)
      generalize w.alloc _ = w0 at k0 k1 k2 k3 gz ta ⊢
      go_wp2_with fail
      go_ret2
      first | exact endBad _ ta | simpa using endBad _ ta
    by_cases c4 : 599 < st
    · clear hg
      go_enter Tryz.func21, Tryz.ntmps21
      go_upto_region 1 with (fail)
      generalize w.alloc _ = w0 at k0 k1 k2 k3 gz ta ⊢
      go_wp2_with fail
      go_ret2
      first | exact endBad _ ta | simpa using endBad _ ta
    obtain rfl : gr = false := by
      cases gr with
      | false => rfl
      | true => exact absurd ⟨by omega, by omega, by omega, by omega, rfl⟩ hg
    clear hg
    go_enter Tryz.func21, Tryz.ntmps21
    go_upto_region 1 with (fail)
    generalize w.alloc _ = w0 at k0 k1 k2 k3 gz ta ⊢
    go_wp2_with fail
    refine (q1 w0).mono ?_
    rintro e w1 ⟨rfl, b1⟩
    go_wp2_with fail
    go_ret2
    exact endBad _ (ta.trans (b1.mono ta.size))
end Go.Proofs.YtfifoimnebbflaaGreatDoor
