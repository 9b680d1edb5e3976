/- head.PrintRequest. -/
import Derived.Test.YtfifoimnebbflaaGreatDoorPrinted
import Derived.Test.YtfifoimnebbflaaGreatDoorHeadLine
import Derived.Deep.RegionHeld3
namespace Go.Proofs.YtfifoimnebbflaaGreatDoor
open Go.RowKit

def reqFirst (m t : List UInt8) (minor : Nat) : List UInt8 := m ++ [32] ++ t ++ [32] ++ verL ++ Lib.decDigits minor
def reqGood (m t : List UInt8) (minor : Int) : Bool := goodNameL m && (targetL t && decide (0 ≤ minor ∧ minor ≤ 1))
def preqE (m t : List UInt8) (minor : Int) (fs : List (List UInt8 × List UInt8)) : Nat := if reqGood m t minor then printE (reqFirst m t minor.toNat) fs else 2
def preqB (m t : List UInt8) (minor : Int) (fs : List (List UInt8 × List UInt8)) : List UInt8 := if reqGood m t minor then printB (reqFirst m t minor.toNat) fs else []
theorem cell_keep' {w w1 : World} {b off : Nat} {v : Value} (h : w.cell? ⟨b, off, none⟩ = some v) (hb : Below w.heap.size w w1) : w1.cell? ⟨b, off, none⟩ = some v :=
  (hb.cell (p := ⟨b, off, none⟩) (World.block_lt_of_cell? w _ h)).trans h
theorem dec2 (i : Nat) (h : i < 10) : (Lib.decDigits i).length = 1 := by unfold Lib.decDigits; rw [dif_pos h]; rfl

set_option maxRecDepth 100000 in
set_option maxHeartbeats 3200000 in
theorem printreq_any (m t : ByteArray) (minor : Int) (A : Option Addr) (n c B : Nat) (fs : List (List UInt8 × List UInt8)) (w : World) (h : Rd w B 2 A n (fcells fs)) (hB : B ≤ w.heap.size) (hn : n ≤ 1000) (hok : fsOk fs) (hms : m.size ≤ 1000000) (hts : t.size ≤ 1000000) :
    Calls Tryz.prog 19 #[.agg #[.string m, .string t, .int .i64 minor, .slice A n c]] w fun e w' => ∃ A' c', e = .returned (.tuple #[.slice A' (preqB m.data.toList t.data.toList minor fs).length c', .int .i64 (preqE m.data.toList t.data.toList minor fs)]) ∧
      Rd w' w'.heap.size 1 A' (preqB m.data.toList t.data.toList minor fs).length (bcells (preqB m.data.toList t.data.toList minor fs)) ∧ (preqB m.data.toList t.data.toList minor fs).length ≤ c' ∧ (A' = none → c' = 0) ∧ Below w.heap.size w w' := by
  have q1 := fun w => goodName_any m w (by omega)
  have q2 := fun w => goodTarget_any t w (by omega)
  have bx := Box.new w #[.string m, .string t, .int .i64 minor, .slice A n c] 31
  have ta : Below w.heap.size w (w.alloc (.cells #[.string m, .string t, .int .i64 minor, .slice A n c] 31)) := (Below.refl _ _).alloc (Nat.le_refl _) _
  obtain ⟨k0, k1, k2, k3⟩ := Box.four bx
  have gz : w.heap.size < (w.alloc (.cells #[.string m, .string t, .int .i64 minor, .slice A n c] 31)).heap.size := by simp
  unfold preqE preqB reqGood
  obtain ⟨gn, hgn⟩ : ∃ x, x = goodNameL m.data.toList := ⟨_, rfl⟩
  obtain ⟨gt, hgt⟩ : ∃ x, x = targetL t.data.toList := ⟨_, rfl⟩
  simp only [← hgn] at q1 ⊢
  simp only [← hgt] at q2 ⊢
  have endBad : ∀ W, Below w.heap.size w W → ∃ A' c', Ending.returned (.tuple #[.slice none 0 0, .int .i64 2]) = Ending.returned (.tuple #[.slice A' ([] : List UInt8).length c', .int .i64 2]) ∧ Rd W W.heap.size 1 A' ([] : List UInt8).length (bcells []) ∧ ([] : List UInt8).length ≤ c' ∧ (A' = none → c' = 0) ∧ Below w.heap.size w W := fun W b =>
    ⟨none, 0, rfl, Rd.nil_, Nat.le_refl _, fun _ => rfl, b⟩
  have hm256 : gn = true → m.size ≤ 256 := fun h => by
    rw [hgn] at h
    unfold goodNameL at h
    simp only [Bool.and_eq_true, decide_eq_true_eq] at h
    rw [size_of]; exact h.2
  have ht2048 : gt = true → t.size ≤ 2048 := fun h => by
    rw [hgt] at h
    unfold targetL at h
    simp only [Bool.and_eq_true, decide_eq_true_eq] at h
    rw [size_of]; exact h.2.2
  clear bx hgn hgt
  by_cases hg : gn = true ∧ gt = true ∧ 0 ≤ minor ∧ minor ≤ 1
  · obtain ⟨rfl, rfl, h0, h1⟩ := hg
    obtain ⟨mi, rfl⟩ : ∃ k : Nat, minor = k := ⟨minor.toNat, by omega⟩
    have hm01 : mi < 2 := by omega
    rw [Int.toNat_natCast]
    have hif : (true && (true && decide (0 ≤ (mi : Int) ∧ (mi : Int) ≤ 1))) = true := by simp; omega
    rw [hif]
    have q3 := fun w => Tryz.strconv_Itoa_small mi (by omega) w
    obtain ⟨D, hD⟩ : ∃ D : ByteArray, D = ⟨(Lib.decDigits mi).toArray⟩ := ⟨_, rfl⟩
    simp only [← hD] at q3
    have hDs : D.size = 1 := by rw [hD, mk_size, dec2 mi (by omega)]
    have hfl : (m ++ ⟨#[32]⟩ ++ t ++ ⟨#[32]⟩ ++ ⟨#[72, 84, 84, 80, 47, 49, 46]⟩ ++ D : ByteArray).data.toList = reqFirst m.data.toList t.data.toList mi := by
      rw [app_list, app_list, app_list, app_list, app_list, hD]
      rfl
    have hfs : (m ++ ⟨#[32]⟩ ++ t ++ ⟨#[32]⟩ ++ ⟨#[72, 84, 84, 80, 47, 49, 46]⟩ ++ D : ByteArray).size ≤ 1000000 := by
      rw [ByteArray.size_append, ByteArray.size_append, ByteArray.size_append, ByteArray.size_append, ByteArray.size_append, hDs]
      have := hm256 rfl
      have := ht2048 rfl
      change m.size + 1 + t.size + 1 + 7 + 1 ≤ _
      omega
    have q4 := fun (W : World) (r : Rd W B 2 A n (fcells fs)) (b : B ≤ W.heap.size) => printed_any _ A n c B fs W r b hn hok hfs
    rw [hfl] at q4
    obtain ⟨PE, hPE⟩ : ∃ x, x = printE (reqFirst m.data.toList t.data.toList mi) fs := ⟨_, rfl⟩
    obtain ⟨PB, hPB⟩ : ∃ x, x = printB (reqFirst m.data.toList t.data.toList mi) fs := ⟨_, rfl⟩
    simp only [← hPE, ← hPB] at q4
    rw [if_pos rfl, if_pos rfl, ← hPE, ← hPB]
    clear hfl hfs hD hPE hPB hif endBad hok
    have hr0 := h.below (ta.mono hB)
    have i0 : ¬ (mi : Int) < 0 := by omega
    have i1 : ¬ 1 < (mi : Int) := by omega
    have hm1 := hm256 rfl
    have ht1 := ht2048 rfl
    go_enter Tryz.func19, Tryz.ntmps19
    go_upto_region 1 with (fail)
    generalize w.alloc _ = w0 at k0 k1 k2 k3 gz ta hr0 ⊢
    have hB0 := Nat.le_trans hB ta.size
    go_wp2_with fail
    refine (q1 w0).mono ?_
    rintro e w1 ⟨rfl, rfl⟩
    go_wp2_with fail
    refine (q2 w0).mono ?_
    rintro e w1 ⟨rfl, rfl⟩
    go_upto_region 3 with (fail)
    clear q1 q2
    have q5 := q4 w0.drew hr0 hB0
    have y1 : ¬ 9223372036854775807 < m.size + 1 := by omega
    have y2 : ¬ 9223372036854775807 < m.size + 1 + t.size := by omega
    have y3 : ¬ 9223372036854775807 < m.size + 1 + t.size + 1 := by omega
    have y4 : ¬ 9223372036854775807 < m.size + 1 + t.size + 1 + 7 := by omega
    have y5 : ¬ 9223372036854775807 < m.size + 1 + t.size + 1 + 7 + 1 := by omega
    go_region_held3 (fun w' => w'.cell? ⟨w.heap.size, 0, none⟩ = some (.string m) ∧ w'.cell? ⟨w.heap.size, 1, none⟩ = some (.string t) ∧ w'.cell? ⟨w.heap.size, 2, none⟩ = some (.int .i64 mi) ∧ w'.cell? ⟨w.heap.size, 3, none⟩ = some (.slice A n c) ∧ Below w.heap.size w w')
      (first | exact ⟨k0, k1, k2, k3, below_drewN (k := 1) ta⟩ | exact ⟨cell_keep' (w := w0.drew) k0 k12, cell_keep' (w := w0.drew) k1 k12, cell_keep' (w := w0.drew) k2 k12, cell_keep' (w := w0.drew) k3 k12, (below_drewN (k := 1) ta).trans (k12.mono ta.size)⟩ | assumption)
      (first
        | (go_at_call 45; refine (q3 _).mono ?_; rintro e w13 ⟨rfl, rfl⟩)
        | (go_at_call 44; refine q5.mono ?_; rintro e w12 ⟨A', c', rfl, r12, l12, z12, k12⟩))
    all_goals
      go_wp2_with fail
      go_ret2
      exact ⟨A', c', rfl, r12, l12, z12, (below_drewN (k := 1) ta).trans (k12.mono ta.size)⟩
  · have hif : (gn && (gt && decide (0 ≤ minor ∧ minor ≤ 1))) = false := by
      rcases hx : (gn && (gt && decide (0 ≤ minor ∧ minor ≤ 1))) with _ | _
      · rfl
      · simp at hx; exact absurd hx hg
    rw [hif]
    change Calls _ _ _ w (fun e w' => ∃ A' c', e = .returned (.tuple #[.slice A' ([] : List UInt8).length c', .int .i64 2]) ∧ Rd w' w'.heap.size 1 A' ([] : List UInt8).length (bcells []) ∧ ([] : List UInt8).length ≤ c' ∧ (A' = none → c' = 0) ∧ Below w.heap.size w w')
    clear hif hm256 ht2048 h
    rcases gn with _ | _
    · clear hg
      go_enter Tryz.func19, Tryz.ntmps19
      go_upto_region 1 with (fail)
      generalize w.alloc _ = w0 at k0 k1 k2 k3 gz ta ⊢
      go_wp2_with fail
      refine (q1 w0).mono ?_
      rintro e w1 ⟨rfl, rfl⟩
      go_wp2_with fail
      go_ret2
      exact endBad _ ta
    · rcases gt with _ | _
      · clear hg
        go_enter Tryz.func19, Tryz.ntmps19
        go_upto_region 1 with (fail)
        generalize w.alloc _ = w0 at k0 k1 k2 k3 gz ta ⊢
        go_wp2_with fail
        refine (q1 w0).mono ?_
        rintro e w1 ⟨rfl, rfl⟩
        go_wp2_with fail
        refine (q2 w0).mono ?_
        rintro e w1 ⟨rfl, rfl⟩
        go_wp2_with fail
        go_ret2
        exact endBad _ ta
      · by_cases h0 : minor < 0
        · clear hg
          go_enter Tryz.func19, Tryz.ntmps19
          go_upto_region 1 with (fail)
          generalize w.alloc _ = w0 at k0 k1 k2 k3 gz ta ⊢
          go_wp2_with fail
          refine (q1 w0).mono ?_
          rintro e w1 ⟨rfl, rfl⟩
          go_wp2_with fail
          refine (q2 w0).mono ?_
          rintro e w1 ⟨rfl, rfl⟩
          go_wp2_with fail
          go_ret2
          exact endBad _ ta
        · have h1 : 1 < minor := by
            rcases Int.lt_or_le 1 minor with h | h
            · exact h
            · exact absurd ⟨rfl, rfl, by omega, h⟩ hg
          clear hg
          go_enter Tryz.func19, Tryz.ntmps19
          go_upto_region 1 with (fail)
          generalize w.alloc _ = w0 at k0 k1 k2 k3 gz ta ⊢
          go_wp2_with fail
          refine (q1 w0).mono ?_
          rintro e w1 ⟨rfl, rfl⟩
          go_wp2_with fail
          refine (q2 w0).mono ?_
          rintro e w1 ⟨rfl, rfl⟩
          go_wp2_with fail
          go_ret2
          exact endBad _ ta
end Go.Proofs.YtfifoimnebbflaaGreatDoor
