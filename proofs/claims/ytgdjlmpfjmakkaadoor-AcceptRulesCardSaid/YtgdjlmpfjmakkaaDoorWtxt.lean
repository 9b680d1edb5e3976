/- concertinalaw20.weight: thousandths as a text. -/
import Derived.Test.YtgdjlmpfjmakkaaDoorMemT
namespace Go.Proofs.YtgdjlmpfjmakkaaDoor
open Go.RowKit
open AcceptWeightsP (digits_k)

set_option maxRecDepth 100000 in
set_option maxHeartbeats 1600000 in
theorem wtxt_any (q : Nat) (hq : q ≤ 1000) (w : World) :
    Calls Tryd.prog 31 #[.int .i64 q] w fun e w' => e = .returned (.string ⟨(wtxt q).toArray⟩) ∧ Below w.heap.size w w' := by
  by_cases h1 : q = 1000
  · subst h1
    have hw : wtxt 1000 = [49, 46, 48, 48, 48] := rfl
    rw [hw]
    clear hw
    go_enter Tryd.func31, Tryd.ntmps31
    go_wp2
    go_ret
    exact ⟨rfl, Below.refl _ _⟩
  · have hw : wtxt q = 48 :: 46 :: (udig (1000 + q)).drop 1 := by unfold wtxt; rw [if_neg h1]
    have hd4 := (digits_k q (by omega)).1
    have g3 := fun w => dec_any (1000 + q) (by omega) w
    obtain ⟨dg, hdg⟩ : ∃ d, d = udig (1000 + q) := ⟨_, rfl⟩
    rw [← hdg] at hd4 hw
    simp only [← hdg] at g3
    have hz := mk_size dg
    have hx : (⟨dg.toArray⟩ : ByteArray).extract 1 (⟨dg.toArray⟩ : ByteArray).size = ⟨(dg.drop 1).toArray⟩ := bytes_ext (by rw [extract_list, mk_list, mk_list, mk_size]; simp)
    have hy : (⟨#[48, 46]⟩ : ByteArray) ++ ⟨(dg.drop 1).toArray⟩ = ⟨(wtxt q).toArray⟩ := bytes_ext (by rw [hw]; simp)
    have hzd := mk_size (dg.drop 1)
    obtain ⟨bd, ebd⟩ : ∃ b : ByteArray, b = ⟨dg.toArray⟩ := ⟨_, rfl⟩
    obtain ⟨be, ebe⟩ : ∃ b : ByteArray, b = ⟨(dg.drop 1).toArray⟩ := ⟨_, rfl⟩
    obtain ⟨bt, ebt⟩ : ∃ b : ByteArray, b = ⟨(wtxt q).toArray⟩ := ⟨_, rfl⟩
    rw [← ebt]
    simp only [← ebd] at g3 hx hz
    rw [← ebe] at hx hy hzd
    rw [← ebt] at hy
    have hz4 : bd.size = 4 := by rw [hz, hd4]
    have hxe : bd.extract 1 4 = be := by rw [← hz4]; exact hx
    have hze : be.size ≤ 3 := by rw [hzd, List.length_drop]; omega
    have hq1 : ((q : Int) == 1000) = false := by simp; omega
    clear hw hd4 hdg hz hx hzd ebd ebe ebt h1
    go_enter Tryd.func31, Tryd.ntmps31
    go_wp2_with fail
    refine (g3 w).mono ?_
    rintro e w3 ⟨rfl, b3⟩
    go_wp2
    go_ret
    exact ⟨rfl, b3⟩
end Go.Proofs.YtgdjlmpfjmakkaaDoor
