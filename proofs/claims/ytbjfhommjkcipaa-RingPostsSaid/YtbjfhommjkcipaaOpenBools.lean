/- An argument that is a slice of bools, opened. -/
import Derived.Test.YtbjfhommjkcipaaRingFrame
import Derived.Deep.Grids
namespace Go.Proofs.Ytbjfhommjkcipaa
open Go.RowKit Go.ChangeShapes Go.WideShapes Go.ChangeAt

theorem cellsBool : Try.prog.cellsOf 4 = 1 := by kernel_rfl
set_option maxRecDepth 100000 in
theorem open_boolsl {H : Type} {enc : TypeId × Value → H} {W : World} {r : Reach} {b0 : Nat} {v : Value} {d : DataW H} {p : List MemPlace} (hv : Value.okWide Try.prog W r b0 35 v) (h : DataW.Trod enc Try.prog W 0 (fun _ => true) true 35 v d p) :
    ∃ (A : Option Addr) (n c : Nat) (bl : List Bool), v = .slice A n c ∧ Rd W W.heap.size 1 A n (bl.map Value.bool) ∧ n ≤ c ∧ c ≤ maxLen := by
  obtain ⟨a, len, cap, rfl⟩ := okWide_slice Try.underlying35 hv
  obtain ⟨fuel, hf⟩ := h
  rcases Go.Deep.open_bools Try.underlying35 Try.underlying4 cellsBool hf with ⟨h0, _⟩ | ⟨a, len', cap', Bx, h0, _, hl, hm, _, hc⟩
  · simp only [Value.cells, List.cons.injEq, and_true] at h0
    cases h0
    exact ⟨none, 0, 0, [], rfl, Rd.nil_, Nat.le_refl _, Nat.zero_le _⟩
  · simp only [Value.cells, List.cons.injEq, and_true] at h0
    cases h0
    refine ⟨some a, len, cap, (List.range len).map Bx, rfl, ⟨by simp, ?_⟩, hl, hm⟩
    rcases Nat.eq_zero_or_pos len with h0 | h0
    · exact .inl h0
    · refine .inr ⟨a, rfl, ?_, fun j u hu => ?_⟩
      · have := World.block_lt_of_cell? W _ (hc 0 (by omega))
        rwa [addr_add_block] at this
      · have hj : j < len := by have := (List.getElem?_eq_some_iff.1 hu).1; simpa using this
        rw [hc j (by omega)]
        simp [hj] at hu
        rw [← hu]
end Go.Proofs.Ytbjfhommjkcipaa
