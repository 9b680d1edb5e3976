/- The built-in clear on a cut of a slice of the call's own, and the front that remains. -/
import Derived.Test.YtmijkefdnfmpiaaDoorDrops
import Derived.Lib.SliceRun
namespace Go.Proofs.YtmijkefdnfmpiaaDoor
open Go.RowKit

section
variable {P : Program}
theorem zeroCells_len (z : Array Value) (n : Nat) : (Builtin.zeroCells z n).toList.length = n * z.size := by simp [Builtin.zeroCells]
theorem zeroCells_mem (z : Array Value) (n : Nat) (h1 : ∀ u ∈ z.toList, u.oneCell' = true) : ∀ u ∈ (Builtin.zeroCells z n).toList, u.oneCell' = true := by
  intro u hu
  simp only [Builtin.zeroCells, Array.toList_map, List.mem_map] at hu
  obtain ⟨i, hi, rfl⟩ := hu
  have hz : 0 < z.size := by
    rcases Nat.eq_zero_or_pos z.size with h0 | h0
    · simp [h0] at hi
    · exact h0
  have hm : i % z.size < z.size := Nat.mod_lt _ hz
  rw [getElem!_pos z _ hm]
  exact h1 _ (by simp)
theorem run_clear_cells (w : World) (t e ty : TypeId) (z : Value) (ht : P.underlying t = some (.slice e)) (hv : ∀ w, (zeroValue e).run P w = .ok z w) (h1 : ∀ u ∈ z.cells.toList, u.oneCell' = true) (b o n c : Nat) (hn : 0 < n)
    (hc : ∀ j, j < n * z.cells.size → (w.cell? ⟨b, o + j, none⟩).isSome = true) (hf : ∀ j, j < n * z.cells.size → w.frozen? ⟨b, o + j, none⟩ = false) :
    (Builtin.clear_ #[t] ty #[.slice (some ⟨b, o, none⟩) n c]).run P w = .ok (.tuple #[]) (w.setCells b o (Builtin.zeroCells z.cells n).toList) := by
  have hst := run_storeCells_cells (P := P) b o (Builtin.zeroCells z.cells n).toList 0 w (by rw [zeroCells_len]; simpa using hc) (by rw [zeroCells_len]; simpa using hf) (zeroCells_mem _ _ h1)
  simp only [Nat.add_zero] at hst
  obtain ⟨m, rfl⟩ : ∃ m, n = m + 1 := ⟨n - 1, by omega⟩
  simp [Builtin.clear_, run_underlying ht, hv, hst]
end

/-- The front of a slice whose back was written over. -/
theorem Ow.front {w : World} {base size n g off c : Nat} {xs : List Value} (h : Ow w base size (.slice (some ⟨g, off, none⟩) n c) n xs) (i : Nat) (hi : i ≤ n) (vs : List Value) (hvs : i * size + vs.length ≤ c * size) :
    Ow (w.setCells g (off + i * size) vs) base size (.slice (some ⟨g, off, none⟩) i c) i (xs.take (i * size)) := by
  have hin : i * size ≤ n * size := Nat.mul_le_mul_right _ hi
  refine ⟨by rw [List.length_take, h.1]; omega, ?_⟩
  rcases h.2 with ⟨hv, _⟩ | ⟨g', off', cap, hv, h1, h2, h3, h4, h5, h6⟩
  · cases hv
  · cases hv
    have h7 : ∀ j, j < vs.length → (w.cell? ⟨g, off + i * size + j, none⟩).isSome = true := fun j hj => by
      have := (h6 (i * size + j) (by omega)).1
      rwa [← Nat.add_assoc] at this
    refine .inr ⟨g, off, c, rfl, h1, by rw [size_setCells]; exact h2, by omega, h4, fun j u hu => ?_, fun j hj => ?_⟩
    · rw [List.getElem?_take] at hu
      split at hu
      · rw [World.cell?_setCells_out g vs _ w _ (fun _ _ => .inl (by simp; omega))]
        exact h5 j u hu
      · cases hu
    · have h8 := h6 j hj
      refine ⟨?_, by rw [World.frozen?_setCells]; exact h8.2⟩
      by_cases hin : i * size ≤ j ∧ j < i * size + vs.length
      · have := World.cell?_setCells_in g vs (off + i * size) w h7 (j - i * size) (by omega)
        rw [show off + j = off + i * size + (j - i * size) by omega, this]; rfl
      · rw [World.cell?_setCells_out g vs _ w _ (fun _ _ => by simp; omega)]
        exact h8.1
theorem Ow.cells {w : World} {base size n g off c : Nat} {xs : List Value} (h : Ow w base size (.slice (some ⟨g, off, none⟩) n c) n xs) (j : Nat) (hj : j < c * size) : (w.cell? ⟨g, off + j, none⟩).isSome = true ∧ w.frozen? ⟨g, off + j, none⟩ = false := by
  rcases h.2 with ⟨hv, _⟩ | ⟨g', off', cap, hv, h1, h2, h3, h4, h5, h6⟩
  · cases hv
  · cases hv; exact h6 j hj
theorem zeroFld (w : World) : (zeroValue 37).run Tryd.prog w = .ok (.agg #[.string ByteArray.empty, .string ByteArray.empty]) w := by kernel_rfl
end Go.Proofs.YtmijkefdnfmpiaaDoor
