/- concertinalaw20.light; a slice of texts opened with the bounds of the form's own reach. -/
import Derived.Test.YtgdjlmpfjmakkaaGreatDoorStructs
import Derived.Test.YtgdjlmpfjmakkaaGreatDoorGets
import Derived.Test.YtgdjlmpfjmakkaaGreatDoorTexts
namespace Go.Proofs.YtgdjlmpfjmakkaaGreatDoor
open Go.RowKit Go.ChangeShapes Go.WideShapes Go.ChangeAt

section
variable {H : Type} {enc : TypeId × Value → H} {W : World}
theorem bytesStr : Tryz.prog.bytesOf 9 = 16 := by kernel_rfl
set_option maxRecDepth 100000 in
theorem open_texts_w {r : Reach} {b0 : Nat} {v : Value} {d : DataW H} {p : List MemPlace} (hv : Value.okWide Tryz.prog W r b0 23 v) (h : DataW.Trod enc Tryz.prog W 0 (fun _ => true) true 23 v d p) (hw : ∀ k ∈ d.weights Tryz.prog 23, k ≤ reachBytes) :
    ∃ A n c ls, v = .slice A n c ∧ Rd W W.heap.size 1 A n (scells ls) ∧ n ≤ c ∧ c ≤ maxLen ∧ ∀ l ∈ ls, l.length ≤ reachBytes := by
  obtain ⟨a, len, cap, rfl⟩ := okWide_slice Tryz.underlying23 hv
  obtain ⟨fuel, hf⟩ := h
  rcases Go.Deep.open_strs Tryz.underlying23 Tryz.underlying9 cellsStr hf with ⟨h0, _⟩ | ⟨a, len', cap', m, Sx, h0, _, hl, hm, hmm, hx, hc⟩
  · simp only [Value.cells, List.cons.injEq, and_true] at h0
    cases h0
    exact ⟨none, 0, 0, [], rfl, Rd.nil_, Nat.le_refl _, Nat.zero_le _, by simp⟩
  · simp only [Value.cells, List.cons.injEq, and_true] at h0
    cases h0
    simp only [if_true] at hmm
    subst hmm
    simp only [Prod.mk.injEq] at hx
    rw [hx.1] at hw
    unfold DataW.weights at hw
    rw [Tryz.underlying23] at hw
    have hel : ∀ i, i < len → (Sx i).data.toList.length ≤ reachBytes := fun i hi => by
      refine hw _ (List.mem_cons_of_mem _ (List.mem_append_left _ (weightsAll_mem (d := .lit (.string (Sx i).data.toList)) ?_ _ ?_)))
      · exact List.mem_map.2 ⟨i, List.mem_range.2 hi, rfl⟩
      · simp [DataW.weights]
    refine ⟨some a, len, m, (List.range len).map fun i => (Sx i).data.toList, rfl, ⟨by simp [scells], ?_⟩, hl, hm, ?_⟩
    · rcases Nat.eq_zero_or_pos len with h0 | h0
      · exact .inl h0
      · refine .inr ⟨a, rfl, ?_, fun j u hu => ?_⟩
        · have := World.block_lt_of_cell? W _ (hc 0 (by omega)).1
          rwa [addr_add_block] at this
        · have hj : j < len := by have := (List.getElem?_eq_some_iff.1 hu).1; simpa [scells] using this
          have := (hc j (by omega)).1
          rw [this]
          simp [scells, hj] at hu
          rw [← hu]
    · intro l hl'
      obtain ⟨i, hi, rfl⟩ := List.mem_map.1 hl'
      exact hel i (List.mem_range.1 hi)
end

/-- All letters of texts. -/
def sumT (vs : List (List UInt8)) : Nat := (vs.map List.length).sum
def lightT (vs : List (List UInt8)) : Bool := decide (vs.length ≤ 50) && decide (sumT vs ≤ 10000)
theorem sumT_snoc (vs : List (List UInt8)) (k : Nat) (h : k < vs.length) : sumT (vs.take (k + 1)) = sumT (vs.take k) + vs[k].length := by
  unfold sumT
  rw [list_take_snoc vs k h, List.map_append, List.sum_append]
  simp only [List.map_cons, List.map_nil, List.sum_cons, List.sum_nil]; omega
theorem sumT_mem : ∀ (vs : List (List UInt8)), ∀ v ∈ vs, v.length ≤ sumT vs
  | [], v, hv => by cases hv
  | x :: vs, v, hv => by
    have ih := sumT_mem vs v
    unfold sumT at ih ⊢
    simp only [List.map_cons, List.sum_cons]
    rcases List.mem_cons.1 hv with rfl | hv
    · omega
    · have := ih hv; omega
theorem sumT_le (b : Nat) : ∀ (vs : List (List UInt8)), (∀ v ∈ vs, v.length ≤ b) → sumT vs ≤ vs.length * b
  | [], _ => by simp [sumT]
  | v :: vs, h => by
    have ih := sumT_le b vs (fun x hx => h x (by simp [hx]))
    have h0 := h v (by simp)
    unfold sumT at ih ⊢
    simp only [List.map_cons, List.sum_cons, List.length_cons, Nat.add_mul]
    omega
theorem lightT_ok {vs : List (List UInt8)} (h : lightT vs = true) : (∀ v ∈ vs, v.length ≤ 10000) ∧ vs.length ≤ 50 := by
  unfold lightT at h
  simp at h
  exact ⟨fun v hv => by have := sumT_mem vs v hv; omega, h.1⟩

end Go.Proofs.YtgdjlmpfjmakkaaGreatDoor
