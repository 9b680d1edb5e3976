/- An argument that is a slice of bytes, opened. -/
import Derived.Test.YtfifoimnebbflaaGreatDoorAgain
namespace Go.Proofs.YtfifoimnebbflaaGreatDoor
open Go.RowKit Go.ChangeShapes Go.WideShapes Go.ChangeAt

theorem cellsU8 : Tryz.prog.cellsOf 5 = 1 := by kernel_rfl
set_option maxRecDepth 100000 in
theorem open_bytes {H : Type} {enc : TypeId × Value → H} {W : World} {r : Reach} {b0 : Nat} {v : Value} {d : DataW H} {p : List MemPlace} (hv : Value.okWide Tryz.prog W r b0 24 v) (h : DataW.Trod enc Tryz.prog W 0 (fun _ => true) true 24 v d p) :
    ∃ A n c bs, v = .slice A n c ∧ Rd W W.heap.size 1 A n (bcells bs) ∧ n ≤ c ∧ c ≤ maxLen := by
  obtain ⟨a, len, cap, rfl⟩ := okWide_slice Tryz.underlying24 hv
  obtain ⟨fuel, hf⟩ := h
  rcases open_ints Tryz.underlying24 Tryz.underlying5 cellsU8 hf with ⟨h0, _⟩ | ⟨a, len', cap', zs, h0, _, hl, hm, hmm, _, hc, hwf⟩
  · simp only [Value.cells, List.cons.injEq, and_true] at h0
    cases h0
    exact ⟨none, 0, 0, [], rfl, Rd.nil_, Nat.le_refl _, Nat.zero_le _⟩
  · simp only [Value.cells, List.cons.injEq, and_true] at h0
    cases h0
    simp only [if_true] at hmm
    have hz : ∀ z ∈ zs, 0 ≤ z ∧ z < 256 := fun z hz => by
      have := hwf z hz
      simp [Lit.wf, IntKind.min, IntKind.max, IntKind.signed, IntKind.bits] at this
      omega
    refine ⟨some a, len, cap, (zs.take len).map fun z => UInt8.ofNat z.toNat, rfl, ⟨by simp [bcells]; omega, ?_⟩, hl, hm⟩
    rcases Nat.eq_zero_or_pos len with h0 | h0
    · exact .inl h0
    · refine .inr ⟨a, rfl, ?_, fun j u hu => ?_⟩
      · have := World.block_lt_of_cell? W _ (hc 0 (by omega))
        rwa [addr_add_block] at this
      · have hj : j < (bcells ((zs.take len).map fun z => UInt8.ofNat z.toNat)).length := (List.getElem?_eq_some_iff.1 hu).1
        have hj2 : j < len ∧ j < zs.length := by simp [bcells] at hj; omega
        rw [hc j hj2.2]
        have h2 := hz zs[j] (List.getElem_mem hj2.2)
        have hjt : j < (zs.take len).length := by rw [List.length_take]; omega
        have e1 : (bcells ((zs.take len).map fun z => UInt8.ofNat z.toNat))[j]? = some (.int .u8 zs[j]) := by
          unfold bcells
          rw [List.getElem?_map, List.getElem?_map, List.getElem?_eq_getElem hjt, List.getElem_take]
          show some (Value.int .u8 ((UInt8.ofNat (zs[j]).toNat).toNat : Int)) = _
          rw [show ((UInt8.ofNat (zs[j]).toNat).toNat : Int) = zs[j] by simp; omega]
        rw [e1] at hu
        rw [← hu, List.getD_eq_getElem?_getD, List.getElem?_eq_getElem hj2.2, Option.getD_some]
end Go.Proofs.YtfifoimnebbflaaGreatDoor
