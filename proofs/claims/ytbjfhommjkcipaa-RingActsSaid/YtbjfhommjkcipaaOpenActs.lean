/- An argument that is a slice of acts (a struct of two numbers and bytes), opened. -/
import Derived.Test.YtbjfhommjkcipaaRingFrame
import Derived.Test.YtbjfhommjkcipaaRingActs
import Derived.Deep.Slices
namespace Go.Proofs.Ytbjfhommjkcipaa
open Go.RowKit Go.ChangeShapes Go.WideShapes Go.ChangeAt
open RingActsP (ActAt)

theorem cellsU8 : Try.prog.cellsOf 5 = 1 := by kernel_rfl
theorem cellsAct : Try.prog.cellsOf 29 = 3 := by kernel_rfl
theorem cellsIntA : Try.prog.cellsOf 3 = 1 := by kernel_rfl
theorem cellsBs : Try.prog.cellsOf 27 = 1 := by kernel_rfl
set_option maxRecDepth 100000 in
/-- A slice of bytes, by its cell. -/
theorem open_bytes_c {H : Type} {enc : TypeId × Value → H} {W : World} {fuel : Nat} {cs : List Value} {x : DataW H × List MemPlace} (hf : DataW.trod enc Try.prog W 0 (fun _ => true) true fuel 27 cs = some x) :
    ∃ A n c bs, cs = [.slice A n c] ∧ Rd W W.heap.size 1 A n (bcells bs) ∧ n ≤ c ∧ c ≤ maxLen := by
  rcases open_ints Try.underlying27 Try.underlying5 cellsU8 hf with ⟨h0, _⟩ | ⟨a, len, cap, zs, h0, _, hl, hm, hmm, _, hc, hwf⟩
  · exact ⟨none, 0, 0, [], h0, Rd.nil_, Nat.le_refl _, Nat.zero_le _⟩
  · simp only [if_true] at hmm
    have hz : ∀ z ∈ zs, 0 ≤ z ∧ z < 256 := fun z hz => by
      have := hwf z hz
      simp [Lit.wf, IntKind.min, IntKind.max, IntKind.signed, IntKind.bits] at this
      omega
    refine ⟨some a, len, cap, (zs.take len).map fun z => UInt8.ofNat z.toNat, h0, ⟨by simp [bcells]; omega, ?_⟩, hl, hm⟩
    rcases Nat.eq_zero_or_pos len with h0 | h0
    · exact .inl h0
    · refine .inr ⟨a, rfl, ?_, fun j u hu => ?_⟩
      · have := World.block_lt_of_cell? W _ (hc 0 (by omega))
        rwa [addr_add_block] at this
      · have hj : j < (bcells ((zs.take len).map fun z => UInt8.ofNat z.toNat)).length := (List.getElem?_eq_some_iff.1 hu).1
        have hj2 : j < len ∧ j < zs.length := by simp [bcells] at hj; omega
        rw [hc j hj2.2]
        have h2 := hz zs[j] (List.getElem_mem hj2.2)
        have hjt : j < (zs.take len).length := by rw [List.length_take]; omega
        have e1 : (bcells ((zs.take len).map fun z => UInt8.ofNat z.toNat))[j]? = some (.int .u8 zs[j]) := by
          unfold bcells
          rw [List.getElem?_map, List.getElem?_map, List.getElem?_eq_getElem hjt, List.getElem_take]
          show some (Value.int .u8 ((UInt8.ofNat (zs[j]).toNat).toNat : Int)) = _
          rw [show ((UInt8.ofNat (zs[j]).toNat).toNat : Int) = zs[j] by simp; omega]
        rw [e1] at hu
        rw [← hu, List.getD_eq_getElem?_getD, List.getElem?_eq_getElem hj2.2, Option.getD_some]
set_option maxRecDepth 100000 in
theorem open_acts {H : Type} {enc : TypeId × Value → H} {W : World} {r : Reach} {b0 : Nat} {v : Value} {d : DataW H} {p : List MemPlace} (hv : Value.okWide Try.prog W r b0 22 v) (h : DataW.Trod enc Try.prog W 0 (fun _ => true) true 22 v d p) :
    ∃ (A : Option Addr) (n c : Nat), v = .slice A n c ∧ n ≤ c ∧ c ≤ maxLen ∧ ∀ k, k < n → ∃ ab ao d nn B m cc ys, A = some ⟨ab, ao, none⟩ ∧ ab < W.heap.size ∧ ActAt W ab (ao + k * 3) d nn B m cc ∧ Rd W W.heap.size 1 B m (bcells ys) ∧ m ≤ cc ∧ cc ≤ maxLen := by
  obtain ⟨a, len, cap, rfl⟩ := okWide_slice Try.underlying22 hv
  obtain ⟨fuel, hf⟩ := h
  rcases Go.Deep.open_slice Try.underlying22 hf with ⟨h0, _⟩ | ⟨a, len', cap', m, n', D, Pl, h0, _, hl, hm, hmm, _, hc⟩
  · simp only [Value.cells, List.cons.injEq, and_true] at h0
    cases h0
    exact ⟨none, 0, 0, rfl, Nat.le_refl _, Nat.zero_le _, fun k hk => absurd hk (Nat.not_lt_zero _)⟩
  · simp only [Value.cells, List.cons.injEq, and_true] at h0
    cases h0
    simp only [if_true] at hmm
    subst hmm
    refine ⟨some a, len, m, rfl, hl, hm, fun k hk => ?_⟩
    obtain ⟨cs', h1, h2⟩ := hc k (by omega)
    rw [cellsAct] at h1
    obtain ⟨-, h3, h4⟩ := World.cells?_some h1
    obtain ⟨y0, y1, y2, n2, -, -, f0, f1, f2⟩ := Go.Deep.trod_struct3 Try.underlying29 h2
    match cs', h3 with
    | [x0, x1, x2], _ =>
      have e0 : DataW.trod enc Try.prog W 0 (fun _ => true) true n2 3 [x0] = some y0 := f0
      have e1 : DataW.trod enc Try.prog W 0 (fun _ => true) true n2 3 [x1] = some y1 := f1
      have e2 : DataW.trod enc Try.prog W 0 (fun _ => true) true n2 27 [x2] = some y2 := f2
      obtain ⟨z0, g0, -⟩ := DataW.trod_int Try.underlying3 e0
      obtain ⟨z1, g1, -⟩ := DataW.trod_int Try.underlying3 e1
      obtain ⟨B, m2, c2, ys, g2, rd, l1, l2⟩ := open_bytes_c e2
      simp only [List.cons.injEq, and_true] at g0 g1 g2
      subst g0 g1 g2
      have k0 := h4 0 (by omega)
      have k1 := h4 1 (by omega)
      have k2 := h4 2 (by omega)
      rw [addr_add_add] at k0 k1 k2
      obtain ⟨ab, ao, spot⟩ := a
      have hb : ab < W.heap.size := by
        have := World.block_lt_of_cell? W _ k0
        rwa [addr_add_block] at this
      have hs : spot = none := by
        obtain ⟨cs0, h10, -⟩ := hc 0 (by omega)
        rw [cellsAct] at h10
        obtain ⟨-, h30, h40⟩ := World.cells?_some h10
        match cs0, h30 with
        | [z0', z1', z2'], _ =>
          have k00 := h40 0 (by omega)
          simpa [Addr.add] using World.cell?_spot k00
      subst hs
      refine ⟨ab, ao, z0, z1, B, m2, c2, ys, rfl, hb, ⟨?_, ?_, ?_⟩, rd, l1, l2⟩
      · rw [Addr.add_lit] at k0; simpa using k0
      · rw [Addr.add_lit] at k1; simpa [Nat.add_assoc] using k1
      · rw [Addr.add_lit] at k2; simpa [Nat.add_assoc] using k2
end Go.Proofs.Ytbjfhommjkcipaa
