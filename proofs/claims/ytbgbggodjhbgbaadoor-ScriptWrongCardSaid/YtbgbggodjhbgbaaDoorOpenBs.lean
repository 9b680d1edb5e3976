/- An argument that is a slice of requests, opened. -/
import Derived.Test.YtbgbggodjhbgbaaDoorAgain
import Derived.Deep.Slices
import Derived.Deep.Matrix
namespace Go.Proofs.YtbgbggodjhbgbaaDoor
open Go.RowKit Go.ChangeShapes Go.WideShapes Go.ChangeAt
set_option linter.unusedVariables false
set_option linter.unusedSimpArgs false

/-- The cells of a request. -/
def ReqAt (w : World) (b o : Nat) (m t : ByteArray) (mi : Int) (A : Option Addr) (n c : Nat) : Prop :=
  w.cell? ⟨b, o, none⟩ = some (.string m) ∧ w.cell? ⟨b, o + 1, none⟩ = some (.string t) ∧ w.cell? ⟨b, o + 2, none⟩ = some (.int .i64 mi) ∧ w.cell? ⟨b, o + 3, none⟩ = some (.slice A n c)
section
variable {H : Type} {enc : TypeId × Value → H} {W : World}
end
end Go.Proofs.YtbgbggodjhbgbaaDoor

/- An argument that is a slice of bytes, opened. -/
namespace Go.Proofs.YtbgbggodjhbgbaaDoor
open Go.RowKit Go.ChangeShapes Go.WideShapes Go.ChangeAt

theorem cellsU8 : Tryd.prog.cellsOf 5 = 1 := by kernel_rfl
set_option maxRecDepth 100000 in
theorem open_bytes {H : Type} {enc : TypeId × Value → H} {W : World} {r : Reach} {b0 : Nat} {v : Value} {d : DataW H} {p : List MemPlace} (hv : Value.okWide Tryd.prog W r b0 38 v) (h : DataW.Trod enc Tryd.prog W 0 (fun _ => true) true 38 v d p) :
    ∃ A n c bs, v = .slice A n c ∧ Rd W W.heap.size 1 A n (bcells bs) ∧ n ≤ c ∧ c ≤ maxLen := by
  obtain ⟨a, len, cap, rfl⟩ := okWide_slice Tryd.underlying38 hv
  obtain ⟨fuel, hf⟩ := h
  rcases open_ints Tryd.underlying38 Tryd.underlying5 cellsU8 hf with ⟨h0, _⟩ | ⟨a, len', cap', zs, h0, _, hl, hm, hmm, _, hc, hwf⟩
  · simp only [Value.cells, List.cons.injEq, and_true] at h0
    cases h0
    exact ⟨none, 0, 0, [], rfl, Rd.nil_, Nat.le_refl _, Nat.zero_le _⟩
  · simp only [Value.cells, List.cons.injEq, and_true] at h0
    cases h0
    simp only [if_true] at hmm
    have hz : ∀ z ∈ zs, 0 ≤ z ∧ z < 256 := fun z hz => by
      have := hwf z hz
      simp [Lit.wf, IntKind.min, IntKind.max, IntKind.signed, IntKind.bits] at this
      omega
    refine ⟨some a, len, cap, (zs.take len).map fun z => UInt8.ofNat z.toNat, rfl, ⟨by simp [bcells]; omega, ?_⟩, hl, hm⟩
    rcases Nat.eq_zero_or_pos len with h0 | h0
    · exact .inl h0
    · refine .inr ⟨a, rfl, ?_, fun j u hu => ?_⟩
      · have := World.block_lt_of_cell? W _ (hc 0 (by omega))
        rwa [addr_add_block] at this
      · have hj : j < (bcells ((zs.take len).map fun z => UInt8.ofNat z.toNat)).length := (List.getElem?_eq_some_iff.1 hu).1
        have hj2 : j < len ∧ j < zs.length := by simp [bcells] at hj; omega
        rw [hc j hj2.2]
        have h2 := hz zs[j] (List.getElem_mem hj2.2)
        have hjt : j < (zs.take len).length := by rw [List.length_take]; omega
        have e1 : (bcells ((zs.take len).map fun z => UInt8.ofNat z.toNat))[j]? = some (.int .u8 zs[j]) := by
          unfold bcells
          rw [List.getElem?_map, List.getElem?_map, List.getElem?_eq_getElem hjt, List.getElem_take]
          show some (Value.int .u8 ((UInt8.ofNat (zs[j]).toNat).toNat : Int)) = _
          rw [show ((UInt8.ofNat (zs[j]).toNat).toNat : Int) = zs[j] by simp; omega]
        rw [e1] at hu
        rw [← hu, List.getD_eq_getElem?_getD, List.getElem?_eq_getElem hj2.2, Option.getD_some]
end Go.Proofs.YtbgbggodjhbgbaaDoor

/- An argument that is a slice of slices of bytes, opened. -/
namespace Go.Proofs.YtbgbggodjhbgbaaDoor
open Go.RowKit Go.ChangeShapes Go.WideShapes Go.ChangeAt
set_option linter.unusedVariables false
set_option linter.unusedSimpArgs false

/-- A slice of slices of bytes, all in blocks below B. -/
def RdBs (w : World) (B : Nat) (A : Option Addr) (n : Nat) (ps : List (List UInt8)) : Prop :=
  ps.length = n ∧ ∀ k (hk : k < ps.length), ∃ a Ai ci, A = some a ∧ a.block < B ∧ w.cell? (a.add k) = some (.slice Ai ps[k].length ci) ∧ Rd w B 1 Ai ps[k].length (bcells ps[k]) ∧ ps[k].length ≤ ci ∧ ci ≤ maxLen
theorem RdBs.below {w w' : World} {B n : Nat} {A : Option Addr} {ps : List (List UInt8)} (h : RdBs w B A n ps) (hb : Below B w w') : RdBs w' B A n ps :=
  ⟨h.1, fun k hk => by
    obtain ⟨a, Ai, ci, h1, h2, h3, h4, h5⟩ := h.2 k hk
    exact ⟨a, Ai, ci, h1, h2, (hb.cell (p := a.add k) (by rw [addr_add_block]; exact h2)).trans h3, h4.below hb, h5⟩⟩
theorem rd_of_ints {W : World} {A : Option Addr} {len cap : Nat} {zs : List Int} (hl : len ≤ cap) (hz : zs.length = cap) (hwf : ∀ z ∈ zs, (Lit.int .u8 z).wf = true) (h0 : A = none → cap = 0)
    (hc : ∀ a, A = some a → ∀ c, c < cap → W.cell? (a.add c) = some (.int .u8 (zs.getD c 0))) : ∃ bs : List UInt8, bs.length = len ∧ Rd W W.heap.size 1 A len (bcells bs) := by
  have hz' : ∀ z ∈ zs, 0 ≤ z ∧ z < 256 := fun z hz => by
    have := hwf z hz
    simp [Lit.wf, IntKind.min, IntKind.max, IntKind.signed, IntKind.bits] at this
    omega
  refine ⟨(zs.take len).map fun z => UInt8.ofNat z.toNat, by simp; omega, by simp [bcells]; omega, ?_⟩
  rcases Nat.eq_zero_or_pos len with h1 | h1
  · exact .inl h1
  · cases A with
    | none => have := h0 rfl; omega
    | some a =>
      refine .inr ⟨a, rfl, ?_, fun j u hu => ?_⟩
      · have := World.block_lt_of_cell? W _ (hc a rfl 0 (by omega))
        rwa [addr_add_block] at this
      · have hj : j < (bcells ((zs.take len).map fun z => UInt8.ofNat z.toNat)).length := (List.getElem?_eq_some_iff.1 hu).1
        have hj2 : j < len ∧ j < zs.length := by simp [bcells] at hj; omega
        rw [hc a rfl j (by omega)]
        have h2 := hz' zs[j] (List.getElem_mem hj2.2)
        have hjt : j < (zs.take len).length := by rw [List.length_take]; omega
        have e1 : (bcells ((zs.take len).map fun z => UInt8.ofNat z.toNat))[j]? = some (.int .u8 zs[j]) := by
          unfold bcells
          rw [List.getElem?_map, List.getElem?_map, List.getElem?_eq_getElem hjt, List.getElem_take]
          show some (Value.int .u8 ((UInt8.ofNat (zs[j]).toNat).toNat : Int)) = _
          rw [show ((UInt8.ofNat (zs[j]).toNat).toNat : Int) = zs[j] by simp; omega]
        rw [e1] at hu
        rw [← hu, List.getD_eq_getElem?_getD, List.getElem?_eq_getElem hj2.2, Option.getD_some]
end Go.Proofs.YtbgbggodjhbgbaaDoor
