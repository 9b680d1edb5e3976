/- A configuration by value as an argument, opened. -/
import Derived.Test.YtbgbggodjhbgbaaDoorStructs
import Derived.Test.YtbgbggodjhbgbaaDoorTexts
namespace Go.Proofs.YtbgbggodjhbgbaaDoor
open Go.RowKit Go.ChangeShapes Go.WideShapes Go.ChangeAt Go.Deep
open Go.Joins (open_agg4)

theorem array7 {α : Type} {cs : Array α} (h : cs.size = 7) : ∃ c0 c1 c2 c3 c4 c5 c6, cs = #[c0, c1, c2, c3, c4, c5, c6] := by
  obtain ⟨l⟩ := cs
  match l, h with
  | [c0, c1, c2, c3, c4, c5, c6], _ => exact ⟨c0, c1, c2, c3, c4, c5, c6, rfl⟩
section
variable {H : Type} {enc : TypeId × Value → H} {P : Program} {w : World} {base : Nat} {spare : Bool} {held : Nat → Bool}
theorem open_agg7 {r : Reach} {b0 : Nat} {t : TypeId} {f0 f1 f2 f3 f4 f5 f6 : Field} {v : Value} {d : DataW H} {p : List MemPlace} (hs : P.underlying t = some (.struct #[f0, f1, f2, f3, f4, f5, f6])) (hone : oneCellFields P #[f0, f1, f2, f3, f4, f5, f6] = true) (hC : P.cellsOf t = 7)
    (hv : Value.okWide P w r b0 t v) (h : DataW.Trod enc P w base held spare t v d p) :
    ∃ (v0 v1 v2 v3 v4 v5 v6 : Value) (y0 y1 y2 y3 y4 y5 y6 : DataW H × List MemPlace) (n : Nat), v = .agg #[v0, v1, v2, v3, v4, v5, v6] ∧ d = .agg [y0.1, y1.1, y2.1, y3.1, y4.1, y5.1, y6.1] ∧
      DataW.trod enc P w base held spare n f0.type [v0] = some y0 ∧ DataW.trod enc P w base held spare n f1.type [v1] = some y1 ∧ DataW.trod enc P w base held spare n f2.type [v2] = some y2 ∧ DataW.trod enc P w base held spare n f3.type [v3] = some y3 ∧
      DataW.trod enc P w base held spare n f4.type [v4] = some y4 ∧ DataW.trod enc P w base held spare n f5.type [v5] = some y5 ∧ DataW.trod enc P w base held spare n f6.type [v6] = some y6 := by
  obtain ⟨cs, rfl, hsz⟩ := okWide_struct hs hv
  obtain ⟨c0, c1, c2, c3, c4, c5, c6, rfl⟩ := array7 (hsz.trans hC)
  obtain ⟨fuel, hf⟩ := h
  obtain ⟨xs, n, _, hx, hl, hlen, hfs⟩ := DataW.trod_struct hs hf
  match xs, hlen with
  | [y0, y1, y2, y3, y4, y5, y6], _ =>
    obtain ⟨o0, k0⟩ := hone_of hone 0 f0 rfl
    obtain ⟨o1, k1⟩ := hone_of hone 1 f1 rfl
    obtain ⟨o2, k2⟩ := hone_of hone 2 f2 rfl
    obtain ⟨o3, k3⟩ := hone_of hone 3 f3 rfl
    obtain ⟨o4, k4⟩ := hone_of hone 4 f4 rfl
    obtain ⟨o5, k5⟩ := hone_of hone 5 f5 rfl
    obtain ⟨o6, k6⟩ := hone_of hone 6 f6 rfl
    simp only [Prod.mk.injEq] at hx
    refine ⟨c0, c1, c2, c3, c4, c5, c6, y0, y1, y2, y3, y4, y5, y6, n, rfl, by simpa using hx.1, ?_, ?_, ?_, ?_, ?_, ?_, ?_⟩
    · simpa [Value.cells, o0, k0] using hfs 0 f0 rfl
    · simpa [Value.cells, o1, k1] using hfs 1 f1 rfl
    · simpa [Value.cells, o2, k2] using hfs 2 f2 rfl
    · simpa [Value.cells, o3, k3] using hfs 3 f3 rfl
    · simpa [Value.cells, o4, k4] using hfs 4 f4 rfl
    · simpa [Value.cells, o5, k5] using hfs 5 f5 rfl
    · simpa [Value.cells, o6, k6] using hfs 6 f6 rfl
end
section
variable {H : Type} {enc : TypeId × Value → H} {W : World}
set_option maxRecDepth 100000 in
/-- A slice of texts, by its cells. -/
theorem open_texts_c {fuel : Nat} {cs : List Value} {x : DataW H × List MemPlace} (hf : DataW.trod enc Tryd.prog W 0 (fun _ => true) true fuel 23 cs = some x) (hw : ∀ k ∈ x.1.weights Tryd.prog 23, k ≤ reachBytes) :
    ∃ A n c ls, cs = [.slice A n c] ∧ Rd W W.heap.size 1 A n (scells ls) ∧ n ≤ c ∧ c ≤ maxLen ∧ ∀ l ∈ ls, l.length ≤ reachBytes := by
  rcases Go.Deep.open_strs Tryd.underlying23 Tryd.underlying9 cellsStr hf with ⟨h0, _⟩ | ⟨a, len, cap', m, Sx, h0, _, hl, hm, hmm, hx, hc⟩
  · exact ⟨none, 0, 0, [], h0, Rd.nil_, Nat.le_refl _, Nat.zero_le _, by simp⟩
  · simp only [if_true] at hmm
    subst hmm
    rw [hx] at hw
    unfold DataW.weights at hw
    rw [Tryd.underlying23] at hw
    have hel : ∀ i, i < len → (Sx i).data.toList.length ≤ reachBytes := fun i hi => by
      refine hw _ (List.mem_cons_of_mem _ (List.mem_append_left _ (weightsAll_mem (d := .lit (.string (Sx i).data.toList)) ?_ _ ?_)))
      · exact List.mem_map.2 ⟨i, List.mem_range.2 hi, rfl⟩
      · simp [DataW.weights]
    refine ⟨some a, len, m, (List.range len).map fun i => (Sx i).data.toList, h0, ⟨by simp [scells], ?_⟩, hl, hm, ?_⟩
    · rcases Nat.eq_zero_or_pos len with h0 | h0
      · exact .inl h0
      · refine .inr ⟨a, rfl, ?_, fun j u hu => ?_⟩
        · have := World.block_lt_of_cell? W _ (hc 0 (by omega)).1
          rwa [addr_add_block] at this
        · have hj : j < len := by have := (List.getElem?_eq_some_iff.1 hu).1; simpa [scells] using this
          have := (hc j (by omega)).1
          rw [this]
          simp [scells, hj] at hu
          rw [← hu]
    · intro l hl'
      obtain ⟨i, hi, rfl⟩ := List.mem_map.1 hl'
      exact hel i (List.mem_range.1 hi)
set_option maxRecDepth 100000 in
/-- A configuration. -/
theorem open_config {r : Reach} {b0 : Nat} {v : Value} {d : DataW H} {p : List MemPlace} (hv : Value.okWide Tryd.prog W r b0 25 v) (h : DataW.Trod enc Tryd.prog W 0 (fun _ => true) true 25 v d p) (hw : ∀ k ∈ d.weights Tryd.prog 25, k ≤ reachBytes) :
    ∃ (A0 A : Option Addr) (n0 c0 n c : Nat) (lv least cp bf tm : Int) (ls : List (List UInt8)), v = .agg #[.slice A0 n0 c0, .slice A n c, .int .i64 lv, .int .i64 least, .int .i64 cp, .int .i64 bf, .int .i64 tm] ∧ Rd W W.heap.size 1 A n (scells ls) ∧ n ≤ c ∧ c ≤ maxLen ∧
      (∀ l ∈ ls, l.length ≤ reachBytes) ∧ (Lit.int .i64 least).wf = true := by
  obtain ⟨v0, v1, v2, v3, v4, v5, v6, y0, y1, y2, y3, y4, y5, y6, n, rfl, rfl, h0, h1, h2, h3, h4, h5, h6⟩ := open_agg7 Tryd.underlying25 (by kernel_rfl) (by kernel_rfl) hv h
  unfold DataW.weights at hw
  rw [Tryd.underlying25] at hw
  simp only [List.map_cons, List.map_nil, DataW.weightsEach, List.append_nil, List.mem_append] at hw
  obtain ⟨A0, n0, c0, e0⟩ := Go.Joins.slice_form Tryd.underlying22 h0
  obtain ⟨A, n1, c1, ls, e1, g⟩ := open_texts_c h1 (fun k hk => hw k (.inr (.inl hk)))
  obtain ⟨i2, e2, _, _⟩ := DataW.trod_int Tryd.underlying3 h2
  obtain ⟨i3, e3, _, hwf⟩ := DataW.trod_int Tryd.underlying3 h3
  obtain ⟨i4, e4, _, _⟩ := DataW.trod_int Tryd.underlying3 h4
  obtain ⟨i5, e5, _, _⟩ := DataW.trod_int Tryd.underlying3 h5
  obtain ⟨i6, e6, _, _⟩ := DataW.trod_int Tryd.underlying3 h6
  simp only [List.cons.injEq, and_true] at e0 e1 e2 e3 e4 e5 e6
  subst e0 e1 e2 e3 e4 e5 e6
  exact ⟨A0, A, n0, c0, n1, c1, i2, i3, i4, i5, i6, ls, rfl, g.1, g.2.1, g.2.2.1, g.2.2.2, hwf⟩
end
end Go.Proofs.YtbgbggodjhbgbaaDoor
