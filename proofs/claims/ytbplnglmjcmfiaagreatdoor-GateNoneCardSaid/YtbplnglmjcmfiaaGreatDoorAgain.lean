/- Arguments opened to plain lists; arguments that read again behind a call that leaves old blocks alone. -/
import Derived.Test.YtbplnglmjcmfiaaGreatDoorFrame
import Derived.Test.YtbplnglmjcmfiaaGreatDoorGets
import Derived.WideKeyArgs
import Derived.Deep.SlicePairs
import Derived.Deep.Strs
namespace Go.Proofs.YtbplnglmjcmfiaaGreatDoor
open Go.RowKit Go.ChangeShapes Go.WideShapes Go.ChangeAt

theorem again_of {H : Type} {enc : TypeId × Value → H} {P : Program} (hl : laidOutB P = true) {W W' : World} (hb : Below W.heap.size W W') (ts : List TypeId) :
    ∀ {vs : List Value} {ds : List (DataW H)} {ps : List MemPlace}, (∀ t ∈ ts, P.readableRec t = true ∧ t < P.types.size) →
      DataW.TrodAll enc P W 0 (fun _ => true) true ts vs ds ps → DataW.TrodAll enc P W' 0 (fun b => decide (b < W.heap.size)) true ts vs ds ps := by
  induction ts with
  | nil =>
    intro vs ds ps _ h
    obtain ⟨rfl, rfl, rfl⟩ := trodAll_nil h
    exact trodAll_mk0
  | cons t ts ih =>
    intro vs ds ps ht h
    have hlt := h.lt
    obtain ⟨v, vs', d, ds', p, q, rfl, rfl, rfl, h1, h2⟩ := trodAll_cons h
    have hp : ∀ x ∈ p, x.block < W.heap.size := fun x hx => hlt x (by simp [hx])
    have h3 := ht t (by simp)
    exact trodAll_cons_mk (Go.WideElems.Trod_stays hl h3.1 h3.2 h1 (fun x hx => hb.same (hp x hx)) (fun x hx => by simpa using hp x hx)) (ih (fun t' ht' => ht t' (by simp [ht'])) h2)
theorem rowed_of {P : Program} {ts : List TypeId} (h : (ts.all fun t => P.readableRec t && decide (t < P.types.size)) = true) : ∀ t ∈ ts, P.readableRec t = true ∧ t < P.types.size := by
  intro t ht
  have := List.all_eq_true.1 h t ht
  simpa using this

section
variable {H : Type} {enc : TypeId × Value → H} {W : World}
theorem cellsStr : Tryz.prog.cellsOf 9 = 1 := by kernel_rfl
theorem cellsFld : Tryz.prog.cellsOf 187 = 2 := by kernel_rfl
set_option maxRecDepth 100000 in
/-- A slice of texts. -/
theorem open_texts {r : Reach} {b0 : Nat} {v : Value} {d : DataW H} {p : List MemPlace} (hv : Value.okWide Tryz.prog W r b0 40 v) (h : DataW.Trod enc Tryz.prog W 0 (fun _ => true) true 40 v d p) :
    ∃ A n c ls, v = .slice A n c ∧ Rd W W.heap.size 1 A n (scells ls) ∧ n ≤ c ∧ c ≤ maxLen ∧ ∀ l ∈ ls, l.length ≤ maxLen := by
  obtain ⟨a, len, cap, rfl⟩ := okWide_slice Tryz.underlying40 hv
  obtain ⟨fuel, hf⟩ := h
  rcases Go.Deep.open_strs Tryz.underlying40 Tryz.underlying9 cellsStr hf with ⟨h0, _⟩ | ⟨a, len', cap', m, Sx, h0, _, hl, hm, hmm, _, hc⟩
  · simp only [Value.cells, List.cons.injEq, and_true] at h0
    cases h0
    exact ⟨none, 0, 0, [], rfl, Rd.nil_, Nat.le_refl _, Nat.zero_le _, by simp⟩
  · simp only [Value.cells, List.cons.injEq, and_true] at h0
    cases h0
    simp only [if_true] at hmm
    subst hmm
    refine ⟨some a, len, m, (List.range len).map fun i => (Sx i).data.toList, rfl, ⟨by simp [scells], ?_⟩, hl, hm, ?_⟩
    · rcases Nat.eq_zero_or_pos len with h0 | h0
      · exact .inl h0
      · refine .inr ⟨a, rfl, ?_, fun j u hu => ?_⟩
        · have := World.block_lt_of_cell? W _ (hc 0 (by omega)).1
          rwa [addr_add_block] at this
        · have hj : j < len := by have := (List.getElem?_eq_some_iff.1 hu).1; simpa [scells] using this
          have := (hc j (by omega)).1
          rw [this]
          simp [scells, hj] at hu
          rw [← hu]
    · intro l hl'
      obtain ⟨i, hi, rfl⟩ := List.mem_map.1 hl'
      have := (hc i (by have := List.mem_range.1 hi; omega)).2
      rwa [size_of] at this

theorem fcells_range (n : Nat) (F : Nat → List UInt8 × List UInt8) : ∀ (o : Nat), fcells ((List.range' o n).map F) = (List.range' o n).flatMap fun i => [.string ⟨(F i).1.toArray⟩, .string ⟨(F i).2.toArray⟩] := by
  induction n with
  | zero => intro o; rfl
  | succ n ih => intro o; simp only [List.range'_succ, List.map_cons, fcells, List.flatMap_cons, ih (o + 1)]; rfl
theorem fcells_at (n : Nat) (F : Nat → List UInt8 × List UInt8) (i : Nat) (hi : i < n) : (fcells ((List.range n).map F))[i * 2]? = some (.string ⟨(F i).1.toArray⟩) ∧ (fcells ((List.range n).map F))[i * 2 + 1]? = some (.string ⟨(F i).2.toArray⟩) := by
  have := fcells_get ((List.range n).map F) i (by simpa using hi)
  simpa using this
set_option maxRecDepth 100000 in
/-- A slice of fields. -/
theorem open_fields {r : Reach} {b0 : Nat} {v : Value} {d : DataW H} {p : List MemPlace} (hv : Value.okWide Tryz.prog W r b0 53 v) (h : DataW.Trod enc Tryz.prog W 0 (fun _ => true) true 53 v d p) :
    ∃ A n c fs, v = .slice A n c ∧ Rd W W.heap.size 2 A n (fcells fs) ∧ n ≤ c ∧ c ≤ maxLen ∧ ∀ f ∈ fs, f.1.length ≤ maxLen ∧ f.2.length ≤ maxLen := by
  obtain ⟨a, len, cap, rfl⟩ := okWide_slice Tryz.underlying53 hv
  obtain ⟨fuel, hf⟩ := h
  rcases Go.Deep.open_slice_pairs Tryz.underlying53 Tryz.underlying187 cellsFld rfl rfl cellsStr cellsStr hf with ⟨h0, _⟩ | ⟨a, len', cap', m, n, V0, V1, D0, D1, P0, P1, h0, _, hl, hm, hmm, _, hc⟩
  · simp only [Value.cells, List.cons.injEq, and_true] at h0
    cases h0
    exact ⟨none, 0, 0, [], rfl, Rd.nil_, Nat.le_refl _, Nat.zero_le _, by simp⟩
  · simp only [Value.cells, List.cons.injEq, and_true] at h0
    cases h0
    simp only [if_true] at hmm
    subst hmm
    have hall : ∀ i, i < m → ∃ q : ByteArray × ByteArray, V0 i = .string q.1 ∧ V1 i = .string q.2 ∧ q.1.size ≤ maxLen ∧ q.2.size ≤ maxLen := fun i hi => by
      obtain ⟨_, _, h2, h3⟩ := hc i hi
      obtain ⟨s, hs, _, hz⟩ := DataW.trod_string Tryz.underlying9 h2
      obtain ⟨s', hs', _, hz'⟩ := DataW.trod_string Tryz.underlying9 h3
      simp only [List.cons.injEq, and_true] at hs hs'
      exact ⟨(s, s'), hs, hs', hz, hz'⟩
    obtain ⟨q, hq⟩ := Go.Deep.choose_lt hall
    refine ⟨some a, len, m, (List.range len).map fun i => ((q i).1.data.toList, (q i).2.data.toList), rfl, ⟨by rw [fcells_length]; simp, ?_⟩, hl, hm, ?_⟩
    · rcases Nat.eq_zero_or_pos len with h0 | h0
      · exact .inl h0
      · refine .inr ⟨a, rfl, ?_, fun j u hu => ?_⟩
        · have := World.block_lt_of_cell? W _ (hc 0 (by omega)).1
          rwa [addr_add_block] at this
        · have hj : j < len * 2 := by have := (List.getElem?_eq_some_iff.1 hu).1; rw [fcells_length] at this; simpa using this
          have hi : j / 2 < len := by omega
          obtain ⟨c0, c1, _, _⟩ := hc (j / 2) (by omega)
          obtain ⟨e0, e1, _, _⟩ := hq (j / 2) (by omega)
          have hf := fcells_at len (fun i => ((q i).1.data.toList, (q i).2.data.toList)) (j / 2) hi
          rcases Nat.mod_two_eq_zero_or_one j with h2 | h2
          · have ej : j / 2 * 2 = j := by omega
            rw [ej] at c0 hf
            rw [hf.1] at hu
            rw [c0, e0, ← hu]
          · have ej : j / 2 * 2 + 1 = j := by omega
            rw [ej] at c1 hf
            rw [hf.2] at hu
            rw [c1, e1, ← hu]
    · intro f hf'
      obtain ⟨i, hi, rfl⟩ := List.mem_map.1 hf'
      obtain ⟨_, _, h3, h4⟩ := hq i (by have := List.mem_range.1 hi; omega)
      rw [size_of] at h3 h4
      exact ⟨h3, h4⟩
end
end Go.Proofs.YtbplnglmjcmfiaaGreatDoor
