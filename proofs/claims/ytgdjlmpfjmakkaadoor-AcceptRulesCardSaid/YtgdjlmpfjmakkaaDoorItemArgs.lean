/- A slice of items, opened to a plain list. -/
import Derived.Test.YtgdjlmpfjmakkaaDoorStructs
import Derived.Test.YtgdjlmpfjmakkaaDoorItems
namespace Go.Proofs.YtgdjlmpfjmakkaaDoor
open Go.RowKit Go.ChangeShapes Go.WideShapes Go.ChangeAt

theorem cellsInt : Tryd.prog.cellsOf 3 = 1 := by kernel_rfl
theorem cellsItem : Tryd.prog.cellsOf 59 = 2 := by kernel_rfl
def acells (l : List (ByteArray × Int)) : List Value := l.flatMap fun f => [.string f.1, .int .i64 f.2]
theorem acells_cons (f : ByteArray × Int) (l : List (ByteArray × Int)) : acells (f :: l) = .string f.1 :: .int .i64 f.2 :: acells l := rfl
theorem acells_length : ∀ l, (acells l).length = l.length * 2
  | [] => rfl
  | f :: l => by rw [acells_cons, List.length_cons, List.length_cons, acells_length l, List.length_cons]; omega
theorem acells_get : ∀ (l : List (ByteArray × Int)) (k : Nat) (h : k < l.length), (acells l)[k * 2]? = some (.string l[k].1) ∧ (acells l)[k * 2 + 1]? = some (.int .i64 l[k].2)
  | f :: l, 0, _ => ⟨rfl, rfl⟩
  | f :: l, k + 1, h => by
    have := acells_get l k (by simpa using h)
    rw [acells_cons, show (k + 1) * 2 = k * 2 + 1 + 1 by omega]
    simp only [List.getElem?_cons_succ, List.getElem_cons_succ]
    exact this
theorem Rd.aitem {w : World} {B n : Nat} {A : Option Addr} {l : List (ByteArray × Int)} (h : Rd w B 2 A n (acells l)) {k : Nat} (hk : k < n) (hl : k < l.length) :
    ∃ b off, A = some ⟨b, off, none⟩ ∧ b < B ∧ w.cell? ⟨b, off + k * 2, none⟩ = some (.string l[k].1) ∧ w.cell? ⟨b, off + k * 2 + 1, none⟩ = some (.int .i64 l[k].2) := by
  obtain ⟨a, rfl, hb, hc⟩ := h.at_ hk
  obtain ⟨b, off, spot⟩ := a
  have h0 := hc (k * 2) _ (acells_get l k hl).1
  have h1 := hc (k * 2 + 1) _ (acells_get l k hl).2
  have hs : spot = none := by
    have h00 := hc 0 _ (by have := (acells_get l 0 (by omega)).1; simpa using this)
    simpa [Addr.add] using World.cell?_spot h00
  subst hs
  rw [Addr.add_lit] at h0 h1
  exact ⟨b, off, rfl, hb, h0, h1⟩
theorem Rd.alen {w : World} {B n : Nat} {A : Option Addr} {l : List (ByteArray × Int)} (h : Rd w B 2 A n (acells l)) : l.length = n := by have := h.1; rw [acells_length] at this; omega
set_option maxRecDepth 100000 in
theorem open_items {H : Type} {enc : TypeId × Value → H} {W : World} {r : Reach} {b0 : Nat} {v : Value} {d : DataW H} {p : List MemPlace} (hv : Value.okWide Tryd.prog W r b0 56 v) (h : DataW.Trod enc Tryd.prog W 0 (fun _ => true) true 56 v d p) :
    ∃ A n c l, v = .slice A n c ∧ Rd W W.heap.size 2 A n (acells l) ∧ n ≤ c ∧ c ≤ maxLen ∧ ∀ f ∈ l, (Lit.int .i64 f.2).wf = true := by
  obtain ⟨a, len, cap, rfl⟩ := okWide_slice Tryd.underlying56 hv
  obtain ⟨fuel, hf⟩ := h
  rcases Go.Deep.open_slice_pairs Tryd.underlying56 Tryd.underlying59 cellsItem rfl rfl cellsStr cellsInt hf with ⟨h0, _⟩ | ⟨a, len', cap', m, n, V0, V1, D0, D1, P0, P1, h0, _, hl, hm, hmm, hx, hc⟩
  · simp only [Value.cells, List.cons.injEq, and_true] at h0
    cases h0
    exact ⟨none, 0, 0, [], rfl, Rd.nil_, Nat.le_refl _, Nat.zero_le _, by simp⟩
  · simp only [Value.cells, List.cons.injEq, and_true] at h0
    cases h0
    simp only [if_true] at hmm
    subst hmm
    have hall : ∀ i, i < m → ∃ q : ByteArray × Int, V0 i = .string q.1 ∧ V1 i = .int .i64 q.2 ∧ (Lit.int .i64 q.2).wf = true := fun i hi => by
      obtain ⟨_, _, h2, h3⟩ := hc i hi
      obtain ⟨s, hs, _, _⟩ := DataW.trod_string Tryd.underlying9 h2
      obtain ⟨k, hk, _, hwf⟩ := DataW.trod_int Tryd.underlying3 h3
      simp only [List.cons.injEq, and_true] at hs hk
      exact ⟨(s, k), hs, hk, hwf⟩
    obtain ⟨q, hq⟩ := Go.Deep.choose_lt hall
    have hget : ∀ (t : Nat) (hi : t < ((List.range len).map q).length), ((List.range len).map q)[t] = q t := fun t hi => by simp
    refine ⟨some a, len, m, (List.range len).map q, rfl, ⟨by rw [acells_length]; simp, ?_⟩, hl, hm, ?_⟩
    · rcases Nat.eq_zero_or_pos len with h0 | h0
      · exact .inl h0
      · refine .inr ⟨a, rfl, ?_, fun j u hu => ?_⟩
        · have := World.block_lt_of_cell? W _ (hc 0 (by omega)).1
          rwa [addr_add_block] at this
        · have hj : j < len * 2 := by have := (List.getElem?_eq_some_iff.1 hu).1; rw [acells_length] at this; simpa using this
          have hi : j / 2 < ((List.range len).map q).length := by simp; omega
          obtain ⟨c0, c1, _, _⟩ := hc (j / 2) (by omega)
          obtain ⟨e0, e1, _⟩ := hq (j / 2) (by omega)
          have hf := acells_get _ (j / 2) hi
          rw [hget _ hi] at hf
          rcases Nat.mod_two_eq_zero_or_one j with h2 | h2
          · have ej : j / 2 * 2 = j := by omega
            rw [ej] at c0 hf
            rw [hf.1] at hu
            rw [c0, e0, ← hu]
          · have ej : j / 2 * 2 + 1 = j := by omega
            rw [ej] at c1 hf
            rw [hf.2] at hu
            rw [c1, e1, ← hu]
    · intro f hf
      obtain ⟨i, hi, rfl⟩ := List.mem_map.1 hf
      exact (hq i (by have := List.mem_range.1 hi; omega)).2.2
end Go.Proofs.YtgdjlmpfjmakkaaDoor
