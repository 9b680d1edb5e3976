/- 'out = append(out, text...)': out the call's own. -/
import Derived.Test.YtbplnglmjcmfiaaGreatDoorOwn
import Derived.Lib.AppendStr
namespace Go.Proofs.YtbplnglmjcmfiaaGreatDoor
open Go.RowKit

section
variable {P : Program}
theorem heap_alloc_old' (w : World) (o : Obj) (k : Nat) (h : k < w.heap.size) : (w.drew.alloc o).heap[k]? = w.heap[k]? := Below.heap_alloc w.drew o k h
theorem strCells_b (s : ByteArray) : Lib.strCells s = bcells s.data.toList := rfl
theorem run_append_ow_string (w : World) (t u ty : TypeId) (base : Nat) (e : TypeId) (i : TypeInfo) (ht : P.underlying t = some (.slice e)) (hu : P.underlying u = some .string) (hi : P.info? e = some i) (hz : i.zero = some (.int .u8 0))
    (hsize : i.size = 1) (hby : i.bytes = 1) (v : Value) (n : Nat) (xs : List Value) (hown : Ow w base 1 v n xs) (s : ByteArray)
    (h63 : n + s.size ≤ maxLen) (hbytes : n + s.size ≤ 140737488355328) (hbase : base ≤ w.heap.size) :
    ∃ v' w', (Builtin.append_ #[t, u] ty #[v, .string s]).run P w = .ok v' w' ∧ Ow w' base 1 v' (n + s.size) (xs ++ bcells s.data.toList) ∧ w.grownBy w' v.ownBlock ∧ (v'.ownBlock = v.ownBlock ∨ ∀ g, v'.ownBlock = some g → w.heap.size ≤ g) := by
  have hxl : xs.length = n := by simpa using hown.1
  rcases hown.2 with ⟨rfl, rfl⟩ | ⟨g, off, cap, rfl, hg1, hg2, hg3, hg4, hg5, hg6⟩
  · have hx : xs = [] := List.eq_nil_of_length_eq_zero hxl
    subst hx
    obtain ⟨v', w', h2, h3, h4, -⟩ := Lib.run_append_own_string (P := P) w base t u ty e i ht hu hi hz hsize hby (.slice none 0 0) 0 [] (World.ownsRow_nil w _ e 1) s h63 hbytes hbase
    obtain ⟨v'', w'', k2, k3, k4, -⟩ := Lib.run_append_own_string (P := P) w w.heap.size t u ty e i ht hu hi hz hsize hby (.slice none 0 0) 0 [] (World.ownsRow_nil w _ e 1) s h63 hbytes (Nat.le_refl _)
    rw [h2] at k2; cases k2
    exact ⟨v', w', h2, Ow.of_row h3, h4, .inr fun g hg => (k3.lt g hg).1⟩
  · by_cases hroom : n + s.size ≤ cap
    · have hsl : (Lib.strCells s).length = s.size := Lib.strCells_length s
      have h6 : ∀ j, j < (Lib.strCells s).length → (w.cell? ⟨g, off + n + j, none⟩).isSome = true ∧ w.frozen? ⟨g, off + n + j, none⟩ = false := fun j hj => by
        have := hg6 (n + j) (by omega)
        rwa [← Nat.add_assoc] at this
      have hfc := Lib.run_firstCells_string (P := P) w 1 s
      have hst := run_storeCells_cells (P := P) g (off + n) (Lib.strCells s) 0 w (fun j hj => by rw [Nat.add_zero]; exact (h6 j hj).1) (fun j hj => by rw [Nat.add_zero]; exact (h6 j hj).2) (Lib.strCells_oneCell s)
      simp only [Nat.add_zero] at hst
      have hrun : (Builtin.append_ #[t, u] ty #[.slice (some ⟨g, off, none⟩) n cap, .string s]).run P w = .ok (.slice (some ⟨g, off, none⟩) (n + s.size) cap) (w.setCells g (off + n) (Lib.strCells s)) := by
        simp [Builtin.append_, run_underlying ht, run_underlying hu, sizeOf, typeInfo, hi, hsize, Builtin.lenOf, hroom, hfc, Addr.add_lit, hst]
      rw [← strCells_b]
      refine ⟨_, _, hrun, ⟨by rw [List.length_append, hxl, hsl, Nat.mul_one], .inr ⟨g, off, cap, rfl, hg1, by rw [size_setCells]; exact hg2, hroom, hg4, fun j u hu => ?_, fun j hj => ?_⟩⟩, grown_setCells g _ _ w, .inl rfl⟩
      · rw [List.getElem?_append] at hu
        split at hu
        · rename_i hjx
          rw [World.cell?_setCells_out g (Lib.strCells s) _ w _ (fun _ _ => .inl (by show off + j < _; omega))]
          exact hg5 j u hu
        · rename_i hjx
          have hjl := (List.getElem?_eq_some_iff.1 hu).1
          have := World.cell?_setCells_in g (Lib.strCells s) (off + n) w (fun j hj => (h6 j hj).1) (j - xs.length) hjl
          rw [← List.getElem?_eq_getElem hjl, hu, hxl] at this
          rwa [show off + j = off + n + (j - n) by omega]
      · have h7 := hg6 j hj
        refine ⟨?_, by rw [World.frozen?_setCells]; exact h7.2⟩
        by_cases hin : n ≤ j ∧ j < n + (Lib.strCells s).length
        · have := World.cell?_setCells_in g (Lib.strCells s) (off + n) w (fun j hj => (h6 j hj).1) (j - n) (by omega)
          rw [show off + j = off + n + (j - n) by omega, this]; rfl
        · rw [World.cell?_setCells_out g (Lib.strCells s) _ w _ (fun _ _ => by show off + j < _ ∨ _ ≤ off + j; omega)]
          exact h7.1
    · have hsmall : n + s.size ≤ 9223372036854775807 := by simp only [maxLen] at h63; omega
      have hsl : (Lib.strCells s).length = s.size := Lib.strCells_length s
      have hge := grownCap_ge w (n + s.size) cap e
      have hcm : grownCap w (n + s.size) cap e ≤ maxLen := grownCap_le_maxLen w (n + s.size) cap e h63
      have hr := Lib.run_append_grow_string (P := P) w t u ty e i (.int .u8 0) ht hu hi hz ⟨g, off, none⟩ n cap xs (by rw [hsize]; omega) (fun j u hu => by rw [Addr.add_lit]; exact hg5 j u hu) s (by omega) (by omega) (growslice_fits (by omega) (by rw [hby]; omega))
      have hlen : (xs ++ Lib.strCells s).length = n + s.size := by rw [List.length_append, hxl, hsl]
      rw [← strCells_b]
      refine ⟨_, _, hr, Ow.of_row (own_base (base := w.heap.size) (e := e) ⟨by rw [hlen]; omega, .inr ⟨w.heap.size, _, _, rfl, Nat.le_refl _, heap_alloc_new w.drew _, hge, hcm, ?_, ?_⟩⟩ hbase), ⟨rfl, rfl, rfl, by simp, fun k hk _ => heap_alloc_old' w _ k hk⟩, .inr fun g hg => by cases hg; exact Nat.le_refl _⟩
      · have hz1 : (Value.int IntKind.u8 0).cells.size = 1 := rfl
        simp only [Array.size_append, List.size_toArray, size_zeroCells, hz1, hxl, hsl]
        omega
      · simp only [Array.toList_append, List.append_assoc]
        rw [← List.append_assoc, show (n + s.size) * 1 = (xs ++ Lib.strCells s).length by rw [hlen]; omega]
        exact List.take_left
/-- The same in a plain region. -/
theorem wpl_append_ow_string (w : World) {ops : Array Oper} {rest : List Oper} {o : Oper} {a : Act} {Q : Exit → Act → World → Prop}
    (hgd : o.guard = none) (s x : Operand) (t u : TypeId) (hop : o.op = Op.call { callee := Callee.builtin Builtin.append, args := #[s, x], argTypes := #[t, u] })
    (base : Nat) (e : TypeId) (i : TypeInfo) (ht : P.underlying t = some (.slice e)) (hu : P.underlying u = some .string) (hi : P.info? e = some i) (hz : i.zero = some (.int .u8 0))
    (hsize : i.size = 1) (hby : i.bytes = 1)
    (v : Value) (n : Nat) (xs : List Value) (hs : a.eval s = v) (b : ByteArray) (hx : a.eval x = .string b)
    (hown : Ow w base 1 v n xs) (h63 : n + b.size ≤ maxLen) (hbytes : n + b.size ≤ 140737488355328) (hbase : base ≤ w.heap.size)
    (hK : ∀ v' w', Ow w' base 1 v' (n + b.size) (xs ++ bcells b.data.toList) → Below base w w' → w.grownBy w' v.ownBlock → (v'.ownBlock = v.ownBlock ∨ ∀ g, v'.ownBlock = some g → w.heap.size ≤ g) → wpList P ops Q rest (a.put o.dst v') w') :
    wpList P ops Q (o :: rest) a w := by
  refine wpList_plain hgd fun K hK' => ?_
  obtain ⟨v', w', hrun, h2, h3, h4⟩ := run_append_ow_string (P := P) w t u o.type base e i ht hu hi hz hsize hby v n xs hown b h63 hbytes hbase
  unfold Oper.wp
  simp [execOp, hop, resolve, invoke, builtin, hs, hx, hrun, Result.andThen]
  exact hK' _ _ (hK v' w' h2 ((Below.refl _ _).grown h3 hbase (fun k hk => (hown.lt k hk).1)) h3 h4)
end
end Go.Proofs.YtbplnglmjcmfiaaGreatDoor
