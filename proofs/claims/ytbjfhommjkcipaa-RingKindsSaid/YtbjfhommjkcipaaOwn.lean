/- Slices of the call's own that may begin in the midst of a block: read, cut, stored into, appended to. -/
import Derived.Test.YtbjfhommjkcipaaWords
import Derived.ArgAppend
namespace Go.Proofs.Ytbjfhommjkcipaa
open Go.RowKit

/-- The slice value v, of n elements of 'size' cells each, lies in a block from 'base' on, may be written up to its capacity, and holds xs. -/
def Ow (w : World) (base size : Nat) (v : Value) (n : Nat) (xs : List Value) : Prop :=
  xs.length = n * size ∧ ((v = .slice none 0 0 ∧ n = 0) ∨
    ∃ g off cap, v = .slice (some ⟨g, off, none⟩) n cap ∧ base ≤ g ∧ g < w.heap.size ∧ n ≤ cap ∧ cap ≤ maxLen ∧
      (∀ j u, xs[j]? = some u → w.cell? ⟨g, off + j, none⟩ = some u) ∧
      (∀ j, j < cap * size → (w.cell? ⟨g, off + j, none⟩).isSome = true ∧ w.frozen? ⟨g, off + j, none⟩ = false))

theorem heap_setCells (g : Nat) : ∀ (vs : List Value) (o : Nat) (w : World) (k : Nat), k ≠ g → (w.setCells g o vs).heap[k]? = w.heap[k]?
  | [], _, _, _, _ => rfl
  | v :: vs, o, w, k, h => by
    show ((w.setCell ⟨g, o, none⟩ v).setCells g (o + 1) vs).heap[k]? = _
    rw [heap_setCells g vs _ _ k h, Below.heap_setCell _ _ _ _ (by simpa using h)]
theorem size_setCells (g : Nat) : ∀ (vs : List Value) (o : Nat) (w : World), (w.setCells g o vs).heap.size = w.heap.size
  | [], _, _ => rfl
  | v :: vs, o, w => by
    show ((w.setCell ⟨g, o, none⟩ v).setCells g (o + 1) vs).heap.size = _
    rw [size_setCells g vs]; simp [World.setCell]
theorem rest_setCells (g : Nat) : ∀ (vs : List Value) (o : Nat) (w : World), (w.setCells g o vs).os = w.os ∧ (w.setCells g o vs).tape = w.tape ∧ (w.setCells g o vs).output = w.output
  | [], _, _ => ⟨rfl, rfl, rfl⟩
  | v :: vs, o, w => rest_setCells g vs (o + 1) (w.setCell ⟨g, o, none⟩ v)
theorem grown_setCells (g : Nat) (vs : List Value) (o : Nat) (w : World) : w.grownBy (w.setCells g o vs) (some g) :=
  ⟨(rest_setCells g vs o w).1, (rest_setCells g vs o w).2.1, (rest_setCells g vs o w).2.2, by rw [size_setCells]; exact Nat.le_refl _, fun k _ hne => heap_setCells g vs o w k (by simpa using hne)⟩

section
variable {w w' : World} {base base' size n : Nat} {v : Value} {xs : List Value}
theorem Ow.nil_ : Ow w base size (.slice none 0 0) 0 [] := ⟨by simp, .inl ⟨rfl, rfl⟩⟩
theorem Ow.base_ (h : Ow w base size v n xs) (hb : base' ≤ base) : Ow w base' size v n xs := by
  refine ⟨h.1, h.2.imp id ?_⟩
  rintro ⟨g, off, cap, h1, h2, h3⟩
  exact ⟨g, off, cap, h1, by omega, h3⟩
theorem Ow.of_row {e : TypeId} (h : w.ownsRow base e size v n xs) : Ow w base size v n xs := by
  refine ⟨h.1, h.2.imp id ?_⟩
  rintro ⟨g, cap, cur, rfl, h1, h2, h3, h4, h5, h6⟩
  refine ⟨g, 0, cap, rfl, h1, lt_of_block h2, h3, h4, fun j u hu => ?_, fun j hj => ?_⟩
  · have := h.cells (g := g) rfl j u hu
    rwa [Addr.add_lit] at this
  · rw [cell_of_row w g (0 + j) cur e (0, 0) h2]
    refine ⟨by simp; omega, by simp [World.frozen?, h2]⟩
theorem Ow.shape (h : Ow w base size v n xs) : ∃ A c, v = .slice A n c ∧ n ≤ c ∧ c ≤ maxLen := by
  rcases h.2 with ⟨rfl, rfl⟩ | ⟨g, off, cap, rfl, _, _, h1, h2, _⟩
  · exact ⟨none, 0, rfl, Nat.le_refl _, Nat.zero_le _⟩
  · exact ⟨_, cap, rfl, h1, h2⟩
theorem Ow.lt (h : Ow w base size v n xs) : ∀ k, v.ownBlock = some k → base ≤ k ∧ k < w.heap.size := by
  intro k hk
  rcases h.2 with ⟨rfl, _⟩ | ⟨g, off, cap, rfl, h1, h2, _⟩
  · simp [Value.ownBlock] at hk
  · simp [Value.ownBlock] at hk; subst hk; exact ⟨h1, h2⟩
theorem Ow.kept {row : Option Nat} (h : Ow w base size v n xs) (hg : w.grownBy w' row) (hne : v.ownBlock = none ∨ v.ownBlock ≠ row) : Ow w' base size v n xs := by
  refine ⟨h.1, h.2.imp id ?_⟩
  rintro ⟨g, off, cap, rfl, h1, h2, h3, h4, h5, h6⟩
  have hb : w'.heap[g]? = w.heap[g]? := hg.block g h2 (by simpa [Value.ownBlock] using hne)
  refine ⟨g, off, cap, rfl, h1, Nat.lt_of_lt_of_le h2 hg.size, h3, h4, fun j u hu => (World.cell?_of_block (a := ⟨g, off + j, none⟩) hb).trans (h5 j u hu), fun j hj => ?_⟩
  rw [World.cell?_of_block (a := ⟨g, off + j, none⟩) hb, World.frozen?_of_block (a := ⟨g, off + j, none⟩) hb]
  exact h6 j hj
theorem Ow.below (h : Ow w base size v n xs) (hb : Below w.heap.size w w') : Ow w' base size v n xs := h.kept (row := none) (grown_of_below hb) (by cases v.ownBlock <;> simp)
theorem Ow.alloc (h : Ow w base size v n xs) (o : Obj) : Ow (w.alloc o) base size v n xs := h.below ((Below.refl _ _).alloc (Nat.le_refl _) o)
theorem Ow.drewN (h : Ow w base size v n xs) (k : Nat) : Ow (w.drewN k) base size v n xs := h
theorem Ow.rd {A : Option Addr} {c : Nat} (h : Ow w base size (.slice A n c) n xs) : Rd w w.heap.size size A n xs := by
  refine ⟨h.1, ?_⟩
  rcases h.2 with ⟨_, h0⟩ | ⟨g, off, cap, hv, h1, h2, h3, h4, h5, _⟩
  · exact .inl h0
  · cases hv
    exact .inr ⟨_, rfl, h2, fun j u hu => by rw [Addr.add_lit]; exact h5 j u hu⟩
/-- 'v[k:m]'. -/
theorem Ow.cut {A : Option Addr} {c : Nat} (h : Ow w base size (.slice A n c) n xs) {k m : Nat} (hk : k ≤ m) (hm : m ≤ n) :
    Ow w base size (.slice (if c = k then A else A.map (·.add (k * size))) (m - k) (c - k)) (m - k) ((xs.drop (k * size)).take ((m - k) * size)) := by
  have hlen : k * size + (m - k) * size ≤ n * size := by rw [← Nat.add_mul]; exact Nat.mul_le_mul_right _ (by omega)
  refine ⟨by rw [List.length_take, List.length_drop, h.1]; omega, ?_⟩
  rcases h.2 with ⟨hv, rfl⟩ | ⟨g, off, cap, hv, h1, h2, h3, h4, h5, h6⟩
  · cases hv
    obtain rfl : m = 0 := by omega
    obtain rfl : k = 0 := by omega
    exact .inl ⟨by simp, rfl⟩
  · cases hv
    refine .inr ?_
    by_cases hc : c = k
    · subst hc
      obtain rfl : m = c := by omega
      rw [if_pos rfl]
      exact ⟨g, off, m - m, by simp, h1, h2, Nat.le_refl _, by omega, fun j u hu => by simp at hu, fun j hj => by simp at hj⟩
    · rw [if_neg hc]
      refine ⟨g, off + k * size, c - k, by simp [Addr.add_lit], h1, h2, by omega, by omega, fun j u hu => ?_, fun j hj => ?_⟩
      · rw [List.getElem?_take] at hu
        split at hu
        · rw [List.getElem?_drop] at hu; have := h5 _ u hu; rwa [← Nat.add_assoc] at this
        · cases hu
      · have := h6 (k * size + j) (by rw [Nat.sub_mul] at hj; have := Nat.mul_le_mul_right size (show k ≤ c by omega); omega)
        rwa [← Nat.add_assoc] at this
/-- An element's cell, and that it may be written. -/
theorem Ow.at_ {A : Option Addr} {c : Nat} (h : Ow w base size (.slice A n c) n xs) {j : Nat} (hj : j < n * size) :
    ∃ g off, A = some ⟨g, off, none⟩ ∧ base ≤ g ∧ g < w.heap.size ∧ w.cell? ⟨g, off + j, none⟩ = xs[j]? ∧ w.frozen? ⟨g, off + j, none⟩ = false := by
  rcases h.2 with ⟨_, rfl⟩ | ⟨g, off, cap, hv, h1, h2, h3, h4, h5, h6⟩
  · simp at hj
  · cases hv
    have hjx : j < xs.length := by rw [h.1]; exact hj
    exact ⟨g, off, rfl, h1, h2, by rw [List.getElem?_eq_getElem hjx]; exact h5 j _ (List.getElem?_eq_getElem hjx), (h6 j (Nat.lt_of_lt_of_le hj (Nat.mul_le_mul_right _ h3))).2⟩
/-- A store into an element. -/
theorem Ow.store {g off c : Nat} (h : Ow w base size (.slice (some ⟨g, off, none⟩) n c) n xs) {j : Nat} (hj : j < n * size) (u : Value) :
    Ow (w.setCell ⟨g, off + j, none⟩ u) base size (.slice (some ⟨g, off, none⟩) n c) n (xs.set j u) := by
  refine ⟨by rw [List.length_set]; exact h.1, ?_⟩
  rcases h.2 with ⟨hv, _⟩ | ⟨g', off', cap, hv, h1, h2, h3, h4, h5, h6⟩
  · cases hv
  · cases hv
    refine .inr ⟨g, off, c, rfl, h1, by simpa [World.setCell] using h2, h3, h4, fun i x hx => ?_, fun i hi => ?_⟩
    · by_cases hij : j = i
      · subst hij
        have hjx : j < xs.length := by rw [h.1]; exact hj
        rw [List.getElem?_set_self hjx] at hx
        cases hx
        have := (h6 j (Nat.lt_of_lt_of_le hj (Nat.mul_le_mul_right _ h3))).1
        exact World.cell?_setCell_same' w _ _ this
      · rw [List.getElem?_set_ne hij] at hx
        rw [World.cell?_setCell_other w _ _ _ (by intro e; have := congrArg Addr.off e; simp at this; omega)]
        exact h5 i x hx
    · have h7 := h6 i hi
      constructor
      · by_cases hij : j = i
        · subst hij
          rw [World.cell?_setCell_same' w _ _ h7.1]; rfl
        · rw [World.cell?_setCell_other w _ _ _ (by intro e; have := congrArg Addr.off e; simp at this; omega)]
          exact h7.1
      · have := h7.2
        unfold World.frozen? at this ⊢
        simp only [World.setCell, Array.getElem?_modify] at this ⊢
        split at this <;> simp_all
theorem Ow.store_far (h : Ow w base size v n xs) {a : Addr} (ha : v.ownBlock ≠ some a.block) (u : Value) : Ow (w.setCell a u) base size v n xs :=
  h.kept (row := some a.block) ⟨rfl, rfl, rfl, by simp [World.setCell], fun k _ hne => Below.heap_setCell _ _ _ _ (by simpa using hne)⟩ (.inr ha)
end

section
variable {P : Program}
theorem run_append_ow (w : World) (t ty : TypeId)
    (base : Nat) (e : TypeId) (i : TypeInfo) (z : Value) (size bytes : Nat) (ht : P.underlying t = some (.slice e)) (hi : P.info? e = some i) (hz : i.zero = some z)
    (hsize : i.size = size) (hby : i.bytes = bytes) (hzs : z.cells.size = size) (hsz : 0 < size)
    (v : Value) (n : Nat) (xs : List Value) (B : Nat) (A : Option Addr) (m c : Nat) (news : List Value)
    (hown : Ow w base size v n xs) (hr : Rd w B size A m news) (h1 : ∀ u ∈ news, u.oneCell' = true)
    (h63 : n + m ≤ maxLen) (hbytes : (n + m) * bytes ≤ 140737488355328) (hbase : base ≤ w.heap.size) :
    ∃ v' w', (Builtin.append_ #[t, t] ty #[v, .slice A m c]).run P w = .ok v' w' ∧ Ow w' base size v' (n + m) (xs ++ news) ∧ w.grownBy w' v.ownBlock ∧ (v'.ownBlock = v.ownBlock ∨ ∀ g, v'.ownBlock = some g → w.heap.size ≤ g) := by
  have hcells : ∀ ad, A = some ad → ∀ j u, news[j]? = some u → w.cell? (ad.add j) = some u := by
    intro ad hA j u hu
    rcases Nat.eq_zero_or_pos m with h0 | h0
    · have hn : news = [] := List.eq_nil_of_length_eq_zero (by rw [hr.1, h0]; simp)
      subst hn
      simp at hu
    · obtain ⟨ad', h, _, hc⟩ := hr.at_ h0
      rw [h] at hA; cases hA
      exact hc j u hu
  rcases hown.2 with ⟨rfl, rfl⟩ | ⟨g, off, cap, rfl, hg1, hg2, hg3, hg4, hg5, hg6⟩
  · have hx : xs = [] := List.eq_nil_of_length_eq_zero (by simpa using hown.1)
    subst hx
    obtain ⟨v', w', h2, h3, h4⟩ := run_append_rd (P := P) w t ty base e i z size bytes ht hi hz hsize hby hzs hsz (.slice none 0 0) 0 [] B A m c news (World.ownsRow_nil w _ e size) hr h1 h63 hbytes hbase
    obtain ⟨v'', w'', k2, k3, k4⟩ := run_append_rd (P := P) w t ty w.heap.size e i z size bytes ht hi hz hsize hby hzs hsz (.slice none 0 0) 0 [] B A m c news (World.ownsRow_nil w _ e size) hr h1 h63 hbytes (Nat.le_refl _)
    rw [h2] at k2; cases k2
    exact ⟨v', w', h2, Ow.of_row h3, h4, .inr fun g hg => (k3.lt g hg).1⟩
  · rcases A with _ | ad
    · obtain rfl : m = 0 := by
        rcases hr.2 with h0 | ⟨_, h0, _⟩
        · exact h0
        · cases h0
      have hn : news = [] := List.eq_nil_of_length_eq_zero (by simpa using hr.1)
      subst hn
      refine ⟨_, w, ?_, by simpa using hown, World.grownBy.refl w _, .inl rfl⟩
      simp [Builtin.append_, run_underlying ht, sizeOf, typeInfo, hi, Builtin.lenOf, Builtin.firstCells, hg3, storeCells]
    · by_cases hroom : n + m ≤ cap
      · subst hsize
        have hlen : n * i.size + news.length ≤ cap * i.size := by rw [hr.1, ← Nat.add_mul]; exact Nat.mul_le_mul_right _ hroom
        have h6 : ∀ j, j < news.length → (w.cell? ⟨g, off + n * i.size + j, none⟩).isSome = true ∧ w.frozen? ⟨g, off + n * i.size + j, none⟩ = false := fun j hj => by
          have := hg6 (n * i.size + j) (by omega)
          rwa [← Nat.add_assoc] at this
        have hrun := run_append_room_cells (P := P) w t ty e i ht hi g off n cap ad m c news hr.1 (hcells ad rfl) h1 hroom (fun j hj => (h6 j hj).1) (fun j hj => (h6 j hj).2)
        refine ⟨_, _, hrun, ⟨by rw [List.length_append, hown.1, hr.1, Nat.add_mul], .inr ⟨g, off, cap, rfl, hg1, by rw [size_setCells]; exact hg2, hroom, hg4, fun j u hu => ?_, fun j hj => ?_⟩⟩, grown_setCells g _ _ w, .inl rfl⟩
        · rw [List.getElem?_append] at hu
          split at hu
          · rename_i hjx
            rw [World.cell?_setCells_out g news _ w _ (fun _ _ => .inl (by rw [hown.1] at hjx; simp; omega))]
            exact hg5 j u hu
          · rename_i hjx
            have hjl := (List.getElem?_eq_some_iff.1 hu).1
            have := World.cell?_setCells_in g news (off + n * i.size) w (fun j hj => (h6 j hj).1) (j - xs.length) hjl
            rw [← List.getElem?_eq_getElem hjl, hu, hown.1] at this
            rw [hown.1] at hjx
            rwa [show off + j = off + n * i.size + (j - n * i.size) by omega]
        · have h7 := hg6 j hj
          refine ⟨?_, by rw [World.frozen?_setCells]; exact h7.2⟩
          by_cases hin : n * i.size ≤ j ∧ j < n * i.size + news.length
          · have := World.cell?_setCells_in g news (off + n * i.size) w (fun j hj => (h6 j hj).1) (j - n * i.size) (by omega)
            rw [show off + j = off + n * i.size + (j - n * i.size) by omega, this]; rfl
          · rw [World.cell?_setCells_out g news _ w _ (fun _ _ => by simp; omega)]
            exact h7.1
      · obtain ⟨v', w', hrun, r1, r2⟩ := run_append_arg_grows (P := P) w t ty e i z size bytes ht hi hz hsize hby hzs hsz ⟨g, off, none⟩ n cap xs hown.1 (fun j u hu => by rw [Addr.add_lit]; exact hg5 j u hu) ad m c news hr.1 (hcells ad rfl) (by omega) h63 hbytes
        refine ⟨v', w', hrun, Ow.of_row (own_base r1 hbase), ⟨r2.os, r2.tape, r2.output, r2.size, fun k hk _ => r2.block k hk (by simp)⟩, .inr fun g hg => (r1.lt g hg).1⟩

/-- 'out = append(out, src...)' in a plain region. -/
theorem wpl_append_ow (w : World) {ops : Array Oper} {rest : List Oper} {o : Oper} {a : Act} {Q : Exit → Act → World → Prop}
    (hgd : o.guard = none) (s x : Operand) (t : TypeId) (hop : o.op = Op.call { callee := Callee.builtin Builtin.append, args := #[s, x], argTypes := #[t, t] })
    (base : Nat) (e : TypeId) (i : TypeInfo) (z : Value) (size bytes : Nat) (ht : P.underlying t = some (.slice e)) (hi : P.info? e = some i) (hz : i.zero = some z)
    (hsize : i.size = size) (hby : i.bytes = bytes) (hzs : z.cells.size = size) (hsz : 0 < size)
    (v : Value) (n : Nat) (xs : List Value) (hs : a.eval s = v) (B : Nat) (A : Option Addr) (m c : Nat) (news : List Value) (hx : a.eval x = .slice A m c)
    (hown : Ow w base size v n xs) (hr : Rd w B size A m news) (h1 : ∀ u ∈ news, u.oneCell' = true)
    (h63 : n + m ≤ maxLen) (hbytes : (n + m) * bytes ≤ 140737488355328) (hbase : base ≤ w.heap.size)
    (hK : ∀ v' w', Ow w' base size v' (n + m) (xs ++ news) → Below base w w' → w.grownBy w' v.ownBlock → (v'.ownBlock = v.ownBlock ∨ ∀ g, v'.ownBlock = some g → w.heap.size ≤ g) → wpList P ops Q rest (a.put o.dst v') w') :
    wpList P ops Q (o :: rest) a w := by
  refine wpList_plain hgd fun K hK' => ?_
  obtain ⟨v', w', hrun, h2, h3, h4⟩ := run_append_ow (P := P) w t o.type base e i z size bytes ht hi hz hsize hby hzs hsz v n xs B A m c news hown hr h1 h63 hbytes hbase
  unfold Oper.wp
  simp [execOp, hop, resolve, invoke, builtin, hs, hx, hrun, Result.andThen]
  exact hK' _ _ (hK v' w' h2 ((Below.refl _ _).grown h3 hbase (fun k hk => (hown.lt k hk).1)) h3 h4)
end
/-- What '[]byte(s)' lays. -/
theorem ow_of_string (w : World) (e : TypeId) (s : ByteArray) (c : Nat) (hc : s.size ≤ c) (hm : c ≤ maxLen) :
    Ow (w.drew.alloc (.cells (bytesRow s c) e ((bytesRow s c).size, (bytesRow s c).size + 1))) w.heap.size 1 (.slice (some ⟨w.heap.size, 0, none⟩) s.size c) s.size (s.data.toList.map fun b => .int .u8 b.toNat) := by
  have hsz : (bytesRow s c).size = c := by
    simp only [bytesRow, Array.size_append, Array.size_map, Array.size_replicate]
    have : s.data.size = s.size := rfl
    omega
  have hb : (w.drew.alloc (.cells (bytesRow s c) e ((bytesRow s c).size, (bytesRow s c).size + 1))).heap[w.heap.size]? = some (.cells (bytesRow s c) e ((bytesRow s c).size, (bytesRow s c).size + 1)) := heap_alloc_new w.drew _
  refine ⟨by rw [List.length_map, ← size_of, Nat.mul_one], .inr ⟨w.heap.size, 0, c, rfl, Nat.le_refl _, lt_of_block hb, hc, hm, fun j u hu => ?_, fun j hj => ?_⟩⟩
  · rw [cell_of_row _ w.heap.size _ _ _ _ hb]
    have hj : j < s.data.toList.length := by
      have := (List.getElem?_eq_some_iff.1 hu).1
      simpa using this
    have hj' : j < s.data.size := by simpa using hj
    simp only [Nat.zero_add, bytesRow]
    rw [Array.getElem?_append_left (by simpa using hj')]
    simpa using hu
  · rw [cell_of_row _ w.heap.size _ _ _ _ hb]
    refine ⟨by simp only [Nat.zero_add, Array.getElem?_eq_some_iff, Option.isSome_iff_exists]; exact ⟨_, by rw [hsz]; omega, rfl⟩, ?_⟩
    simp only [World.frozen?, hb, Nat.zero_add]
    rw [hsz]
    simp
    omega
/-- 'string(b)' of a slice that reads as bytes. -/
theorem run_string_of {P : Program} (src dst e : TypeId) (hs : P.underlying src = some (.slice e)) (he : P.underlying e = some (.int .u8)) (hd : P.underlying dst = some .string)
    (w : World) (B n c : Nat) (A : Option Addr) (l : List UInt8) (h : Rd w B 1 A n (l.map fun b => .int .u8 b.toNat)) : (convert src dst (.slice A n c)).run P w = .ok (.string ⟨l.toArray⟩) w := by
  have hl : l.length = n := by have := h.1; simpa using this
  subst hl
  rcases A with _ | a
  · have h0 : l.length = 0 := by
      rcases h.2 with h0 | ⟨_, h0, _⟩
      · exact h0
      · cases h0
    have hn : l = [] := List.eq_nil_of_length_eq_zero h0
    subst hn
    rw [run_convert_bytes_string w src dst e none _ _ hs he hd]
    simp [Conv.bytesToString]
    rfl
  · refine run_convert_bytes_back w src dst e a c l hs he hd (fun j hj => ?_)
    obtain ⟨a', e, _, hc⟩ := h.at_ hj
    cases e
    exact hc j _ (by simp [hj])
end Go.Proofs.Ytbjfhommjkcipaa
