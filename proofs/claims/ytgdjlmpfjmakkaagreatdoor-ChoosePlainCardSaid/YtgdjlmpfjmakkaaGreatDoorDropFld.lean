/- field.Drop: slices.Clone, slices.IndexFunc, slices.DeleteFunc with the closure of field.named. -/
import Derived.Test.YtgdjlmpfjmakkaaGreatDoorSets
import Derived.Deep.LoopGhost
import Derived.Lib.SliceRun
namespace Go.Proofs.YtgdjlmpfjmakkaaGreatDoor
open Go.RowKit

/-- Where the first field of a name stands: -1, if there is none. -/
def firstL (fs : List (List UInt8 × List UInt8)) (name : List UInt8) : Nat := (fs.takeWhile fun f => !sameL f.1 name).length
theorem firstL_le (fs : List (List UInt8 × List UInt8)) (name : List UInt8) : firstL fs name ≤ fs.length := (List.takeWhile_prefix _).length_le
theorem noneBefore_snoc (fs : List (List UInt8 × List UInt8)) (name : List UInt8) (k : Nat) (h : k < fs.length) (hk : ((fs.take k).any fun f => sameL f.1 name) = false) :
    (sameL fs[k].1 name = true → firstL fs name = k) ∧ (sameL fs[k].1 name = false → ((fs.take (k + 1)).any fun f => sameL f.1 name) = false) := by
  constructor
  · intro hs
    have e : fs = fs.take k ++ fs[k] :: fs.drop (k + 1) := by rw [← List.drop_eq_getElem_cons h, List.take_append_drop]
    unfold firstL
    rw [e, List.takeWhile_append_of_pos (fun f hf => by have := List.any_eq_false.1 hk f hf; simpa using this), List.takeWhile_cons_of_neg (by simp [hs]), List.append_nil, List.length_take]
    omega
  · intro hs
    rw [list_take_snoc fs k h, List.any_append, hk]; simp [hs]
theorem firstL_none (fs : List (List UInt8 × List UInt8)) (name : List UInt8) (h : (fs.any fun f => sameL f.1 name) = false) : firstL fs name = fs.length := by
  unfold firstL
  induction fs with
  | nil => rfl
  | cons f fs ih =>
    simp only [List.any_cons, Bool.or_eq_false_iff] at h
    rw [List.takeWhile_cons_of_pos (by simp [h.1]), List.length_cons, List.length_cons, ih h.2]
def idxI (a n : Nat) : Int := if a = n then -1 else a

end Go.Proofs.YtgdjlmpfjmakkaaGreatDoor

/- The built-in clear on a cut of a slice of the call's own, and the front that remains. -/
namespace Go.Proofs.YtgdjlmpfjmakkaaGreatDoor
open Go.RowKit

section
variable {P : Program}
theorem zeroCells_len (z : Array Value) (n : Nat) : (Builtin.zeroCells z n).toList.length = n * z.size := by simp [Builtin.zeroCells]
theorem zeroCells_mem (z : Array Value) (n : Nat) (h1 : ∀ u ∈ z.toList, u.oneCell' = true) : ∀ u ∈ (Builtin.zeroCells z n).toList, u.oneCell' = true := by
  intro u hu
  simp only [Builtin.zeroCells, Array.toList_map, List.mem_map] at hu
  obtain ⟨i, hi, rfl⟩ := hu
  have hz : 0 < z.size := by
    rcases Nat.eq_zero_or_pos z.size with h0 | h0
    · simp [h0] at hi
    · exact h0
  have hm : i % z.size < z.size := Nat.mod_lt _ hz
  rw [getElem!_pos z _ hm]
  exact h1 _ (by simp)
theorem run_clear_cells (w : World) (t e ty : TypeId) (z : Value) (ht : P.underlying t = some (.slice e)) (hv : ∀ w, (zeroValue e).run P w = .ok z w) (h1 : ∀ u ∈ z.cells.toList, u.oneCell' = true) (b o n c : Nat) (hn : 0 < n)
    (hc : ∀ j, j < n * z.cells.size → (w.cell? ⟨b, o + j, none⟩).isSome = true) (hf : ∀ j, j < n * z.cells.size → w.frozen? ⟨b, o + j, none⟩ = false) :
    (Builtin.clear_ #[t] ty #[.slice (some ⟨b, o, none⟩) n c]).run P w = .ok (.tuple #[]) (w.setCells b o (Builtin.zeroCells z.cells n).toList) := by
  have hst := run_storeCells_cells (P := P) b o (Builtin.zeroCells z.cells n).toList 0 w (by rw [zeroCells_len]; simpa using hc) (by rw [zeroCells_len]; simpa using hf) (zeroCells_mem _ _ h1)
  simp only [Nat.add_zero] at hst
  obtain ⟨m, rfl⟩ : ∃ m, n = m + 1 := ⟨n - 1, by omega⟩
  simp [Builtin.clear_, run_underlying ht, hv, hst]
end

/-- The front of a slice whose back was written over. -/
theorem Ow.front {w : World} {base size n g off c : Nat} {xs : List Value} (h : Ow w base size (.slice (some ⟨g, off, none⟩) n c) n xs) (i : Nat) (hi : i ≤ n) (vs : List Value) (hvs : i * size + vs.length ≤ c * size) :
    Ow (w.setCells g (off + i * size) vs) base size (.slice (some ⟨g, off, none⟩) i c) i (xs.take (i * size)) := by
  have hin : i * size ≤ n * size := Nat.mul_le_mul_right _ hi
  refine ⟨by rw [List.length_take, h.1]; omega, ?_⟩
  rcases h.2 with ⟨hv, _⟩ | ⟨g', off', cap, hv, h1, h2, h3, h4, h5, h6⟩
  · cases hv
  · cases hv
    have h7 : ∀ j, j < vs.length → (w.cell? ⟨g, off + i * size + j, none⟩).isSome = true := fun j hj => by
      have := (h6 (i * size + j) (by omega)).1
      rwa [← Nat.add_assoc] at this
    refine .inr ⟨g, off, c, rfl, h1, by rw [size_setCells]; exact h2, by omega, h4, fun j u hu => ?_, fun j hj => ?_⟩
    · rw [List.getElem?_take] at hu
      split at hu
      · rw [World.cell?_setCells_out g vs _ w _ (fun _ _ => .inl (by simp; omega))]
        exact h5 j u hu
      · cases hu
    · have h8 := h6 j hj
      refine ⟨?_, by rw [World.frozen?_setCells]; exact h8.2⟩
      by_cases hin : i * size ≤ j ∧ j < i * size + vs.length
      · have := World.cell?_setCells_in g vs (off + i * size) w h7 (j - i * size) (by omega)
        rw [show off + j = off + i * size + (j - i * size) by omega, this]; rfl
      · rw [World.cell?_setCells_out g vs _ w _ (fun _ _ => by simp; omega)]
        exact h8.1
theorem Ow.cells {w : World} {base size n g off c : Nat} {xs : List Value} (h : Ow w base size (.slice (some ⟨g, off, none⟩) n c) n xs) (j : Nat) (hj : j < c * size) : (w.cell? ⟨g, off + j, none⟩).isSome = true ∧ w.frozen? ⟨g, off + j, none⟩ = false := by
  rcases h.2 with ⟨hv, _⟩ | ⟨g', off', cap, hv, h1, h2, h3, h4, h5, h6⟩
  · cases hv
  · cases hv; exact h6 j hj
theorem zeroFld (w : World) : (zeroValue 49).run Tryz.prog w = .ok (.agg #[.string ByteArray.empty, .string ByteArray.empty]) w := by kernel_rfl
end Go.Proofs.YtgdjlmpfjmakkaaGreatDoor

/- slices.DeleteFunc on a slice of the call's own; field.Drop. -/
namespace Go.Proofs.YtgdjlmpfjmakkaaGreatDoor
open Go.RowKit

theorem grown_alloc {w w' : World} {g : Nat} (h : w.grownBy w' (some g)) (o : Obj) : w.grownBy (w'.alloc o) (some g) := grown_trans h (World.grownBy_alloc w' o _)
theorem grown_more {w w' w2 : World} {g : Nat} (h : w.grownBy w' (some g)) (hb : Below w'.heap.size w' w2) : w.grownBy w2 (some g) := grown_trans h (grown_of_below hb)
theorem grown_cell {w w' : World} {g : Nat} (h : w.grownBy w' (some g)) {a : Addr} (ha : a.block < w.heap.size) (hne : a.block ≠ g) : w'.cell? a = w.cell? a :=
  World.cell?_of_block (a := a) (h.block a.block ha (by simp; exact hne))
theorem fcells_split (a b : List (List UInt8 × List UInt8)) : fcells (a ++ b) = fcells a ++ fcells b := (fcells_append a b).symm

/-- The two cells of element i turned. -/
theorem fcells_set (d : List (List UInt8 × List UInt8)) (m x : List UInt8 × List UInt8) (r : List (List UInt8 × List UInt8)) :
    ((fcells (d ++ m :: r)).set (d.length * 2) (.string ⟨x.1.toArray⟩)).set (d.length * 2 + 1) (.string ⟨x.2.toArray⟩) = fcells (d ++ x :: r) := by
  rw [fcells_split, fcells_split]
  rw [← fcells_length d, List.set_append_right _ _ (by omega), List.set_append_right _ _ (by omega)]
  congr 1
  simp [fcells]

theorem firstL_cons (f : List UInt8 × List UInt8) (fs : List (List UInt8 × List UInt8)) (name : List UInt8) : firstL (f :: fs) name = if sameL f.1 name then 0 else firstL fs name + 1 := by
  unfold firstL
  by_cases h : sameL f.1 name = true
  · rw [List.takeWhile_cons_of_neg (by simp [h]), if_pos h]; rfl
  · rw [List.takeWhile_cons_of_pos (by simpa using h), if_neg h]; rfl
theorem dropL_first (name : List UInt8) : ∀ fs : List (List UInt8 × List UInt8), dropL (fs.take (firstL fs name)) name = fs.take (firstL fs name)
  | [] => rfl
  | f :: fs => by
    rw [firstL_cons]
    by_cases h : sameL f.1 name = true
    · rw [if_pos h]; rfl
    · have ih := dropL_first name fs
      rw [if_neg h, List.take_succ_cons]
      unfold dropL at ih ⊢
      rw [List.filter_cons_of_pos (by simpa using h), ih]
theorem same_first (name : List UInt8) : ∀ (fs : List (List UInt8 × List UInt8)) (x : List UInt8 × List UInt8), fs[firstL fs name]? = some x → sameL x.1 name = true
  | [], x, h => by simp at h
  | f :: fs, x, h => by
    rw [firstL_cons] at h
    by_cases hs : sameL f.1 name = true
    · rw [if_pos hs] at h; simp at h; rw [← h]; exact hs
    · rw [if_neg hs, List.getElem?_cons_succ] at h; exact same_first name fs x h

end Go.Proofs.YtgdjlmpfjmakkaaGreatDoor

/- field.Drop; the plain laws of Get, Drop and Set. -/
namespace Go.Proofs.YtgdjlmpfjmakkaaGreatDoor
open Go.RowKit

/- The plain laws. -/
theorem sameL_refl (a : List UInt8) : sameL a a = true := by unfold sameL; simp
/-- 'Set' by recursion. -/
def setR (name value : List UInt8) : List (List UInt8 × List UInt8) → List (List UInt8 × List UInt8)
  | [] => [(name, value)]
  | f :: fs => if sameL f.1 name then (f.1, value) :: dropL fs name else f :: setR name value fs
theorem dropL_cons (f : List UInt8 × List UInt8) (fs : List (List UInt8 × List UInt8)) (name : List UInt8) : dropL (f :: fs) name = if sameL f.1 name then dropL fs name else f :: dropL fs name := by
  unfold dropL
  by_cases h : sameL f.1 name = true
  · rw [List.filter_cons_of_neg (by simp [h]), if_pos h]
  · rw [List.filter_cons_of_pos (by simpa using h), if_neg h]
theorem getL_cons (f : List UInt8 × List UInt8) (fs : List (List UInt8 × List UInt8)) (name : List UInt8) : getL (f :: fs) name = if sameL f.1 name then f.2 :: getL fs name else getL fs name := by
  unfold getL
  by_cases h : sameL f.1 name = true
  · rw [List.filter_cons_of_pos (by simpa using h), if_pos h]; rfl
  · rw [List.filter_cons_of_neg (by simpa using h), if_neg h]
theorem fold_true (name value : List UInt8) : ∀ (fs acc : List (List UInt8 × List UInt8)),
    fs.foldl (fun st f => if sameL f.1 name then (if st.2 then st else (st.1 ++ [(f.1, value)], true)) else (st.1 ++ [f], st.2)) (acc, true) = (acc ++ dropL fs name, true)
  | [], acc => by simp [dropL]
  | f :: fs, acc => by
    rw [List.foldl_cons, dropL_cons]
    by_cases h : sameL f.1 name = true
    · rw [if_pos h, if_pos h, if_pos rfl]; exact fold_true name value fs acc
    · rw [if_neg h, if_neg h, fold_true name value fs (acc ++ [f])]; simp
theorem fold_false (name value : List UInt8) : ∀ (fs acc : List (List UInt8 × List UInt8)),
    (let r := fs.foldl (fun st f => if sameL f.1 name then (if st.2 then st else (st.1 ++ [(f.1, value)], true)) else (st.1 ++ [f], st.2)) (acc, false)
     if r.2 then r.1 else r.1 ++ [(name, value)]) = acc ++ setR name value fs
  | [], acc => by simp [setR]
  | f :: fs, acc => by
    rw [List.foldl_cons]
    by_cases h : sameL f.1 name = true
    · simp [setR, h, fold_true]
    · rw [if_neg h]
      have := fold_false name value fs (acc ++ [f])
      simp only [setR, if_neg h] at this ⊢
      rw [this]; simp
theorem setL_R (fs : List (List UInt8 × List UInt8)) (name value : List UInt8) : setL fs name value = setR name value fs := by
  have := fold_false name value fs []
  rw [List.nil_append] at this
  exact this
theorem getL_drop (name : List UInt8) : ∀ fs : List (List UInt8 × List UInt8), getL (dropL fs name) name = []
  | [] => rfl
  | f :: fs => by
    rw [dropL_cons]
    by_cases h : sameL f.1 name = true
    · rw [if_pos h]; exact getL_drop name fs
    · rw [if_neg h, getL_cons, if_neg h]; exact getL_drop name fs
theorem dropL_drop (name : List UInt8) (fs : List (List UInt8 × List UInt8)) : dropL (dropL fs name) name = dropL fs name := by unfold dropL; rw [List.filter_filter]; simp
theorem getL_set (fs : List (List UInt8 × List UInt8)) (name value : List UInt8) : getL (setL fs name value) name = [value] := by
  rw [setL_R]
  induction fs with
  | nil => rw [setR, getL_cons, if_pos (sameL_refl _)]; rfl
  | cons f fs ih =>
    by_cases h : sameL f.1 name = true
    · rw [setR, if_pos h, getL_cons, if_pos h, getL_drop]
    · rw [setR, if_neg h, getL_cons, if_neg h, ih]
theorem dropL_set (fs : List (List UInt8 × List UInt8)) (name value : List UInt8) : dropL (setL fs name value) name = dropL fs name := by
  rw [setL_R]
  induction fs with
  | nil => rw [setR, dropL_cons, if_pos (sameL_refl _)]
  | cons f fs ih =>
    by_cases h : sameL f.1 name = true
    · rw [setR, if_pos h, dropL_cons, if_pos h, dropL_drop, dropL_cons, if_pos h]
    · rw [setR, if_neg h, dropL_cons, if_neg h, ih, dropL_cons, if_neg h]
theorem setL_set (fs : List (List UInt8 × List UInt8)) (name value : List UInt8) : setL (setL fs name value) name value = setL fs name value := by
  rw [setL_R, setL_R]
  induction fs with
  | nil => simp [setR, sameL_refl, dropL]
  | cons f fs ih =>
    by_cases h : sameL f.1 name = true
    · rw [setR, if_pos h, setR, if_pos h, dropL_drop]
    · rw [setR, if_neg h, setR, if_neg h, ih]
theorem setL_len (fs : List (List UInt8 × List UInt8)) (name value : List UInt8) : (setL fs name value).length ≤ fs.length + 1 := by
  rw [setL_R]
  induction fs with
  | nil => simp [setR]
  | cons f fs ih =>
    by_cases h : sameL f.1 name = true
    · rw [setR, if_pos h]; have := dropL_len fs name; simp; omega
    · rw [setR, if_neg h]; simp; omega
theorem fsOk_drop {fs : List (List UInt8 × List UInt8)} (h : fsOk fs) (name : List UInt8) : fsOk (dropL fs name) := fun f hf => h f (List.mem_filter.1 hf).1
theorem fsOk_set {fs : List (List UInt8 × List UInt8)} (h : fsOk fs) {name value : List UInt8} (hn : name.length ≤ 1000000) (hv : value.length ≤ 1000000) : fsOk (setL fs name value) := by
  rw [setL_R]
  induction fs with
  | nil => intro f hf; simp [setR] at hf; subst hf; exact ⟨hn, hv⟩
  | cons f fs ih =>
    have h1 := h f (by simp)
    have h2 : fsOk fs := fun x hx => h x (by simp [hx])
    by_cases hs : sameL f.1 name = true
    · rw [setR, if_pos hs]
      intro x hx
      rcases List.mem_cons.1 hx with rfl | hx
      · exact ⟨h1.1, hv⟩
      · exact fsOk_drop h2 _ x hx
    · rw [setR, if_neg hs]
      intro x hx
      rcases List.mem_cons.1 hx with rfl | hx
      · exact h1
      · exact ih h2 x hx
end Go.Proofs.YtgdjlmpfjmakkaaGreatDoor
