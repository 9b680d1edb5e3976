/- field.Drop: slices.Clone, slices.IndexFunc, slices.DeleteFunc with the closure of field.named. -/
import Derived.Test.YtgdjlmpfjmakkaaDoorSets
import Derived.Deep.LoopGhost
import Derived.Lib.SliceRun
namespace Go.Proofs.YtgdjlmpfjmakkaaDoor
open Go.RowKit

set_option maxRecDepth 100000 in
theorem named_any (name : ByteArray) (w : World) :
    Calls Tryd.prog 102 #[.string name] w fun e w' => e = .returned (.func (Fn.func 117) #[] #[.pointer (some ⟨w.heap.size, 0, none⟩)]) ∧ w' = w.alloc (.cells #[.string name] 9) := by
  go_enter Tryd.func102, Tryd.ntmps102
  go_wp2
  go_ret
  exact ⟨rfl, rfl⟩

set_option maxRecDepth 100000 in
set_option maxHeartbeats 1600000 in
theorem clos_any (sx sv name : ByteArray) (g : Nat) (w : World) (hc : w.cell? ⟨g, 0, none⟩ = some (.string name)) (hx : sx.size ≤ 1000000) (hn : name.size ≤ 1000000) :
    Calls Tryd.prog 117 #[.agg #[.string sx, .string sv], .pointer (some ⟨g, 0, none⟩)] w fun e w' => e = .returned (.bool (sameL sx.data.toList name.data.toList)) ∧ Below w.heap.size w w' := by
  have hg : g < w.heap.size := World.block_lt_of_cell? w _ hc
  have hc2 := (World.cell?_alloc_lt w (.cells #[.string sx, .string sv] 38) ⟨g, 0, none⟩ hg).trans hc
  have hsm := fun w => fieldsame_any sx name w (by omega) (by omega)
  go_enter Tryd.func117, Tryd.ntmps117
  go_wp2_with fail
  refine (hsm _).mono ?_
  rintro e w2 ⟨rfl, b2⟩
  go_wp2
  go_ret
  exact ⟨rfl, ((Below.refl _ w).alloc (Nat.le_refl _) _).trans (b2.mono (by simp))⟩

set_option maxRecDepth 100000 in
set_option maxHeartbeats 1600000 in
theorem clone_any (A : Option Addr) (n c B : Nat) (fs : List (List UInt8 × List UInt8)) (w : World) (h : Rd w B 2 A n (fcells fs)) (hB : B ≤ w.heap.size) (hn : n ≤ 1000000) :
    Calls Tryd.prog 101 #[.slice A n c] w fun e w' => ∃ A' c', e = .returned (.slice A' n c') ∧
      w'.ownsRow w.heap.size 38 2 (.slice A' n c') n (fcells fs) ∧ n ≤ c' ∧ Below w.heap.size w w' := by
  obtain ⟨i0, hi0, hz0, hz1, hz2⟩ := info_parts infoFld
  have hnil : ∀ w a n c, (binOp .eql 22 (.slice a n c) (.slice none 0 0)).run Tryd.prog w = .ok (.bool a.isNone) w := fun w a n c => Lib.run_eql_slice_nil w _ _ a n c 0 0 Tryd.underlying22
  rcases A with _ | a
  · obtain rfl : n = 0 := by
      rcases h.2 with h0 | ⟨a, h0, _⟩
      · exact h0
      · cases h0
    have hfs : fcells fs = [] := List.eq_nil_of_length_eq_zero (by have := h.1; omega)
    rw [hfs]
    go_enter Tryd.func101, Tryd.ntmps101
    go_wp2
    go_ret
    exact ⟨none, 0, rfl, World.ownsRow_nil _ _ _ _, Nat.le_refl _, Below.refl _ _⟩
  · have ho := own_new w #[] 38 2 0 rfl (by unfold maxLen; omega) w.heap.size (Nat.le_refl _)
    have hr := h.alloc hB (.cells #[] 38)
    go_enter Tryd.func101, Tryd.ntmps101
    go_wp2_with (at_builtin; refine wpl_append _ rfl _ _ _ rfl w.heap.size _ i0 _ 2 32 Tryd.underlying22 hi0 hz0 hz1 hz2 rfl (by omega) _ _ _ rfl _ _ _ _ _ rfl ho hr (fcells_one fs) (by unfold maxLen; omega) (by omega) (by simp) ?_; intro v1 w3 hown1 hbel1 _)
    go_ret
    rw [Nat.zero_add] at hown1
    obtain ⟨A', c', rfl, hc', -⟩ := own_shape hown1
    exact ⟨A', c', rfl, by simpa using hown1, hc', ((Below.refl _ w).alloc (Nat.le_refl _) _).trans hbel1⟩

/-- Where the first field of a name stands: -1, if there is none. -/
def firstL (fs : List (List UInt8 × List UInt8)) (name : List UInt8) : Nat := (fs.takeWhile fun f => !sameL f.1 name).length
theorem firstL_le (fs : List (List UInt8 × List UInt8)) (name : List UInt8) : firstL fs name ≤ fs.length := (List.takeWhile_prefix _).length_le
theorem noneBefore_snoc (fs : List (List UInt8 × List UInt8)) (name : List UInt8) (k : Nat) (h : k < fs.length) (hk : ((fs.take k).any fun f => sameL f.1 name) = false) :
    (sameL fs[k].1 name = true → firstL fs name = k) ∧ (sameL fs[k].1 name = false → ((fs.take (k + 1)).any fun f => sameL f.1 name) = false) := by
  constructor
  · intro hs
    have e : fs = fs.take k ++ fs[k] :: fs.drop (k + 1) := by rw [← List.drop_eq_getElem_cons h, List.take_append_drop]
    unfold firstL
    rw [e, List.takeWhile_append_of_pos (fun f hf => by have := List.any_eq_false.1 hk f hf; simpa using this), List.takeWhile_cons_of_neg (by simp [hs]), List.append_nil, List.length_take]
    omega
  · intro hs
    rw [list_take_snoc fs k h, List.any_append, hk]; simp [hs]
theorem firstL_none (fs : List (List UInt8 × List UInt8)) (name : List UInt8) (h : (fs.any fun f => sameL f.1 name) = false) : firstL fs name = fs.length := by
  unfold firstL
  induction fs with
  | nil => rfl
  | cons f fs ih =>
    simp only [List.any_cons, Bool.or_eq_false_iff] at h
    rw [List.takeWhile_cons_of_pos (by simp [h.1]), List.length_cons, List.length_cons, ih h.2]
def idxI (a n : Nat) : Int := if a = n then -1 else a

set_option maxRecDepth 100000 in
set_option maxHeartbeats 1600000 in
theorem index_any (A : Option Addr) (n c B : Nat) (fs : List (List UInt8 × List UInt8)) (name : ByteArray) (g : Nat) (w : World) (h : Rd w B 2 A n (fcells fs)) (hB : B ≤ w.heap.size) (hn : n ≤ 1000000) (hok : fsOk fs) (hname : name.size ≤ 1000000)
    (hc : w.cell? ⟨g, 0, none⟩ = some (.string name)) :
    Calls Tryd.prog 116 #[.slice A n c, .func (Fn.func 117) #[] #[.pointer (some ⟨g, 0, none⟩)]] w fun e w' =>
      e = .returned (.int .i64 (idxI (firstL fs name.data.toList) n)) ∧ Below w.heap.size w w' := by
  have hlen := h.flen
  have HLEN := hide hlen
  have hle : n ≤ fs.length := by omega
  have hg : g < w.heap.size := World.block_lt_of_cell? w _ hc
  clear hlen
  go_enter Tryd.func116, Tryd.ntmps116
  go_wp2_with fail
  go_loopw [8] (fun i wr => ∃ k : Nat, k ≤ n ∧ i = .int .i64 k ∧ ((fs.take k).any fun f => sameL f.1 name.data.toList) = false ∧ Below w.heap.size w wr) (fun i _ => n - (intOf i).toNat)
  case atStart => exact ⟨0, Nat.zero_le _, rfl, rfl, Below.refl _ _⟩
  case round =>
    obtain ⟨k, hk, rfl, hno, hb⟩ := hrel
    have hbz := hb.size
    by_cases hlt : k < n
    · have hkl : k < fs.length := by omega
      obtain ⟨b, off, rfl, hbB, e0, e1⟩ := (h.below (hb.mono hB)).fld hlt hkl
      have hcr := (hb.cell (p := ⟨g, 0, none⟩) hg).trans hc
      obtain ⟨q1, q2⟩ := noneBefore_snoc fs name.data.toList k hkl hno
      obtain ⟨hs1, hs2⟩ := hok fs[k] (List.getElem_mem hkl)
      obtain ⟨x, hx⟩ : ∃ x, x = fs[k] := ⟨_, rfl⟩
      rw [← hx] at e0 e1 q1 q2 hs1 hs2
      have hcl := clos_any ⟨x.1.toArray⟩ ⟨x.2.toArray⟩ name g wr hcr (by rw [mk_size]; omega) hname
      rw [mk_list] at hcl
      obtain ⟨sx, hsx⟩ : ∃ sx : ByteArray, sx = ⟨x.1.toArray⟩ := ⟨_, rfl⟩
      obtain ⟨sv, hsv⟩ : ∃ sv : ByteArray, sv = ⟨x.2.toArray⟩ := ⟨_, rfl⟩
      rw [← hsx] at e0 hcl
      rw [← hsv] at e1 hcl
      have Q1 := hide q1
      have Q2 := hide q2
      clear q1 q2 hx hsx hsv hno
      rcases hcase : sameL x.1 name.data.toList with _ | _
      · rw [hcase] at hcl
        have HF := hide (Q2.out hcase)
        clear hcase
        go_wp2_with fail
        refine hcl.mono ?_
        rintro e w2 ⟨rfl, b2⟩
        go_wp2
        go_roundw
        case rel => exact ⟨k + 1, by omega, by go_num, HF.out, hb.trans (b2.mono hbz)⟩
        case measure => simp [intOf]; omega
      · rw [hcase] at hcl
        have HF := hide (Q1.out hcase)
        clear hcase
        go_wp2_with fail
        refine hcl.mono ?_
        rintro e w2 ⟨rfl, b2⟩
        go_wp2
        go_ret
        exact ⟨ret_int (by rw [HF.out, idxI, if_neg (by omega)]), hb.trans (b2.mono hbz)⟩
    · have hfin : firstL fs name.data.toList = n := by
        have hL := HLEN.out
        rw [List.take_of_length_le (by omega)] at hno
        rw [firstL_none _ _ hno]; exact hL
      have HF := hide hfin
      clear hfin hno
      go_wp2
      go_ret
      exact ⟨ret_int (by rw [HF.out, idxI, if_pos rfl]), hb⟩
end Go.Proofs.YtgdjlmpfjmakkaaDoor

/- The built-in clear on a cut of a slice of the call's own, and the front that remains. -/
namespace Go.Proofs.YtgdjlmpfjmakkaaDoor
open Go.RowKit

section
variable {P : Program}
theorem zeroCells_len (z : Array Value) (n : Nat) : (Builtin.zeroCells z n).toList.length = n * z.size := by simp [Builtin.zeroCells]
theorem zeroCells_mem (z : Array Value) (n : Nat) (h1 : ∀ u ∈ z.toList, u.oneCell' = true) : ∀ u ∈ (Builtin.zeroCells z n).toList, u.oneCell' = true := by
  intro u hu
  simp only [Builtin.zeroCells, Array.toList_map, List.mem_map] at hu
  obtain ⟨i, hi, rfl⟩ := hu
  have hz : 0 < z.size := by
    rcases Nat.eq_zero_or_pos z.size with h0 | h0
    · simp [h0] at hi
    · exact h0
  have hm : i % z.size < z.size := Nat.mod_lt _ hz
  rw [getElem!_pos z _ hm]
  exact h1 _ (by simp)
theorem run_clear_cells (w : World) (t e ty : TypeId) (z : Value) (ht : P.underlying t = some (.slice e)) (hv : ∀ w, (zeroValue e).run P w = .ok z w) (h1 : ∀ u ∈ z.cells.toList, u.oneCell' = true) (b o n c : Nat) (hn : 0 < n)
    (hc : ∀ j, j < n * z.cells.size → (w.cell? ⟨b, o + j, none⟩).isSome = true) (hf : ∀ j, j < n * z.cells.size → w.frozen? ⟨b, o + j, none⟩ = false) :
    (Builtin.clear_ #[t] ty #[.slice (some ⟨b, o, none⟩) n c]).run P w = .ok (.tuple #[]) (w.setCells b o (Builtin.zeroCells z.cells n).toList) := by
  have hst := run_storeCells_cells (P := P) b o (Builtin.zeroCells z.cells n).toList 0 w (by rw [zeroCells_len]; simpa using hc) (by rw [zeroCells_len]; simpa using hf) (zeroCells_mem _ _ h1)
  simp only [Nat.add_zero] at hst
  obtain ⟨m, rfl⟩ : ∃ m, n = m + 1 := ⟨n - 1, by omega⟩
  simp [Builtin.clear_, run_underlying ht, hv, hst]
end

/-- The front of a slice whose back was written over. -/
theorem Ow.front {w : World} {base size n g off c : Nat} {xs : List Value} (h : Ow w base size (.slice (some ⟨g, off, none⟩) n c) n xs) (i : Nat) (hi : i ≤ n) (vs : List Value) (hvs : i * size + vs.length ≤ c * size) :
    Ow (w.setCells g (off + i * size) vs) base size (.slice (some ⟨g, off, none⟩) i c) i (xs.take (i * size)) := by
  have hin : i * size ≤ n * size := Nat.mul_le_mul_right _ hi
  refine ⟨by rw [List.length_take, h.1]; omega, ?_⟩
  rcases h.2 with ⟨hv, _⟩ | ⟨g', off', cap, hv, h1, h2, h3, h4, h5, h6⟩
  · cases hv
  · cases hv
    have h7 : ∀ j, j < vs.length → (w.cell? ⟨g, off + i * size + j, none⟩).isSome = true := fun j hj => by
      have := (h6 (i * size + j) (by omega)).1
      rwa [← Nat.add_assoc] at this
    refine .inr ⟨g, off, c, rfl, h1, by rw [size_setCells]; exact h2, by omega, h4, fun j u hu => ?_, fun j hj => ?_⟩
    · rw [List.getElem?_take] at hu
      split at hu
      · rw [World.cell?_setCells_out g vs _ w _ (fun _ _ => .inl (by simp; omega))]
        exact h5 j u hu
      · cases hu
    · have h8 := h6 j hj
      refine ⟨?_, by rw [World.frozen?_setCells]; exact h8.2⟩
      by_cases hin : i * size ≤ j ∧ j < i * size + vs.length
      · have := World.cell?_setCells_in g vs (off + i * size) w h7 (j - i * size) (by omega)
        rw [show off + j = off + i * size + (j - i * size) by omega, this]; rfl
      · rw [World.cell?_setCells_out g vs _ w _ (fun _ _ => by simp; omega)]
        exact h8.1
theorem Ow.cells {w : World} {base size n g off c : Nat} {xs : List Value} (h : Ow w base size (.slice (some ⟨g, off, none⟩) n c) n xs) (j : Nat) (hj : j < c * size) : (w.cell? ⟨g, off + j, none⟩).isSome = true ∧ w.frozen? ⟨g, off + j, none⟩ = false := by
  rcases h.2 with ⟨hv, _⟩ | ⟨g', off', cap, hv, h1, h2, h3, h4, h5, h6⟩
  · cases hv
  · cases hv; exact h6 j hj
theorem zeroFld (w : World) : (zeroValue 38).run Tryd.prog w = .ok (.agg #[.string ByteArray.empty, .string ByteArray.empty]) w := by kernel_rfl
end Go.Proofs.YtgdjlmpfjmakkaaDoor

/- slices.DeleteFunc on a slice of the call's own; field.Drop. -/
namespace Go.Proofs.YtgdjlmpfjmakkaaDoor
open Go.RowKit

theorem grown_alloc {w w' : World} {g : Nat} (h : w.grownBy w' (some g)) (o : Obj) : w.grownBy (w'.alloc o) (some g) := grown_trans h (World.grownBy_alloc w' o _)
theorem grown_more {w w' w2 : World} {g : Nat} (h : w.grownBy w' (some g)) (hb : Below w'.heap.size w' w2) : w.grownBy w2 (some g) := grown_trans h (grown_of_below hb)
theorem grown_cell {w w' : World} {g : Nat} (h : w.grownBy w' (some g)) {a : Addr} (ha : a.block < w.heap.size) (hne : a.block ≠ g) : w'.cell? a = w.cell? a :=
  World.cell?_of_block (a := a) (h.block a.block ha (by simp; exact hne))
theorem fcells_split (a b : List (List UInt8 × List UInt8)) : fcells (a ++ b) = fcells a ++ fcells b := (fcells_append a b).symm

/-- The two cells of element i turned. -/
theorem fcells_set (d : List (List UInt8 × List UInt8)) (m x : List UInt8 × List UInt8) (r : List (List UInt8 × List UInt8)) :
    ((fcells (d ++ m :: r)).set (d.length * 2) (.string ⟨x.1.toArray⟩)).set (d.length * 2 + 1) (.string ⟨x.2.toArray⟩) = fcells (d ++ x :: r) := by
  rw [fcells_split, fcells_split]
  rw [← fcells_length d, List.set_append_right _ _ (by omega), List.set_append_right _ _ (by omega)]
  congr 1
  simp [fcells]

theorem firstL_cons (f : List UInt8 × List UInt8) (fs : List (List UInt8 × List UInt8)) (name : List UInt8) : firstL (f :: fs) name = if sameL f.1 name then 0 else firstL fs name + 1 := by
  unfold firstL
  by_cases h : sameL f.1 name = true
  · rw [List.takeWhile_cons_of_neg (by simp [h]), if_pos h]; rfl
  · rw [List.takeWhile_cons_of_pos (by simpa using h), if_neg h]; rfl
theorem dropL_first (name : List UInt8) : ∀ fs : List (List UInt8 × List UInt8), dropL (fs.take (firstL fs name)) name = fs.take (firstL fs name)
  | [] => rfl
  | f :: fs => by
    rw [firstL_cons]
    by_cases h : sameL f.1 name = true
    · rw [if_pos h]; rfl
    · have ih := dropL_first name fs
      rw [if_neg h, List.take_succ_cons]
      unfold dropL at ih ⊢
      rw [List.filter_cons_of_pos (by simpa using h), ih]
theorem same_first (name : List UInt8) : ∀ (fs : List (List UInt8 × List UInt8)) (x : List UInt8 × List UInt8), fs[firstL fs name]? = some x → sameL x.1 name = true
  | [], x, h => by simp at h
  | f :: fs, x, h => by
    rw [firstL_cons] at h
    by_cases hs : sameL f.1 name = true
    · rw [if_pos hs] at h; simp at h; rw [← h]; exact hs
    · rw [if_neg hs, List.getElem?_cons_succ] at h; exact same_first name fs x h

set_option maxRecDepth 100000 in
set_option maxHeartbeats 3200000 in
theorem delete_any (gb off n c base : Nat) (fs : List (List UInt8 × List UInt8)) (name : ByteArray) (g : Nat) (w : World) (h : Ow w base 2 (.slice (some ⟨gb, off, none⟩) n c) n (fcells fs)) (hn : n ≤ 1000000) (hok : fsOk fs) (hname : name.size ≤ 1000000)
    (hc : w.cell? ⟨g, 0, none⟩ = some (.string name)) (hne : g ≠ gb) :
    Calls Tryd.prog 100 #[.slice (some ⟨gb, off, none⟩) n c, .func (Fn.func 117) #[] #[.pointer (some ⟨g, 0, none⟩)]] w fun e w' =>
      ∃ c', e = .returned (.slice (some ⟨gb, off, none⟩) (dropL fs name.data.toList).length c') ∧ (dropL fs name.data.toList).length ≤ c' ∧ Ow w' base 2 (.slice (some ⟨gb, off, none⟩) (dropL fs name.data.toList).length c') (dropL fs name.data.toList).length (fcells (dropL fs name.data.toList)) ∧ w.grownBy w' (some gb) := by
  have hlen := h.rd.flen
  have HLEN := hide hlen
  have hfl := firstL_le fs name.data.toList
  have hix := index_any _ n c _ fs name g w h.rd (Nat.le_refl _) hn hok hname hc
  have hg : g < w.heap.size := World.block_lt_of_cell? w _ hc
  have hgb : gb < w.heap.size := (h.lt gb rfl).2
  have hnc : n ≤ c := by
    obtain ⟨A, c', he, h1, _⟩ := h.shape
    cases he; exact h1
  obtain ⟨p, hp⟩ : ∃ p, p = firstL fs name.data.toList := ⟨_, rfl⟩
  rw [← hp] at hix hfl
  rw [hlen] at hfl
  by_cases hpn : p = n
  · have hid : dropL fs name.data.toList = fs := by
      have hd := dropL_first name.data.toList fs
      rw [← hp, List.take_of_length_le (by omega)] at hd; exact hd
    rw [idxI, if_pos hpn] at hix
    rw [hid]
    have HI := hide hlen
    rw [hlen]
    clear hlen hid hp hfl
    go_enter Tryd.func100, Tryd.ntmps100
    go_wp2_with fail
    refine hix.mono ?_
    rintro e w2 ⟨rfl, b2⟩
    go_wp2
    go_ret
    exact ⟨c, rfl, hnc, h.below b2, grown_more (World.grownBy.refl w _) b2⟩
  · rw [idxI, if_neg hpn] at hix
    have hpl : p < n := by omega
    have hpf : p < fs.length := by omega
    have hst := same_first name.data.toList fs fs[p] (by rw [← hp]; exact List.getElem?_eq_getElem hpf)
    have hd1 : dropL (fs.take (p + 1)) name.data.toList = fs.take p := by
      have hd := dropL_first name.data.toList fs
      rw [← hp] at hd
      rw [dropL_snoc fs _ p hpf, hd, hst, if_pos rfl, List.append_nil]
    have hall : fs.take p ++ ([fs[p]] ++ fs.drop (p + 1)) = fs := by rw [List.singleton_append, ← List.drop_eq_getElem_cons hpf, List.take_append_drop]
    have HD1 := hide hd1
    have HALL := hide hall
    have hp1 : ((p : Int) == -1) = false := by simp
    have HP := hide hp
    clear hlen hst hd1 hall hp
    go_enter Tryd.func100, Tryd.ntmps100
    go_wp2_with fail
    refine hix.mono ?_
    rintro e w2 ⟨rfl, b2⟩
    have hw2 := grown_more (World.grownBy.refl w (some gb)) b2
    have ho2 := h.below b2
    clear hix
    go_wp2_with fail
    go_loopw [5, 6] (fun vi vj wr => ∃ (i k : Nat) (mid : List (List UInt8 × List UInt8)), k ≤ n ∧ i < k ∧ vi = .int .i64 i ∧ vj = .int .i64 k ∧ (dropL (fs.take k) name.data.toList).length = i ∧ mid.length = k - i ∧
      Ow wr base 2 (.slice (some ⟨gb, off, none⟩) n c) n (fcells (dropL (fs.take k) name.data.toList ++ (mid ++ fs.drop k))) ∧ w.grownBy wr (some gb)) (fun _ vj _ => n - (intOf vj).toNat)
    case atStart =>
      refine ⟨p, p + 1, [fs[p]], by omega, by omega, rfl, by go_num, by rw [HD1.out, List.length_take]; omega, by simp, by rw [HD1.out, HALL.out]; exact ho2, hw2⟩
    case round =>
      obtain ⟨i, k, mid, hk, hik, rfl, rfl, hdl, hml, ho, hgr⟩ := hrel
      by_cases hlt : k < n
      · have hkl : k < fs.length := by have := HLEN.out; omega
        have hdr : fs.drop k = fs[k] :: fs.drop (k + 1) := List.drop_eq_getElem_cons hkl
        have hsn := dropL_snoc fs name.data.toList k hkl
        obtain ⟨hs1, hs2⟩ := hok fs[k] (List.getElem_mem hkl)
        obtain ⟨x, hx⟩ : ∃ x, x = fs[k] := ⟨_, rfl⟩
        rw [← hx] at hdr hsn hs1 hs2
        rw [hdr] at ho
        have hcr := (grown_cell hgr (a := ⟨g, 0, none⟩) hg hne).trans hc
        have hgr0 : g < wr.heap.size := Nat.lt_of_lt_of_le hg hgr.size
        obtain ⟨D, hD⟩ : ∃ D, D = dropL (fs.take k) name.data.toList := ⟨_, rfl⟩
        rw [← hD] at ho hsn hdl
        obtain ⟨R, hR⟩ : ∃ R, R = fs.drop (k + 1) := ⟨_, rfl⟩
        rw [← hR] at ho hdr
        have hLk : (D ++ (mid ++ x :: R))[k]? = some x := by
          rw [List.getElem?_append_right (by omega), List.getElem?_append_right (by omega), show k - D.length - mid.length = 0 by omega]; rfl
        obtain ⟨hLl, hLx⟩ := List.getElem?_eq_some_iff.1 hLk
        obtain ⟨c0, c1⟩ := fcells_get _ k hLl
        rw [hLx] at c0 c1
        obtain ⟨_, _, he0, _, _, e0, _⟩ := ho.at_ (j := k * 2) (by omega)
        cases he0
        obtain ⟨_, _, he1, _, _, e1, _⟩ := ho.at_ (j := k * 2 + 1) (by omega)
        cases he1
        rw [c0] at e0
        rw [c1] at e1
        have e1 : wr.cell? ⟨gb, off + k * 2 + 1, none⟩ = some (.string ⟨x.2.toArray⟩) := e1
        have hcl := fun W (h : W.cell? ⟨g, 0, none⟩ = some (.string name)) => clos_any ⟨x.1.toArray⟩ ⟨x.2.toArray⟩ name g W h (by rw [mk_size]; omega) hname
        rw [mk_list] at hcl
        obtain ⟨sx, hsx⟩ : ∃ sx : ByteArray, sx = ⟨x.1.toArray⟩ := ⟨_, rfl⟩
        obtain ⟨sv, hsv⟩ : ∃ sv : ByteArray, sv = ⟨x.2.toArray⟩ := ⟨_, rfl⟩
        have HSX := hide hsx
        have HSV := hide hsv
        rw [← hsx] at e0 hcl
        rw [← hsv] at e1 hcl
        have hca := hcl (wr.alloc (.cells #[.string sx, .string sv] 38)) ((World.cell?_alloc_lt wr _ ⟨g, 0, none⟩ hgr0).trans hcr)
        have HDR := hide hdr
        have HSN := hide hsn
        have HDD := hide hD
        have HR := hide hR
        have HDL := hide hdl
        clear hdr hsn hD hR hsx hsv c0 c1 hLk hLx hx hcl hdl
        have hgbr : gb < wr.heap.size := Nat.lt_of_lt_of_le hgb hgr.size
        rcases hcase : sameL x.1 name.data.toList with _ | _
        · rw [hcase] at hca
          have HC := hide hcase
          clear hcase
          go_wp2_with fail
          refine hca.mono ?_
          rintro e w3 ⟨rfl, b3⟩
          have ho3 := (ho.alloc (.cells #[.string sx, .string sv] 38)).below b3
          have e30 := new_kept (i := 0) b3 (by simp) rfl
          have e31 := new_kept (i := 1) b3 (by simp) rfl
          have hg3 := grown_more (grown_alloc hgr (.cells #[.string sx, .string sv] 38)) b3
          obtain ⟨m0, mid', rfl⟩ : ∃ m0 mid', mid = m0 :: mid' := by
            cases mid with
            | nil => simp at hml; omega
            | cons a l => exact ⟨a, l, rfl⟩
          have hLl2 : (fcells (D ++ (m0 :: mid' ++ x :: R))).length = n * 2 := ho3.1
          obtain ⟨_, _, he0, _, _, f0, z0⟩ := ho3.at_ (j := i * 2) (by omega)
          cases he0
          obtain ⟨_, _, he1, _, _, f1, z1⟩ := ho3.at_ (j := i * 2 + 1) (by omega)
          cases he1
          have hj0 : i * 2 < (fcells (D ++ (m0 :: mid' ++ x :: R))).length := by omega
          have hj1 : i * 2 + 1 < (fcells (D ++ (m0 :: mid' ++ x :: R))).length := by omega
          rw [List.getElem?_eq_getElem hj0] at f0
          rw [List.getElem?_eq_getElem hj1] at f1
          obtain ⟨y0, hy0⟩ : ∃ y, y = (fcells (D ++ (m0 :: mid' ++ x :: R)))[i * 2] := ⟨_, rfl⟩
          obtain ⟨y1, hy1⟩ : ∃ y, y = (fcells (D ++ (m0 :: mid' ++ x :: R)))[i * 2 + 1] := ⟨_, rfl⟩
          rw [← hy0] at f0
          rw [← hy1] at f1
          have ho4 := ho3.store (j := i * 2) (by omega) (.string sx)
          obtain ⟨_, _, he1, _, _, k1, z2⟩ := ho4.at_ (j := i * 2 + 1) (by omega)
          cases he1
          rw [List.getElem?_set_ne (by omega), List.getElem?_eq_getElem hj1, ← hy1] at k1
          have ho5 := ho4.store (j := i * 2 + 1) (by omega) (.string sv)
          have hfin : ((fcells (D ++ (m0 :: mid' ++ x :: R))).set (i * 2) (.string sx)).set (i * 2 + 1) (.string sv) = fcells (D ++ x :: (mid' ++ x :: R)) := by
            have := fcells_set D m0 x (mid' ++ x :: R)
            rw [← HDL.out, HSX.out, HSV.out]; exact this
          rw [hfin] at ho5
          have hg4 := grown_set hg3 (off + i * 2) (.string sx)
          have hg5 := grown_set hg4 (off + (i * 2 + 1)) (.string sv)
          have k1 : (w3.setCell ⟨gb, off + i * 2, none⟩ (.string sx)).cell? ⟨gb, off + i * 2 + 1, none⟩ = some y1 := k1
          have z2 : (w3.setCell ⟨gb, off + i * 2, none⟩ (.string sx)).frozen? ⟨gb, off + i * 2 + 1, none⟩ = false := z2
          have hdn : dropL (fs.take (k + 1)) name.data.toList = D ++ [x] := by rw [HSN.out, HC.out, if_neg (by simp)]
          have HDN := hide hdn
          clear hca b3 e0 e1 hy0 hy1 f1 z1 hj0 hj1 hLl2 hLl hfin hdn ho4 hg4
          go_wp2
          go_roundw
          case rel =>
            refine ⟨i + 1, k + 1, mid' ++ [x], by omega, by omega, by go_num, by go_num, by rw [HDN.out, List.length_append, HDL.out]; rfl, by simp at hml ⊢; omega, ?_, hg5⟩
            rw [HDN.out, ← HR.out, List.append_assoc, List.append_assoc, List.singleton_append, List.singleton_append]; exact ho5
          case measure => simp [intOf]; omega
        · rw [hcase] at hca
          have hdn : dropL (fs.take (k + 1)) name.data.toList = D := by rw [HSN.out, hcase, if_pos rfl, List.append_nil]
          have HDN := hide hdn
          clear hcase hdn
          go_wp2_with fail
          refine hca.mono ?_
          rintro e w3 ⟨rfl, b3⟩
          have ho3 := (ho.alloc (.cells #[.string sx, .string sv] 38)).below b3
          have hg3 := grown_more (grown_alloc hgr (.cells #[.string sx, .string sv] 38)) b3
          go_wp2
          go_roundw
          case rel =>
            refine ⟨i, k + 1, mid ++ [x], by omega, by omega, rfl, by go_num, by rw [HDN.out]; exact HDL.out, by simp; omega, ?_, hg3⟩
            rw [HDN.out, ← HR.out, List.append_assoc, List.singleton_append]; exact ho3
          case measure => simp [intOf]; omega
      · obtain rfl : k = n := by omega
        have hnf : fs.length ≤ k := by have := HLEN.out; omega
        rw [List.drop_of_length_le hnf, List.take_of_length_le hnf, List.append_nil] at ho
        rw [List.take_of_length_le hnf] at hdl
        have hcc := ho.cells
        have hcl : ∀ ty, (Builtin.clear_ #[22] ty #[.slice (some ⟨gb, off + i * 2, none⟩) (k - i) (c - i)]).run Tryd.prog wr = .ok (.tuple #[]) (wr.setCells gb (off + i * 2) (Builtin.zeroCells #[.string ByteArray.empty, .string ByteArray.empty] (k - i)).toList) :=
          fun ty => run_clear_cells wr _ 38 ty _ Tryd.underlying22 zeroFld (by simp [Value.cells, Value.oneCell']) gb (off + i * 2) (k - i) (c - i) (by omega)
            (fun j hj => by rw [Nat.add_assoc]; exact (hcc (i * 2 + j) (by simp [Value.cells] at hj; omega)).1) (fun j hj => by rw [Nat.add_assoc]; exact (hcc (i * 2 + j) (by simp [Value.cells] at hj; omega)).2)
        have hof := ho.front i (by omega) (Builtin.zeroCells #[.string ByteArray.empty, .string ByteArray.empty] (k - i)).toList (by rw [zeroCells_len]; simp; omega)
        rw [fcells_split, List.take_left' (by rw [fcells_length, hdl])] at hof
        have hgs := grown_trans hgr (grown_setCells gb (Builtin.zeroCells #[.string ByteArray.empty, .string ByteArray.empty] (k - i)).toList (off + i * 2) wr)
        have HDL := hide hdl
        clear hdl hcc ho hgr
        go_wp2
        go_ret
        exact ⟨c, by rw [HDL.out]; rfl, by rw [HDL.out]; omega, by rw [HDL.out]; exact hof, hgs⟩
end Go.Proofs.YtgdjlmpfjmakkaaDoor

/- field.Drop; the plain laws of Get, Drop and Set. -/
namespace Go.Proofs.YtgdjlmpfjmakkaaDoor
open Go.RowKit

set_option maxRecDepth 100000 in
set_option maxHeartbeats 3200000 in
theorem delete_nil (name : ByteArray) (g : Nat) (w : World) (hname : name.size ≤ 1000000) (hc : w.cell? ⟨g, 0, none⟩ = some (.string name)) :
    Calls Tryd.prog 100 #[.slice none 0 0, .func (Fn.func 117) #[] #[.pointer (some ⟨g, 0, none⟩)]] w fun e w' =>
      e = .returned (.slice none 0 0) ∧ Below w.heap.size w w' := by
  have hix := index_any none 0 0 w.heap.size [] name g w Rd.nil_ (Nat.le_refl _) (by omega) (by intro f hf; cases hf) hname hc
  rw [show idxI (firstL [] name.data.toList) 0 = -1 from rfl] at hix
  go_enter Tryd.func100, Tryd.ntmps100
  go_wp2_with fail
  refine hix.mono ?_
  rintro e w2 ⟨rfl, b2⟩
  go_wp2
  go_ret
  exact ⟨rfl, b2⟩

set_option maxRecDepth 100000 in
set_option maxHeartbeats 3200000 in
theorem drop_any (A : Option Addr) (n c B : Nat) (fs : List (List UInt8 × List UInt8)) (name : ByteArray) (w : World) (h : Rd w B 2 A n (fcells fs)) (hB : B ≤ w.heap.size) (hn : n ≤ 1000000) (hok : fsOk fs) (hname : name.size ≤ 1000000) :
    Calls Tryd.prog 85 #[.slice A n c, .string name] w fun e w' => ∃ A' c', e = .returned (.slice A' (dropL fs name.data.toList).length c') ∧
      Ow w' w.heap.size 2 (.slice A' (dropL fs name.data.toList).length c') (dropL fs name.data.toList).length (fcells (dropL fs name.data.toList)) ∧ (dropL fs name.data.toList).length ≤ c' ∧ Below w.heap.size w w' := by
  have hflen := h.flen
  have hcl := clone_any A n c B fs w h hB hn
  clear h
  go_enter Tryd.func85, Tryd.ntmps85
  go_wp2_with fail
  refine hcl.mono ?_
  rintro e w1 ⟨A', c', rfl, ho, hc', b1⟩
  clear hcl
  go_wp2_with fail
  refine (named_any name w1).mono ?_
  rintro e w2 ⟨rfl, hw2⟩
  have hcell : w2.cell? ⟨w1.heap.size, 0, none⟩ = some (.string name) := by rw [hw2]; exact new_kept (n := w1.heap.size + 1) (i := 0) (Below.refl _ _) rfl rfl
  have how := (Ow.of_row ho).alloc (.cells #[.string name] 9)
  rw [← hw2] at how
  have b2 : Below w.heap.size w w2 := by rw [hw2]; exact b1.alloc b1.size _
  have hs2 : w1.heap.size < w2.heap.size := World.block_lt_of_cell? w2 _ hcell
  have hlt := (Ow.of_row ho).lt
  have b1s := b1.size
  clear hw2 ho
  obtain ⟨g, hg⟩ : ∃ g, g = w1.heap.size := ⟨_, rfl⟩
  rw [← hg] at hcell hs2 hlt b1s ⊢
  clear hg
  rcases A' with _ | ad
  · obtain ⟨rfl, rfl⟩ : n = 0 ∧ c' = 0 := by
      rcases how.2 with ⟨h0, h1⟩ | ⟨_, _, _, h0, _⟩
      · cases h0; exact ⟨rfl, rfl⟩
      · cases h0
    obtain rfl : fs = [] := List.eq_nil_of_length_eq_zero hflen
    go_wp2_with fail
    refine (delete_nil name g w2 hname hcell).mono ?_
    rintro e w3 ⟨rfl, b3⟩
    go_wp2
    go_ret
    exact ⟨none, 0, rfl, Ow.nil_, Nat.le_refl _, b2.trans (b3.mono b2.size)⟩
  · obtain ⟨gb, off, rfl⟩ : ∃ gb off, ad = ⟨gb, off, none⟩ := by
      rcases how.2 with ⟨h0, _⟩ | ⟨gb, off, _, h0, _⟩
      · cases h0
      · cases h0; exact ⟨_, _, rfl⟩
    obtain ⟨h1, h2⟩ := hlt gb rfl
    have hdel := delete_any gb off n c' w.heap.size fs name g w2 how hn hok hname hcell (by omega)
    clear how hok
    go_wp2_with fail
    refine hdel.mono ?_
    rintro e w3 ⟨c3, rfl, hc3, ho3, hg3⟩
    go_wp2
    go_ret
    exact ⟨_, c3, rfl, ho3, hc3, b2.grown hg3 b2.size (fun k hk => by cases hk; exact h1)⟩

/- The plain laws. -/
theorem sameL_refl (a : List UInt8) : sameL a a = true := by unfold sameL; simp
/-- 'Set' by recursion. -/
def setR (name value : List UInt8) : List (List UInt8 × List UInt8) → List (List UInt8 × List UInt8)
  | [] => [(name, value)]
  | f :: fs => if sameL f.1 name then (f.1, value) :: dropL fs name else f :: setR name value fs
theorem dropL_cons (f : List UInt8 × List UInt8) (fs : List (List UInt8 × List UInt8)) (name : List UInt8) : dropL (f :: fs) name = if sameL f.1 name then dropL fs name else f :: dropL fs name := by
  unfold dropL
  by_cases h : sameL f.1 name = true
  · rw [List.filter_cons_of_neg (by simp [h]), if_pos h]
  · rw [List.filter_cons_of_pos (by simpa using h), if_neg h]
theorem getL_cons (f : List UInt8 × List UInt8) (fs : List (List UInt8 × List UInt8)) (name : List UInt8) : getL (f :: fs) name = if sameL f.1 name then f.2 :: getL fs name else getL fs name := by
  unfold getL
  by_cases h : sameL f.1 name = true
  · rw [List.filter_cons_of_pos (by simpa using h), if_pos h]; rfl
  · rw [List.filter_cons_of_neg (by simpa using h), if_neg h]
theorem fold_true (name value : List UInt8) : ∀ (fs acc : List (List UInt8 × List UInt8)),
    fs.foldl (fun st f => if sameL f.1 name then (if st.2 then st else (st.1 ++ [(f.1, value)], true)) else (st.1 ++ [f], st.2)) (acc, true) = (acc ++ dropL fs name, true)
  | [], acc => by simp [dropL]
  | f :: fs, acc => by
    rw [List.foldl_cons, dropL_cons]
    by_cases h : sameL f.1 name = true
    · rw [if_pos h, if_pos h, if_pos rfl]; exact fold_true name value fs acc
    · rw [if_neg h, if_neg h, fold_true name value fs (acc ++ [f])]; simp
theorem fold_false (name value : List UInt8) : ∀ (fs acc : List (List UInt8 × List UInt8)),
    (let r := fs.foldl (fun st f => if sameL f.1 name then (if st.2 then st else (st.1 ++ [(f.1, value)], true)) else (st.1 ++ [f], st.2)) (acc, false)
     if r.2 then r.1 else r.1 ++ [(name, value)]) = acc ++ setR name value fs
  | [], acc => by simp [setR]
  | f :: fs, acc => by
    rw [List.foldl_cons]
    by_cases h : sameL f.1 name = true
    · simp [setR, h, fold_true]
    · rw [if_neg h]
      have := fold_false name value fs (acc ++ [f])
      simp only [setR, if_neg h] at this ⊢
      rw [this]; simp
theorem setL_R (fs : List (List UInt8 × List UInt8)) (name value : List UInt8) : setL fs name value = setR name value fs := by
  have := fold_false name value fs []
  rw [List.nil_append] at this
  exact this
theorem getL_drop (name : List UInt8) : ∀ fs : List (List UInt8 × List UInt8), getL (dropL fs name) name = []
  | [] => rfl
  | f :: fs => by
    rw [dropL_cons]
    by_cases h : sameL f.1 name = true
    · rw [if_pos h]; exact getL_drop name fs
    · rw [if_neg h, getL_cons, if_neg h]; exact getL_drop name fs
theorem dropL_drop (name : List UInt8) (fs : List (List UInt8 × List UInt8)) : dropL (dropL fs name) name = dropL fs name := by unfold dropL; rw [List.filter_filter]; simp
theorem getL_set (fs : List (List UInt8 × List UInt8)) (name value : List UInt8) : getL (setL fs name value) name = [value] := by
  rw [setL_R]
  induction fs with
  | nil => rw [setR, getL_cons, if_pos (sameL_refl _)]; rfl
  | cons f fs ih =>
    by_cases h : sameL f.1 name = true
    · rw [setR, if_pos h, getL_cons, if_pos h, getL_drop]
    · rw [setR, if_neg h, getL_cons, if_neg h, ih]
theorem dropL_set (fs : List (List UInt8 × List UInt8)) (name value : List UInt8) : dropL (setL fs name value) name = dropL fs name := by
  rw [setL_R]
  induction fs with
  | nil => rw [setR, dropL_cons, if_pos (sameL_refl _)]
  | cons f fs ih =>
    by_cases h : sameL f.1 name = true
    · rw [setR, if_pos h, dropL_cons, if_pos h, dropL_drop, dropL_cons, if_pos h]
    · rw [setR, if_neg h, dropL_cons, if_neg h, ih, dropL_cons, if_neg h]
theorem setL_set (fs : List (List UInt8 × List UInt8)) (name value : List UInt8) : setL (setL fs name value) name value = setL fs name value := by
  rw [setL_R, setL_R]
  induction fs with
  | nil => simp [setR, sameL_refl, dropL]
  | cons f fs ih =>
    by_cases h : sameL f.1 name = true
    · rw [setR, if_pos h, setR, if_pos h, dropL_drop]
    · rw [setR, if_neg h, setR, if_neg h, ih]
theorem setL_len (fs : List (List UInt8 × List UInt8)) (name value : List UInt8) : (setL fs name value).length ≤ fs.length + 1 := by
  rw [setL_R]
  induction fs with
  | nil => simp [setR]
  | cons f fs ih =>
    by_cases h : sameL f.1 name = true
    · rw [setR, if_pos h]; have := dropL_len fs name; simp; omega
    · rw [setR, if_neg h]; simp; omega
theorem fsOk_drop {fs : List (List UInt8 × List UInt8)} (h : fsOk fs) (name : List UInt8) : fsOk (dropL fs name) := fun f hf => h f (List.mem_filter.1 hf).1
theorem fsOk_set {fs : List (List UInt8 × List UInt8)} (h : fsOk fs) {name value : List UInt8} (hn : name.length ≤ 1000000) (hv : value.length ≤ 1000000) : fsOk (setL fs name value) := by
  rw [setL_R]
  induction fs with
  | nil => intro f hf; simp [setR] at hf; subst hf; exact ⟨hn, hv⟩
  | cons f fs ih =>
    have h1 := h f (by simp)
    have h2 : fsOk fs := fun x hx => h x (by simp [hx])
    by_cases hs : sameL f.1 name = true
    · rw [setR, if_pos hs]
      intro x hx
      rcases List.mem_cons.1 hx with rfl | hx
      · exact ⟨h1.1, hv⟩
      · exact fsOk_drop h2 _ x hx
    · rw [setR, if_neg hs]
      intro x hx
      rcases List.mem_cons.1 hx with rfl | hx
      · exact h1
      · exact ih h2 x hx
end Go.Proofs.YtgdjlmpfjmakkaaDoor
