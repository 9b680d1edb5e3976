/- field.Drop: slices.Clone, slices.IndexFunc, slices.DeleteFunc with the closure of field.named. -/
import Derived.Test.YtmijkefdnfmpiaaDoorDrops
import Derived.Deep.LoopGhost
namespace Go.Proofs.YtmijkefdnfmpiaaDoor
open Go.RowKit

set_option maxRecDepth 100000 in
theorem named_any (name : ByteArray) (w : World) :
    Calls Tryd.prog 67 #[.string name] w fun e w' => e = .returned (.func (Fn.func 81) #[] #[.pointer (some ⟨w.heap.size, 0, none⟩)]) ∧ w' = w.alloc (.cells #[.string name] 9) := by
  go_enter Tryd.func67, Tryd.ntmps67
  go_wp2
  go_ret
  exact ⟨rfl, rfl⟩

set_option maxRecDepth 100000 in
set_option maxHeartbeats 1600000 in
theorem clos_any (sx sv name : ByteArray) (g : Nat) (w : World) (hc : w.cell? ⟨g, 0, none⟩ = some (.string name)) (hx : sx.size ≤ 1000000) (hn : name.size ≤ 1000000) :
    Calls Tryd.prog 81 #[.agg #[.string sx, .string sv], .pointer (some ⟨g, 0, none⟩)] w fun e w' => e = .returned (.bool (sameL sx.data.toList name.data.toList)) ∧ Below w.heap.size w w' := by
  have hg : g < w.heap.size := World.block_lt_of_cell? w _ hc
  have hc2 := (World.cell?_alloc_lt w (.cells #[.string sx, .string sv] 37) ⟨g, 0, none⟩ hg).trans hc
  have hsm := fun w => fieldsame_any sx name w (by omega) (by omega)
  go_enter Tryd.func81, Tryd.ntmps81
  go_wp2_with fail
  refine (hsm _).mono ?_
  rintro e w2 ⟨rfl, b2⟩
  go_wp2
  go_ret
  exact ⟨rfl, ((Below.refl _ w).alloc (Nat.le_refl _) _).trans (b2.mono (by simp))⟩

set_option maxRecDepth 100000 in
set_option maxHeartbeats 1600000 in
theorem clone_any (A : Option Addr) (n c B : Nat) (fs : List (List UInt8 × List UInt8)) (w : World) (h : Rd w B 2 A n (fcells fs)) (hB : B ≤ w.heap.size) (hn : n ≤ 1000000) :
    Calls Tryd.prog 66 #[.slice A n c] w fun e w' => ∃ A' c', e = .returned (.slice A' n c') ∧
      w'.ownsRow w.heap.size 37 2 (.slice A' n c') n (fcells fs) ∧ n ≤ c' ∧ Below w.heap.size w w' := by
  obtain ⟨i0, hi0, hz0, hz1, hz2⟩ := info_parts infoFld
  have hnil : ∀ w a n c, (binOp .eql 38 (.slice a n c) (.slice none 0 0)).run Tryd.prog w = .ok (.bool a.isNone) w := fun w a n c => Lib.run_eql_slice_nil w _ _ a n c 0 0 Tryd.underlying38
  rcases A with _ | a
  · obtain rfl : n = 0 := by
      rcases h.2 with h0 | ⟨a, h0, _⟩
      · exact h0
      · cases h0
    have hfs : fcells fs = [] := List.eq_nil_of_length_eq_zero (by have := h.1; omega)
    rw [hfs]
    go_enter Tryd.func66, Tryd.ntmps66
    go_wp2
    go_ret
    exact ⟨none, 0, rfl, World.ownsRow_nil _ _ _ _, Nat.le_refl _, Below.refl _ _⟩
  · have ho := own_new w #[] 37 2 0 rfl (by unfold maxLen; omega) w.heap.size (Nat.le_refl _)
    have hr := h.alloc hB (.cells #[] 37)
    go_enter Tryd.func66, Tryd.ntmps66
    go_wp2_with (at_builtin; refine wpl_append _ rfl _ _ _ rfl w.heap.size _ i0 _ 2 32 Tryd.underlying38 hi0 hz0 hz1 hz2 rfl (by omega) _ _ _ rfl _ _ _ _ _ rfl ho hr (fcells_one fs) (by unfold maxLen; omega) (by omega) (by simp) ?_; intro v1 w3 hown1 hbel1 _)
    go_ret
    rw [Nat.zero_add] at hown1
    obtain ⟨A', c', rfl, hc', -⟩ := own_shape hown1
    exact ⟨A', c', rfl, by simpa using hown1, hc', ((Below.refl _ w).alloc (Nat.le_refl _) _).trans hbel1⟩

/-- Where the first field of a name stands: -1, if there is none. -/
def firstL (fs : List (List UInt8 × List UInt8)) (name : List UInt8) : Nat := (fs.takeWhile fun f => !sameL f.1 name).length
theorem firstL_le (fs : List (List UInt8 × List UInt8)) (name : List UInt8) : firstL fs name ≤ fs.length := (List.takeWhile_prefix _).length_le
theorem noneBefore_snoc (fs : List (List UInt8 × List UInt8)) (name : List UInt8) (k : Nat) (h : k < fs.length) (hk : ((fs.take k).any fun f => sameL f.1 name) = false) :
    (sameL fs[k].1 name = true → firstL fs name = k) ∧ (sameL fs[k].1 name = false → ((fs.take (k + 1)).any fun f => sameL f.1 name) = false) := by
  constructor
  · intro hs
    have e : fs = fs.take k ++ fs[k] :: fs.drop (k + 1) := by rw [← List.drop_eq_getElem_cons h, List.take_append_drop]
    unfold firstL
    rw [e, List.takeWhile_append_of_pos (fun f hf => by have := List.any_eq_false.1 hk f hf; simpa using this), List.takeWhile_cons_of_neg (by simp [hs]), List.append_nil, List.length_take]
    omega
  · intro hs
    rw [list_take_snoc fs k h, List.any_append, hk]; simp [hs]
theorem firstL_none (fs : List (List UInt8 × List UInt8)) (name : List UInt8) (h : (fs.any fun f => sameL f.1 name) = false) : firstL fs name = fs.length := by
  unfold firstL
  induction fs with
  | nil => rfl
  | cons f fs ih =>
    simp only [List.any_cons, Bool.or_eq_false_iff] at h
    rw [List.takeWhile_cons_of_pos (by simp [h.1]), List.length_cons, List.length_cons, ih h.2]
def idxI (a n : Nat) : Int := if a = n then -1 else a

set_option maxRecDepth 100000 in
set_option maxHeartbeats 1600000 in
theorem index_any (A : Option Addr) (n c B : Nat) (fs : List (List UInt8 × List UInt8)) (name : ByteArray) (g : Nat) (w : World) (h : Rd w B 2 A n (fcells fs)) (hB : B ≤ w.heap.size) (hn : n ≤ 1000000) (hok : fsOk fs) (hname : name.size ≤ 1000000)
    (hc : w.cell? ⟨g, 0, none⟩ = some (.string name)) :
    Calls Tryd.prog 80 #[.slice A n c, .func (Fn.func 81) #[] #[.pointer (some ⟨g, 0, none⟩)]] w fun e w' =>
      e = .returned (.int .i64 (idxI (firstL fs name.data.toList) n)) ∧ Below w.heap.size w w' := by
  have hlen := h.flen
  have HLEN := hide hlen
  have hle : n ≤ fs.length := by omega
  have hg : g < w.heap.size := World.block_lt_of_cell? w _ hc
  clear hlen
  go_enter Tryd.func80, Tryd.ntmps80
  go_wp2_with fail
  go_loopw [8] (fun i wr => ∃ k : Nat, k ≤ n ∧ i = .int .i64 k ∧ ((fs.take k).any fun f => sameL f.1 name.data.toList) = false ∧ Below w.heap.size w wr) (fun i _ => n - (intOf i).toNat)
  case atStart => exact ⟨0, Nat.zero_le _, rfl, rfl, Below.refl _ _⟩
  case round =>
    obtain ⟨k, hk, rfl, hno, hb⟩ := hrel
    have hbz := hb.size
    by_cases hlt : k < n
    · have hkl : k < fs.length := by omega
      obtain ⟨b, off, rfl, hbB, e0, e1⟩ := (h.below (hb.mono hB)).fld hlt hkl
      have hcr := (hb.cell (p := ⟨g, 0, none⟩) hg).trans hc
      obtain ⟨q1, q2⟩ := noneBefore_snoc fs name.data.toList k hkl hno
      obtain ⟨hs1, hs2⟩ := hok fs[k] (List.getElem_mem hkl)
      obtain ⟨x, hx⟩ : ∃ x, x = fs[k] := ⟨_, rfl⟩
      rw [← hx] at e0 e1 q1 q2 hs1 hs2
      have hcl := clos_any ⟨x.1.toArray⟩ ⟨x.2.toArray⟩ name g wr hcr (by rw [mk_size]; omega) hname
      rw [mk_list] at hcl
      obtain ⟨sx, hsx⟩ : ∃ sx : ByteArray, sx = ⟨x.1.toArray⟩ := ⟨_, rfl⟩
      obtain ⟨sv, hsv⟩ : ∃ sv : ByteArray, sv = ⟨x.2.toArray⟩ := ⟨_, rfl⟩
      rw [← hsx] at e0 hcl
      rw [← hsv] at e1 hcl
      have Q1 := hide q1
      have Q2 := hide q2
      clear q1 q2 hx hsx hsv hno
      rcases hcase : sameL x.1 name.data.toList with _ | _
      · rw [hcase] at hcl
        have HF := hide (Q2.out hcase)
        clear hcase
        go_wp2_with fail
        refine hcl.mono ?_
        rintro e w2 ⟨rfl, b2⟩
        go_wp2
        go_roundw
        case rel => exact ⟨k + 1, by omega, by go_num, HF.out, hb.trans (b2.mono hbz)⟩
        case measure => simp [intOf]; omega
      · rw [hcase] at hcl
        have HF := hide (Q1.out hcase)
        clear hcase
        go_wp2_with fail
        refine hcl.mono ?_
        rintro e w2 ⟨rfl, b2⟩
        go_wp2
        go_ret
        exact ⟨ret_int (by rw [HF.out, idxI, if_neg (by omega)]), hb.trans (b2.mono hbz)⟩
    · have hfin : firstL fs name.data.toList = n := by
        have hL := HLEN.out
        rw [List.take_of_length_le (by omega)] at hno
        rw [firstL_none _ _ hno]; exact hL
      have HF := hide hfin
      clear hfin hno
      go_wp2
      go_ret
      exact ⟨ret_int (by rw [HF.out, idxI, if_pos rfl]), hb⟩
end Go.Proofs.YtmijkefdnfmpiaaDoor
