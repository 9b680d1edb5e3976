/- slices.DeleteFunc on a slice of the call's own; field.Drop. -/
import Derived.Test.YtmijkefdnfmpiaaDoorDropF
import Derived.Test.YtmijkefdnfmpiaaDoorClear
namespace Go.Proofs.YtmijkefdnfmpiaaDoor
open Go.RowKit

theorem grown_alloc {w w' : World} {g : Nat} (h : w.grownBy w' (some g)) (o : Obj) : w.grownBy (w'.alloc o) (some g) := grown_trans h (World.grownBy_alloc w' o _)
theorem grown_more {w w' w2 : World} {g : Nat} (h : w.grownBy w' (some g)) (hb : Below w'.heap.size w' w2) : w.grownBy w2 (some g) := grown_trans h (grown_of_below hb)
theorem grown_cell {w w' : World} {g : Nat} (h : w.grownBy w' (some g)) {a : Addr} (ha : a.block < w.heap.size) (hne : a.block ≠ g) : w'.cell? a = w.cell? a :=
  World.cell?_of_block (a := a) (h.block a.block ha (by simp; exact hne))
theorem fcells_split (a b : List (List UInt8 × List UInt8)) : fcells (a ++ b) = fcells a ++ fcells b := (fcells_append a b).symm

/-- The two cells of element i turned. -/
theorem fcells_set (d : List (List UInt8 × List UInt8)) (m x : List UInt8 × List UInt8) (r : List (List UInt8 × List UInt8)) :
    ((fcells (d ++ m :: r)).set (d.length * 2) (.string ⟨x.1.toArray⟩)).set (d.length * 2 + 1) (.string ⟨x.2.toArray⟩) = fcells (d ++ x :: r) := by
  rw [fcells_split, fcells_split]
  rw [← fcells_length d, List.set_append_right _ _ (by omega), List.set_append_right _ _ (by omega)]
  congr 1
  simp [fcells]

theorem firstL_cons (f : List UInt8 × List UInt8) (fs : List (List UInt8 × List UInt8)) (name : List UInt8) : firstL (f :: fs) name = if sameL f.1 name then 0 else firstL fs name + 1 := by
  unfold firstL
  by_cases h : sameL f.1 name = true
  · rw [List.takeWhile_cons_of_neg (by simp [h]), if_pos h]; rfl
  · rw [List.takeWhile_cons_of_pos (by simpa using h), if_neg h]; rfl
theorem dropL_first (name : List UInt8) : ∀ fs : List (List UInt8 × List UInt8), dropL (fs.take (firstL fs name)) name = fs.take (firstL fs name)
  | [] => rfl
  | f :: fs => by
    rw [firstL_cons]
    by_cases h : sameL f.1 name = true
    · rw [if_pos h]; rfl
    · have ih := dropL_first name fs
      rw [if_neg h, List.take_succ_cons]
      unfold dropL at ih ⊢
      rw [List.filter_cons_of_pos (by simpa using h), ih]
theorem same_first (name : List UInt8) : ∀ (fs : List (List UInt8 × List UInt8)) (x : List UInt8 × List UInt8), fs[firstL fs name]? = some x → sameL x.1 name = true
  | [], x, h => by simp at h
  | f :: fs, x, h => by
    rw [firstL_cons] at h
    by_cases hs : sameL f.1 name = true
    · rw [if_pos hs] at h; simp at h; rw [← h]; exact hs
    · rw [if_neg hs, List.getElem?_cons_succ] at h; exact same_first name fs x h

set_option maxRecDepth 100000 in
set_option maxHeartbeats 3200000 in
theorem delete_any (gb off n c base : Nat) (fs : List (List UInt8 × List UInt8)) (name : ByteArray) (g : Nat) (w : World) (h : Ow w base 2 (.slice (some ⟨gb, off, none⟩) n c) n (fcells fs)) (hn : n ≤ 1000000) (hok : fsOk fs) (hname : name.size ≤ 1000000)
    (hc : w.cell? ⟨g, 0, none⟩ = some (.string name)) (hne : g ≠ gb) :
    Calls Tryd.prog 65 #[.slice (some ⟨gb, off, none⟩) n c, .func (Fn.func 81) #[] #[.pointer (some ⟨g, 0, none⟩)]] w fun e w' =>
      ∃ c', e = .returned (.slice (some ⟨gb, off, none⟩) (dropL fs name.data.toList).length c') ∧ (dropL fs name.data.toList).length ≤ c' ∧ Ow w' base 2 (.slice (some ⟨gb, off, none⟩) (dropL fs name.data.toList).length c') (dropL fs name.data.toList).length (fcells (dropL fs name.data.toList)) ∧ w.grownBy w' (some gb) := by
  have hlen := h.rd.flen
  have HLEN := hide hlen
  have hfl := firstL_le fs name.data.toList
  have hix := index_any _ n c _ fs name g w h.rd (Nat.le_refl _) hn hok hname hc
  have hg : g < w.heap.size := World.block_lt_of_cell? w _ hc
  have hgb : gb < w.heap.size := (h.lt gb rfl).2
  have hnc : n ≤ c := by
    obtain ⟨A, c', he, h1, _⟩ := h.shape
    cases he; exact h1
  obtain ⟨p, hp⟩ : ∃ p, p = firstL fs name.data.toList := ⟨_, rfl⟩
  rw [← hp] at hix hfl
  rw [hlen] at hfl
  by_cases hpn : p = n
  · have hid : dropL fs name.data.toList = fs := by
      have hd := dropL_first name.data.toList fs
      rw [← hp, List.take_of_length_le (by omega)] at hd; exact hd
    rw [idxI, if_pos hpn] at hix
    rw [hid]
    have HI := hide hlen
    rw [hlen]
    clear hlen hid hp hfl
    go_enter Tryd.func65, Tryd.ntmps65
    go_wp2_with fail
    refine hix.mono ?_
    rintro e w2 ⟨rfl, b2⟩
    go_wp2
    go_ret
    exact ⟨c, rfl, hnc, h.below b2, grown_more (World.grownBy.refl w _) b2⟩
  · rw [idxI, if_neg hpn] at hix
    have hpl : p < n := by omega
    have hpf : p < fs.length := by omega
    have hst := same_first name.data.toList fs fs[p] (by rw [← hp]; exact List.getElem?_eq_getElem hpf)
    have hd1 : dropL (fs.take (p + 1)) name.data.toList = fs.take p := by
      have hd := dropL_first name.data.toList fs
      rw [← hp] at hd
      rw [dropL_snoc fs _ p hpf, hd, hst, if_pos rfl, List.append_nil]
    have hall : fs.take p ++ ([fs[p]] ++ fs.drop (p + 1)) = fs := by rw [List.singleton_append, ← List.drop_eq_getElem_cons hpf, List.take_append_drop]
    have HD1 := hide hd1
    have HALL := hide hall
    have hp1 : ((p : Int) == -1) = false := by simp
    have HP := hide hp
    clear hlen hst hd1 hall hp
    go_enter Tryd.func65, Tryd.ntmps65
    go_wp2_with fail
    refine hix.mono ?_
    rintro e w2 ⟨rfl, b2⟩
    have hw2 := grown_more (World.grownBy.refl w (some gb)) b2
    have ho2 := h.below b2
    clear hix
    go_wp2_with fail
    go_loopw [5, 6] (fun vi vj wr => ∃ (i k : Nat) (mid : List (List UInt8 × List UInt8)), k ≤ n ∧ i < k ∧ vi = .int .i64 i ∧ vj = .int .i64 k ∧ (dropL (fs.take k) name.data.toList).length = i ∧ mid.length = k - i ∧
      Ow wr base 2 (.slice (some ⟨gb, off, none⟩) n c) n (fcells (dropL (fs.take k) name.data.toList ++ (mid ++ fs.drop k))) ∧ w.grownBy wr (some gb)) (fun _ vj _ => n - (intOf vj).toNat)
    case atStart =>
      refine ⟨p, p + 1, [fs[p]], by omega, by omega, rfl, by go_num, by rw [HD1.out, List.length_take]; omega, by simp, by rw [HD1.out, HALL.out]; exact ho2, hw2⟩
    case round =>
      obtain ⟨i, k, mid, hk, hik, rfl, rfl, hdl, hml, ho, hgr⟩ := hrel
      by_cases hlt : k < n
      · have hkl : k < fs.length := by have := HLEN.out; omega
        have hdr : fs.drop k = fs[k] :: fs.drop (k + 1) := List.drop_eq_getElem_cons hkl
        have hsn := dropL_snoc fs name.data.toList k hkl
        obtain ⟨hs1, hs2⟩ := hok fs[k] (List.getElem_mem hkl)
        obtain ⟨x, hx⟩ : ∃ x, x = fs[k] := ⟨_, rfl⟩
        rw [← hx] at hdr hsn hs1 hs2
        rw [hdr] at ho
        have hcr := (grown_cell hgr (a := ⟨g, 0, none⟩) hg hne).trans hc
        have hgr0 : g < wr.heap.size := Nat.lt_of_lt_of_le hg hgr.size
        obtain ⟨D, hD⟩ : ∃ D, D = dropL (fs.take k) name.data.toList := ⟨_, rfl⟩
        rw [← hD] at ho hsn hdl
        obtain ⟨R, hR⟩ : ∃ R, R = fs.drop (k + 1) := ⟨_, rfl⟩
        rw [← hR] at ho hdr
        have hLk : (D ++ (mid ++ x :: R))[k]? = some x := by
          rw [List.getElem?_append_right (by omega), List.getElem?_append_right (by omega), show k - D.length - mid.length = 0 by omega]; rfl
        obtain ⟨hLl, hLx⟩ := List.getElem?_eq_some_iff.1 hLk
        obtain ⟨c0, c1⟩ := fcells_get _ k hLl
        rw [hLx] at c0 c1
        obtain ⟨_, _, he0, _, _, e0, _⟩ := ho.at_ (j := k * 2) (by omega)
        cases he0
        obtain ⟨_, _, he1, _, _, e1, _⟩ := ho.at_ (j := k * 2 + 1) (by omega)
        cases he1
        rw [c0] at e0
        rw [c1] at e1
        have e1 : wr.cell? ⟨gb, off + k * 2 + 1, none⟩ = some (.string ⟨x.2.toArray⟩) := e1
        have hcl := fun W (h : W.cell? ⟨g, 0, none⟩ = some (.string name)) => clos_any ⟨x.1.toArray⟩ ⟨x.2.toArray⟩ name g W h (by rw [mk_size]; omega) hname
        rw [mk_list] at hcl
        obtain ⟨sx, hsx⟩ : ∃ sx : ByteArray, sx = ⟨x.1.toArray⟩ := ⟨_, rfl⟩
        obtain ⟨sv, hsv⟩ : ∃ sv : ByteArray, sv = ⟨x.2.toArray⟩ := ⟨_, rfl⟩
        have HSX := hide hsx
        have HSV := hide hsv
        rw [← hsx] at e0 hcl
        rw [← hsv] at e1 hcl
        have hca := hcl (wr.alloc (.cells #[.string sx, .string sv] 37)) ((World.cell?_alloc_lt wr _ ⟨g, 0, none⟩ hgr0).trans hcr)
        have HDR := hide hdr
        have HSN := hide hsn
        have HDD := hide hD
        have HR := hide hR
        have HDL := hide hdl
        clear hdr hsn hD hR hsx hsv c0 c1 hLk hLx hx hcl hdl
        have hgbr : gb < wr.heap.size := Nat.lt_of_lt_of_le hgb hgr.size
        rcases hcase : sameL x.1 name.data.toList with _ | _
        · rw [hcase] at hca
          have HC := hide hcase
          clear hcase
          go_wp2_with fail
          refine hca.mono ?_
          rintro e w3 ⟨rfl, b3⟩
          have ho3 := (ho.alloc (.cells #[.string sx, .string sv] 37)).below b3
          have e30 := new_kept (i := 0) b3 (by simp) rfl
          have e31 := new_kept (i := 1) b3 (by simp) rfl
          have hg3 := grown_more (grown_alloc hgr (.cells #[.string sx, .string sv] 37)) b3
          obtain ⟨m0, mid', rfl⟩ : ∃ m0 mid', mid = m0 :: mid' := by
            cases mid with
            | nil => simp at hml; omega
            | cons a l => exact ⟨a, l, rfl⟩
          have hLl2 : (fcells (D ++ (m0 :: mid' ++ x :: R))).length = n * 2 := ho3.1
          obtain ⟨_, _, he0, _, _, f0, z0⟩ := ho3.at_ (j := i * 2) (by omega)
          cases he0
          obtain ⟨_, _, he1, _, _, f1, z1⟩ := ho3.at_ (j := i * 2 + 1) (by omega)
          cases he1
          have hj0 : i * 2 < (fcells (D ++ (m0 :: mid' ++ x :: R))).length := by omega
          have hj1 : i * 2 + 1 < (fcells (D ++ (m0 :: mid' ++ x :: R))).length := by omega
          rw [List.getElem?_eq_getElem hj0] at f0
          rw [List.getElem?_eq_getElem hj1] at f1
          obtain ⟨y0, hy0⟩ : ∃ y, y = (fcells (D ++ (m0 :: mid' ++ x :: R)))[i * 2] := ⟨_, rfl⟩
          obtain ⟨y1, hy1⟩ : ∃ y, y = (fcells (D ++ (m0 :: mid' ++ x :: R)))[i * 2 + 1] := ⟨_, rfl⟩
          rw [← hy0] at f0
          rw [← hy1] at f1
          have ho4 := ho3.store (j := i * 2) (by omega) (.string sx)
          obtain ⟨_, _, he1, _, _, k1, z2⟩ := ho4.at_ (j := i * 2 + 1) (by omega)
          cases he1
          rw [List.getElem?_set_ne (by omega), List.getElem?_eq_getElem hj1, ← hy1] at k1
          have ho5 := ho4.store (j := i * 2 + 1) (by omega) (.string sv)
          have hfin : ((fcells (D ++ (m0 :: mid' ++ x :: R))).set (i * 2) (.string sx)).set (i * 2 + 1) (.string sv) = fcells (D ++ x :: (mid' ++ x :: R)) := by
            have := fcells_set D m0 x (mid' ++ x :: R)
            rw [← HDL.out, HSX.out, HSV.out]; exact this
          rw [hfin] at ho5
          have hg4 := grown_set hg3 (off + i * 2) (.string sx)
          have hg5 := grown_set hg4 (off + (i * 2 + 1)) (.string sv)
          have k1 : (w3.setCell ⟨gb, off + i * 2, none⟩ (.string sx)).cell? ⟨gb, off + i * 2 + 1, none⟩ = some y1 := k1
          have z2 : (w3.setCell ⟨gb, off + i * 2, none⟩ (.string sx)).frozen? ⟨gb, off + i * 2 + 1, none⟩ = false := z2
          have hdn : dropL (fs.take (k + 1)) name.data.toList = D ++ [x] := by rw [HSN.out, HC.out, if_neg (by simp)]
          have HDN := hide hdn
          clear hca b3 e0 e1 hy0 hy1 f1 z1 hj0 hj1 hLl2 hLl hfin hdn ho4 hg4
          go_wp2
          go_roundw
          case rel =>
            refine ⟨i + 1, k + 1, mid' ++ [x], by omega, by omega, by go_num, by go_num, by rw [HDN.out, List.length_append, HDL.out]; rfl, by simp at hml ⊢; omega, ?_, hg5⟩
            rw [HDN.out, ← HR.out, List.append_assoc, List.append_assoc, List.singleton_append, List.singleton_append]; exact ho5
          case measure => simp [intOf]; omega
        · rw [hcase] at hca
          have hdn : dropL (fs.take (k + 1)) name.data.toList = D := by rw [HSN.out, hcase, if_pos rfl, List.append_nil]
          have HDN := hide hdn
          clear hcase hdn
          go_wp2_with fail
          refine hca.mono ?_
          rintro e w3 ⟨rfl, b3⟩
          have ho3 := (ho.alloc (.cells #[.string sx, .string sv] 37)).below b3
          have hg3 := grown_more (grown_alloc hgr (.cells #[.string sx, .string sv] 37)) b3
          go_wp2
          go_roundw
          case rel =>
            refine ⟨i, k + 1, mid ++ [x], by omega, by omega, rfl, by go_num, by rw [HDN.out]; exact HDL.out, by simp; omega, ?_, hg3⟩
            rw [HDN.out, ← HR.out, List.append_assoc, List.singleton_append]; exact ho3
          case measure => simp [intOf]; omega
      · obtain rfl : k = n := by omega
        have hnf : fs.length ≤ k := by have := HLEN.out; omega
        rw [List.drop_of_length_le hnf, List.take_of_length_le hnf, List.append_nil] at ho
        rw [List.take_of_length_le hnf] at hdl
        have hcc := ho.cells
        have hcl : ∀ ty, (Builtin.clear_ #[38] ty #[.slice (some ⟨gb, off + i * 2, none⟩) (k - i) (c - i)]).run Tryd.prog wr = .ok (.tuple #[]) (wr.setCells gb (off + i * 2) (Builtin.zeroCells #[.string ByteArray.empty, .string ByteArray.empty] (k - i)).toList) :=
          fun ty => run_clear_cells wr _ 37 ty _ Tryd.underlying38 zeroFld (by simp [Value.cells, Value.oneCell']) gb (off + i * 2) (k - i) (c - i) (by omega)
            (fun j hj => by rw [Nat.add_assoc]; exact (hcc (i * 2 + j) (by simp [Value.cells] at hj; omega)).1) (fun j hj => by rw [Nat.add_assoc]; exact (hcc (i * 2 + j) (by simp [Value.cells] at hj; omega)).2)
        have hof := ho.front i (by omega) (Builtin.zeroCells #[.string ByteArray.empty, .string ByteArray.empty] (k - i)).toList (by rw [zeroCells_len]; simp; omega)
        rw [fcells_split, List.take_left' (by rw [fcells_length, hdl])] at hof
        have hgs := grown_trans hgr (grown_setCells gb (Builtin.zeroCells #[.string ByteArray.empty, .string ByteArray.empty] (k - i)).toList (off + i * 2) wr)
        have HDL := hide hdl
        clear hdl hcc ho hgr
        go_wp2
        go_ret
        exact ⟨c, by rw [HDL.out]; rfl, by rw [HDL.out]; omega, by rw [HDL.out]; exact hof, hgs⟩
end Go.Proofs.YtmijkefdnfmpiaaDoor
