/- field.Drop; the plain laws of Get, Drop and Set. -/
import Derived.Test.YtmijkefdnfmpiaaDoorDelete
import Derived.Test.YtmijkefdnfmpiaaDoorSets
namespace Go.Proofs.YtmijkefdnfmpiaaDoor
open Go.RowKit

set_option maxRecDepth 100000 in
set_option maxHeartbeats 3200000 in
theorem delete_nil (name : ByteArray) (g : Nat) (w : World) (hname : name.size ≤ 1000000) (hc : w.cell? ⟨g, 0, none⟩ = some (.string name)) :
    Calls Tryd.prog 65 #[.slice none 0 0, .func (Fn.func 81) #[] #[.pointer (some ⟨g, 0, none⟩)]] w fun e w' =>
      e = .returned (.slice none 0 0) ∧ Below w.heap.size w w' := by
  have hix := index_any none 0 0 w.heap.size [] name g w Rd.nil_ (Nat.le_refl _) (by omega) (by intro f hf; cases hf) hname hc
  rw [show idxI (firstL [] name.data.toList) 0 = -1 from rfl] at hix
  go_enter Tryd.func65, Tryd.ntmps65
  go_wp2_with fail
  refine hix.mono ?_
  rintro e w2 ⟨rfl, b2⟩
  go_wp2
  go_ret
  exact ⟨rfl, b2⟩

set_option maxRecDepth 100000 in
set_option maxHeartbeats 3200000 in
theorem drop_any (A : Option Addr) (n c B : Nat) (fs : List (List UInt8 × List UInt8)) (name : ByteArray) (w : World) (h : Rd w B 2 A n (fcells fs)) (hB : B ≤ w.heap.size) (hn : n ≤ 1000000) (hok : fsOk fs) (hname : name.size ≤ 1000000) :
    Calls Tryd.prog 41 #[.slice A n c, .string name] w fun e w' => ∃ A' c', e = .returned (.slice A' (dropL fs name.data.toList).length c') ∧
      Ow w' w.heap.size 2 (.slice A' (dropL fs name.data.toList).length c') (dropL fs name.data.toList).length (fcells (dropL fs name.data.toList)) ∧ (dropL fs name.data.toList).length ≤ c' ∧ Below w.heap.size w w' := by
  have hflen := h.flen
  have hcl := clone_any A n c B fs w h hB hn
  clear h
  go_enter Tryd.func41, Tryd.ntmps41
  go_wp2_with fail
  refine hcl.mono ?_
  rintro e w1 ⟨A', c', rfl, ho, hc', b1⟩
  clear hcl
  go_wp2_with fail
  refine (named_any name w1).mono ?_
  rintro e w2 ⟨rfl, hw2⟩
  have hcell : w2.cell? ⟨w1.heap.size, 0, none⟩ = some (.string name) := by rw [hw2]; exact new_kept (n := w1.heap.size + 1) (i := 0) (Below.refl _ _) rfl rfl
  have how := (Ow.of_row ho).alloc (.cells #[.string name] 9)
  rw [← hw2] at how
  have b2 : Below w.heap.size w w2 := by rw [hw2]; exact b1.alloc b1.size _
  have hs2 : w1.heap.size < w2.heap.size := World.block_lt_of_cell? w2 _ hcell
  have hlt := (Ow.of_row ho).lt
  have b1s := b1.size
  clear hw2 ho
  obtain ⟨g, hg⟩ : ∃ g, g = w1.heap.size := ⟨_, rfl⟩
  rw [← hg] at hcell hs2 hlt b1s ⊢
  clear hg
  rcases A' with _ | ad
  · obtain ⟨rfl, rfl⟩ : n = 0 ∧ c' = 0 := by
      rcases how.2 with ⟨h0, h1⟩ | ⟨_, _, _, h0, _⟩
      · cases h0; exact ⟨rfl, rfl⟩
      · cases h0
    obtain rfl : fs = [] := List.eq_nil_of_length_eq_zero hflen
    go_wp2_with fail
    refine (delete_nil name g w2 hname hcell).mono ?_
    rintro e w3 ⟨rfl, b3⟩
    go_wp2
    go_ret
    exact ⟨none, 0, rfl, Ow.nil_, Nat.le_refl _, b2.trans (b3.mono b2.size)⟩
  · obtain ⟨gb, off, rfl⟩ : ∃ gb off, ad = ⟨gb, off, none⟩ := by
      rcases how.2 with ⟨h0, _⟩ | ⟨gb, off, _, h0, _⟩
      · cases h0
      · cases h0; exact ⟨_, _, rfl⟩
    obtain ⟨h1, h2⟩ := hlt gb rfl
    have hdel := delete_any gb off n c' w.heap.size fs name g w2 how hn hok hname hcell (by omega)
    clear how hok
    go_wp2_with fail
    refine hdel.mono ?_
    rintro e w3 ⟨c3, rfl, hc3, ho3, hg3⟩
    go_wp2
    go_ret
    exact ⟨_, c3, rfl, ho3, hc3, b2.grown hg3 b2.size (fun k hk => by cases hk; exact h1)⟩

/- The plain laws. -/
theorem sameL_refl (a : List UInt8) : sameL a a = true := by unfold sameL; simp
/-- 'Set' by recursion. -/
def setR (name value : List UInt8) : List (List UInt8 × List UInt8) → List (List UInt8 × List UInt8)
  | [] => [(name, value)]
  | f :: fs => if sameL f.1 name then (f.1, value) :: dropL fs name else f :: setR name value fs
theorem dropL_cons (f : List UInt8 × List UInt8) (fs : List (List UInt8 × List UInt8)) (name : List UInt8) : dropL (f :: fs) name = if sameL f.1 name then dropL fs name else f :: dropL fs name := by
  unfold dropL
  by_cases h : sameL f.1 name = true
  · rw [List.filter_cons_of_neg (by simp [h]), if_pos h]
  · rw [List.filter_cons_of_pos (by simpa using h), if_neg h]
theorem getL_cons (f : List UInt8 × List UInt8) (fs : List (List UInt8 × List UInt8)) (name : List UInt8) : getL (f :: fs) name = if sameL f.1 name then f.2 :: getL fs name else getL fs name := by
  unfold getL
  by_cases h : sameL f.1 name = true
  · rw [List.filter_cons_of_pos (by simpa using h), if_pos h]; rfl
  · rw [List.filter_cons_of_neg (by simpa using h), if_neg h]
theorem fold_true (name value : List UInt8) : ∀ (fs acc : List (List UInt8 × List UInt8)),
    fs.foldl (fun st f => if sameL f.1 name then (if st.2 then st else (st.1 ++ [(f.1, value)], true)) else (st.1 ++ [f], st.2)) (acc, true) = (acc ++ dropL fs name, true)
  | [], acc => by simp [dropL]
  | f :: fs, acc => by
    rw [List.foldl_cons, dropL_cons]
    by_cases h : sameL f.1 name = true
    · rw [if_pos h, if_pos h, if_pos rfl]; exact fold_true name value fs acc
    · rw [if_neg h, if_neg h, fold_true name value fs (acc ++ [f])]; simp
theorem fold_false (name value : List UInt8) : ∀ (fs acc : List (List UInt8 × List UInt8)),
    (let r := fs.foldl (fun st f => if sameL f.1 name then (if st.2 then st else (st.1 ++ [(f.1, value)], true)) else (st.1 ++ [f], st.2)) (acc, false)
     if r.2 then r.1 else r.1 ++ [(name, value)]) = acc ++ setR name value fs
  | [], acc => by simp [setR]
  | f :: fs, acc => by
    rw [List.foldl_cons]
    by_cases h : sameL f.1 name = true
    · simp [setR, h, fold_true]
    · rw [if_neg h]
      have := fold_false name value fs (acc ++ [f])
      simp only [setR, if_neg h] at this ⊢
      rw [this]; simp
theorem setL_R (fs : List (List UInt8 × List UInt8)) (name value : List UInt8) : setL fs name value = setR name value fs := by
  have := fold_false name value fs []
  rw [List.nil_append] at this
  exact this
theorem getL_drop (name : List UInt8) : ∀ fs : List (List UInt8 × List UInt8), getL (dropL fs name) name = []
  | [] => rfl
  | f :: fs => by
    rw [dropL_cons]
    by_cases h : sameL f.1 name = true
    · rw [if_pos h]; exact getL_drop name fs
    · rw [if_neg h, getL_cons, if_neg h]; exact getL_drop name fs
theorem dropL_drop (name : List UInt8) (fs : List (List UInt8 × List UInt8)) : dropL (dropL fs name) name = dropL fs name := by unfold dropL; rw [List.filter_filter]; simp
theorem getL_set (fs : List (List UInt8 × List UInt8)) (name value : List UInt8) : getL (setL fs name value) name = [value] := by
  rw [setL_R]
  induction fs with
  | nil => rw [setR, getL_cons, if_pos (sameL_refl _)]; rfl
  | cons f fs ih =>
    by_cases h : sameL f.1 name = true
    · rw [setR, if_pos h, getL_cons, if_pos h, getL_drop]
    · rw [setR, if_neg h, getL_cons, if_neg h, ih]
theorem dropL_set (fs : List (List UInt8 × List UInt8)) (name value : List UInt8) : dropL (setL fs name value) name = dropL fs name := by
  rw [setL_R]
  induction fs with
  | nil => rw [setR, dropL_cons, if_pos (sameL_refl _)]
  | cons f fs ih =>
    by_cases h : sameL f.1 name = true
    · rw [setR, if_pos h, dropL_cons, if_pos h, dropL_drop, dropL_cons, if_pos h]
    · rw [setR, if_neg h, dropL_cons, if_neg h, ih, dropL_cons, if_neg h]
theorem setL_set (fs : List (List UInt8 × List UInt8)) (name value : List UInt8) : setL (setL fs name value) name value = setL fs name value := by
  rw [setL_R, setL_R]
  induction fs with
  | nil => simp [setR, sameL_refl, dropL]
  | cons f fs ih =>
    by_cases h : sameL f.1 name = true
    · rw [setR, if_pos h, setR, if_pos h, dropL_drop]
    · rw [setR, if_neg h, setR, if_neg h, ih]
theorem setL_len (fs : List (List UInt8 × List UInt8)) (name value : List UInt8) : (setL fs name value).length ≤ fs.length + 1 := by
  rw [setL_R]
  induction fs with
  | nil => simp [setR]
  | cons f fs ih =>
    by_cases h : sameL f.1 name = true
    · rw [setR, if_pos h]; have := dropL_len fs name; simp; omega
    · rw [setR, if_neg h]; simp; omega
theorem fsOk_drop {fs : List (List UInt8 × List UInt8)} (h : fsOk fs) (name : List UInt8) : fsOk (dropL fs name) := fun f hf => h f (List.mem_filter.1 hf).1
theorem fsOk_set {fs : List (List UInt8 × List UInt8)} (h : fsOk fs) {name value : List UInt8} (hn : name.length ≤ 1000000) (hv : value.length ≤ 1000000) : fsOk (setL fs name value) := by
  rw [setL_R]
  induction fs with
  | nil => intro f hf; simp [setR] at hf; subst hf; exact ⟨hn, hv⟩
  | cons f fs ih =>
    have h1 := h f (by simp)
    have h2 : fsOk fs := fun x hx => h x (by simp [hx])
    by_cases hs : sameL f.1 name = true
    · rw [setR, if_pos hs]
      intro x hx
      rcases List.mem_cons.1 hx with rfl | hx
      · exact ⟨h1.1, hv⟩
      · exact fsOk_drop h2 _ x hx
    · rw [setR, if_neg hs]
      intro x hx
      rcases List.mem_cons.1 hx with rfl | hx
      · exact h1
      · exact ih h2 x hx
end Go.Proofs.YtmijkefdnfmpiaaDoor
