/- A printed head, read again; law 17's full heads. No program here. -/
import Derived.Test.YtfifoimnebbflaaGreatDoorPrintSpec
import Derived.Test.YtfifoimnebbflaaGreatDoorUdec
namespace Go.Proofs.YtfifoimnebbflaaGreatDoor
open Go.RowKit

theorem lines_join : ∀ (ls : List (List UInt8)) (first : List UInt8), (13 : UInt8) ∉ first → (∀ x ∈ ls, (13 : UInt8) ∉ x) → linesL (first ++ ls.flatMap (fun x => crlfL ++ x)) = first :: ls
  | [], first, h0, _ => by rw [List.flatMap_nil, List.append_nil]; exact lines_one h0
  | x :: ls, first, h0, h => by
    have ih := lines_join ls x (h x (by simp)) (fun y hy => h y (by simp [hy]))
    rw [List.flatMap_cons, show first ++ (crlfL ++ x ++ ls.flatMap fun x => crlfL ++ x) = first ++ crlfL ++ (x ++ ls.flatMap fun x => crlfL ++ x) by simp, lines_cons h0, ih]
def fldTx (f : List UInt8 × List UInt8) : List UInt8 := f.1 ++ 58 :: 32 :: f.2
theorem fldLn_tx (f : List UInt8 × List UInt8) : fldLn f = fldTx f ++ crlfL := by simp [fldLn, fldTx]
theorem linesB_join : ∀ fs : List (List UInt8 × List UInt8), crlfL ++ linesB fs = (fs.map fldTx).flatMap (fun x => crlfL ++ x) ++ crlfL
  | [] => by simp [linesB]
  | f :: fs => by
    have ih := linesB_join fs
    have e : linesB (f :: fs) = fldLn f ++ linesB fs := by simp [linesB]
    rw [e, fldLn_tx, List.map_cons, List.flatMap_cons, List.append_assoc (fldTx f), ih]
    simp
theorem headB_end (first : List UInt8) (fs : List (List UInt8 × List UInt8)) : headB first fs = (first ++ (fs.map fldTx).flatMap (fun x => crlfL ++ x)) ++ endL := by
  have := linesB_join fs
  unfold headB
  rw [List.append_assoc first, this]
  simp [endL, crlfL]
theorem trim_blank (v : List UInt8) : trimL (32 :: v) = trimL v := by
  show (((32 :: v).reverse.dropWhile blankB).reverse).dropWhile blankB = ((v.reverse.dropWhile blankB).reverse).dropWhile blankB
  rw [List.reverse_cons, List.dropWhile_append]
  rcases h : (List.dropWhile blankB v.reverse).isEmpty with _ | _
  · rw [if_neg (by simp), List.reverse_append]
    rfl
  · rw [if_pos rfl]
    rw [List.isEmpty_iff] at h
    rw [h]
    rfl
theorem tx_facts {f : List UInt8 × List UInt8} (h : fldOk f = true) : (13 : UInt8) ∉ fldTx f ∧ lineOk (fldTx f) = true ∧ lineF (fldTx f) = f := by
  unfold fldOk at h
  simp only [Bool.and_eq_true] at h
  obtain ⟨h1, h2⟩ := h
  have n1 := no13_name h1 (c := 13) (by decide)
  have n2 := no13_name h1 (c := 58) (by decide)
  have v1 := no13_value h2 (c := 13) (by decide)
  have ht : trimL (32 :: f.2) = f.2 := by
    rw [trim_blank]
    unfold goodValueL at h2
    simp only [Bool.and_eq_true, beq_iff_eq] at h2
    exact h2.2
  obtain ⟨l1, l2⟩ := line_of (b := 32 :: f.2) n2
  refine ⟨by simp [fldTx]; exact ⟨n1, v1⟩, ?_, ?_⟩
  · unfold fldTx; rw [l1, ht, h1, h2]; rfl
  · unfold fldTx; rw [l2, ht]
theorem parse_head {first : List UInt8} {fs : List (List UInt8 × List UInt8)} (hf : (13 : UInt8) ∉ first) (hall : fs.all fldOk = true) (hl : (headB first fs).length ≤ 16384) :
    parseE (headB first fs) = (if 64 < fs.length then 6 else 0) ∧ firstL (headB first fs) = first ∧ fieldsL (headB first fs) = fs := by
  have hj := lines_join (fs.map fldTx) first hf (fun x hx => by
    obtain ⟨f, hfm, rfl⟩ := List.mem_map.1 hx
    exact (tx_facts (List.all_eq_true.1 hall f hfm)).1)
  have hE := headB_end first fs
  rw [hE] at hl ⊢
  obtain ⟨p1, p2, p3⟩ := parse_of (first ++ (fs.map fldTx).flatMap (fun x => crlfL ++ x)) (by rw [List.length_append] at hl; simp only [endL, List.length_cons, List.length_nil] at hl; omega)
  rw [hj] at p1 p2 p3
  have hok : (fs.map fldTx).all lineOk = true := by
    rw [List.all_map, List.all_eq_true]
    intro f hfm
    exact (tx_facts (List.all_eq_true.1 hall f hfm)).2.1
  refine ⟨?_, p2, ?_⟩
  · rw [p1, List.tail_cons, hok, List.length_cons, List.length_map]
    by_cases h : 64 < fs.length
    · rw [if_pos (by omega), if_pos h]
    · rw [if_neg (by omega), if_neg h]; rfl
  · rw [p3, List.tail_cons, List.map_map]
    conv => rhs; rw [← List.map_id fs]
    exact List.map_congr_left fun f hfm => (tx_facts (List.all_eq_true.1 hall f hfm)).2.2

theorem udig_digits (n : Nat) : ∀ c ∈ udig n, nameB c = true := by
  have hd : ∀ k : Nat, k < 10 → nameB (48 + UInt8.ofNat k) = true := by decide
  induction n using udig.induct with
  | case1 n h => rw [udig, dif_pos h]; intro c hc; simp only [List.mem_singleton] at hc; subst hc; exact hd _ (Nat.mod_lt _ (by decide))
  | case2 n h ih =>
    rw [udig, dif_neg h]; intro c hc
    rcases List.mem_append.1 hc with h1 | h1
    · exact ih c h1
    · simp only [List.mem_singleton] at h1; subst h1; exact hd _ (Nat.mod_lt _ (by decide))
/-- The fields "a0: b" and so on. -/
def fullF (i : Nat) : List UInt8 × List UInt8 := (97 :: udig i, [98])
def fullL (k : Nat) : List (List UInt8 × List UInt8) := (List.range k).map fullF
theorem fullL_succ (k : Nat) : fullL (k + 1) = fullL k ++ [fullF k] := by simp [fullL, List.range_succ]
theorem fullL_len (k : Nat) : (fullL k).length = k := by simp [fullL]
theorem full_good (i : Nat) (hi : i < 70) : fldOk (fullF i) = true := by
  have hl := udig_length i
  have ha : (97 :: udig i).all nameB = true := by
    rw [List.all_cons, List.all_eq_true.2 (udig_digits i)]; rfl
  unfold fldOk fullF goodNameL
  simp only [ha, Bool.true_and]
  rw [decide_eq_true (by simp), decide_eq_true (by simp only [List.length_cons]; omega)]
  decide
theorem full_all (k : Nat) (hk : k ≤ 70) : (fullL k).all fldOk = true := by
  rw [List.all_eq_true]
  intro f hf
  obtain ⟨i, hi, rfl⟩ := List.mem_map.1 hf
  exact full_good i (by have := List.mem_range.1 hi; omega)
theorem full_len (k : Nat) (hk : k ≤ 70) : (linesB (fullL k)).length ≤ k * 16 := by
  induction k with
  | zero => simp [fullL, linesB]
  | succ k ih =>
    have := ih (by omega)
    have hl := udig_length k
    rw [fullL_succ, linesB_snoc, List.length_append]
    have : (fldLn (fullF k)).length = (udig k).length + 6 := by simp [fldLn, fullF, crlfL]
    omega
theorem full_head (k : Nat) (hk : k < 70) : (headB get1 (fullL k)).length ≤ 2000 := by
  have := full_len k (by omega)
  unfold headB
  simp only [List.length_append, get1, crlfL, List.length_cons, List.length_nil]
  omega
theorem full_parse (k : Nat) (hk : k < 70) : reqE (headB get1 (fullL k)) = (if 64 < k then 6 else 0) ∧ fieldsL (headB get1 (fullL k)) = fullL k := by
  have hl := full_head k hk
  obtain ⟨h1, h2, h3⟩ := parse_head get1_no13 (full_all k (by omega)) (show (headB get1 (fullL k)).length ≤ 16384 by omega)
  refine ⟨?_, h3⟩
  unfold reqE reqWords
  rw [h1, h2, fullL_len, get1_ok]
  by_cases h : 64 < k
  · rw [if_pos h]; rfl
  · rw [if_neg h]; rfl
theorem full_print (k : Nat) (hk : k < 70) : printE get1 (fullL k) = if 64 < k then 2 else 0 := by
  have hl := full_head k hk
  by_cases h : 64 < k
  · rw [if_pos h, (print_many (by rw [fullL_len]; exact h)).1]
  · rw [if_neg h, (print_ok (by rw [fullL_len]; exact h) (full_all k (by omega)) (by omega)).1]
theorem full_value (u : Nat) (hu : u < 4200) : reqE (get1 ++ crlfL ++ ([97, 58, 32] ++ List.replicate u 118) ++ endL) = if u ≤ 4096 then 0 else 2 := by
  have hb : (13 : UInt8) ∉ ([97, 58, 32] ++ List.replicate u 118 : List UInt8) := by
    intro h
    rcases List.mem_append.1 h with h | h
    · revert h; decide
    · have := List.eq_of_mem_replicate h; revert this; decide
  have ht : trimL (List.replicate u 118) = List.replicate u (118 : UInt8) := by
    have := trim_mid [] (List.replicate u 118) [] rfl rfl (by
      rcases u with _ | u
      · exact .inl rfl
      · exact .inr ⟨118, rfl, by decide⟩) (by
      rcases u with _ | u
      · exact .inl rfl
      · exact .inr ⟨118, by rw [List.getLast?_replicate]; rfl, by decide⟩)
    simpa using this
  have ha : (List.replicate u (118 : UInt8)).all valueB = true := by
    rw [List.all_eq_true]; intro c hc; rw [List.eq_of_mem_replicate hc]; decide
  rw [req_two hb (by simp; omega), show ([97, 58, 32] ++ List.replicate u 118 : List UInt8) = [97] ++ 58 :: (32 :: List.replicate u 118) by simp, (line_of (a := [97]) (by decide)).1, trim_blank, ht]
  unfold goodValueL
  rw [ha, ht, List.length_replicate]
  by_cases h : u ≤ 4096
  · rw [decide_eq_true h, if_pos h]; simp; decide
  · rw [decide_eq_false h, if_neg h]; simp
end Go.Proofs.YtfifoimnebbflaaGreatDoor
