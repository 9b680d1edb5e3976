/- Printed heads read again: where they end, and as which request or response. No program here. -/
import Derived.Test.YtfifoimnebbflaaGreatDoorFullSpec
import Derived.Test.YtfifoimnebbflaaGreatDoorEndSpec
namespace Go.Proofs.YtfifoimnebbflaaGreatDoor
open Go.RowKit

theorem occ_drop (a b sub : List UInt8) (j : Nat) : Lib.occAt (a ++ b) sub (a.length + j) = Lib.occAt b sub j := by
  unfold Lib.occAt
  rw [← List.drop_drop, List.drop_left]
theorem no_end_before : ∀ (ls : List (List UInt8)) (first more : List UInt8), (13 : UInt8) ∉ first → (∀ x ∈ ls, (13 : UInt8) ∉ x ∧ x ≠ []) →
    ∀ j, j < (first ++ ls.flatMap (fun x => crlfL ++ x)).length → Lib.occAt ((first ++ ls.flatMap (fun x => crlfL ++ x)) ++ (endL ++ more)) endL j = false
  | [], first, more, h0, _, j, hj => by
    rw [List.flatMap_nil, List.append_nil] at hj ⊢
    exact noc_at h0 hj
  | x :: ls, first, more, h0, h, j, hj => by
    have hx := h x (by simp)
    have ih := no_end_before ls x more hx.1 (fun y hy => h y (by simp [hy]))
    have e : (first ++ (x :: ls).flatMap (fun x => crlfL ++ x)) ++ (endL ++ more) = first ++ (crlfL ++ ((x ++ ls.flatMap (fun x => crlfL ++ x)) ++ (endL ++ more))) := by simp
    have el : (first ++ (x :: ls).flatMap (fun x => crlfL ++ x)).length = first.length + (2 + (x ++ ls.flatMap (fun x => crlfL ++ x)).length) := by simp [crlfL]; omega
    rw [el] at hj
    rw [e]
    generalize hy : (x ++ ls.flatMap (fun x => crlfL ++ x)) = y at ih hj ⊢
    by_cases h1 : j < first.length
    · exact noc_at h0 h1
    · obtain ⟨k, rfl⟩ : ∃ k, j = first.length + k := ⟨j - first.length, by omega⟩
      rw [occ_drop]
      obtain ⟨c, x', rfl⟩ : ∃ c x', x = c :: x' := by
        cases x with
        | nil => exact absurd rfl hx.2
        | cons c x' => exact ⟨c, x', rfl⟩
      have hc : c ≠ 13 := fun e => hx.1 (by simp [e])
      match k, hj with
      | 0, _ =>
        subst hy
        simp [Lib.occAt, crlfL, endL, List.isPrefixOf]
        intro e; exact absurd e.symm hc
      | 1, _ => simp [Lib.occAt, crlfL, endL, List.isPrefixOf]
      | k + 2, hj =>
        have := ih k (by omega)
        rw [show k + 2 = crlfL.length + k by simp [crlfL]; omega, occ_drop]
        exact this
theorem take_app (a b : List UInt8) (n : Nat) (h : a.length ≤ n) : (a ++ b).take n = a ++ b.take (n - a.length) := by
  rw [List.take_append, List.take_of_length_le h]
theorem head_end {first : List UInt8} {fs : List (List UInt8 × List UInt8)} (hf : (13 : UInt8) ∉ first) (hall : fs.all fldOk = true) (hl : (headB first fs).length ≤ 16384) (more : List UInt8) :
    endE (headB first fs ++ more) = 0 ∧ endN (headB first fs ++ more) = (headB first fs).length := by
  have hno := no_end_before (fs.map fldTx) first (more.take (16384 - (headB first fs).length)) hf (fun x hx => by
    obtain ⟨f, hfm, rfl⟩ := List.mem_map.1 hx
    exact ⟨(tx_facts (List.all_eq_true.1 hall f hfm)).1, by simp [fldTx]⟩)
  have hE := headB_end first fs
  generalize hx : (first ++ (fs.map fldTx).flatMap (fun x => crlfL ++ x)) = X at hno hE
  have hlen : (headB first fs).length = X.length + 4 := by rw [hE]; simp [endL]
  have hi : endI (headB first fs ++ more) = (X.length : Int) := by
    unfold endI
    rw [take_app _ _ _ hl]
    generalize more.take (16384 - (headB first fs).length) = m at hno ⊢
    rw [hE, List.append_assoc]
    refine Lib.index_first (by simp) ?_ hno
    unfold Lib.occAt
    rw [List.drop_left, List.isPrefixOf_iff_prefix]
    exact List.prefix_append _ _
  obtain ⟨e1, e2⟩ := end_hit hi
  exact ⟨e1, by rw [e2, hlen]⟩
end Go.Proofs.YtfifoimnebbflaaGreatDoor
