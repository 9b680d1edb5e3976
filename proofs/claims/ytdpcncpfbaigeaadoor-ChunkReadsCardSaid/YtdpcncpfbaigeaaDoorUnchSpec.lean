/- What the reference's Unchunk does, step by step, beside the decoder run to its end. No program here. -/
import Derived.Test.YtdpcncpfbaigeaaDoorRefLine
import Derived.Test.YtdpcncpfbaigeaaDoorRunText
namespace Go.Proofs.YtdpcncpfbaigeaaDoor
open Go.RowKit
set_option linter.unusedVariables false
set_option linter.unusedSimpArgs false

/-- How it ends, in the reference's words. -/
def endOf (F : DS) : Nat := if F.er = 8 then 0 else if F.er = 0 then 5 else F.er
/-- From place o on the decoder in state st, with so many trailers, goes on as from the start behind 'out'. -/
def Goes (bs out : List UInt8) (o st left fl : Nat) : Prop := ∀ O F, Run1 ⟨bs.drop o, st, left, fl, 0⟩ O F → Run1 ⟨bs, 0, 0, 0, 0⟩ (out ++ O) F
/-- What is told at the end. -/
def Told (bs out : List UInt8) (used end_ : Nat) : Prop := ∃ F, Run1 ⟨bs, 0, 0, 0, 0⟩ out F ∧ end_ = endOf F ∧ (F.er = 8 → used ≤ bs.length ∧ F.inp = bs.drop used)
theorem Goes.told {bs out : List UInt8} {o st left fl : Nat} {F : DS} (h : Goes bs out o st left fl) (hr : Run1 ⟨bs.drop o, st, left, fl, 0⟩ [] F) (h8 : F.er ≠ 8) {e : Nat} (he : e = endOf F) : Told bs out 0 e := by
  have := h [] F hr
  rw [List.append_nil] at this
  exact ⟨F, this, he, fun h => absurd h h8⟩
theorem run_stuck {S : DS} (h0 : S.er = 0) (h5 : stepE S (1 : Nat) = 5) : Run1 S [] S := .stop (.inr h5)
theorem run_err {S : DS} {e : Nat} (h0 : S.er = 0) (he : stepE S (1 : Nat) = e) (e0 : e ≠ 0) (e5 : e ≠ 5) (hO : stepO S (1 : Nat) = []) : ∃ F, Run1 S [] F ∧ F.er = e := by
  have hT := stepT_err (S := S) (X := 1) (by rw [he]; exact e0) (by rw [he]; exact e5)
  have := Run1.step (S := S) (by rintro (h | h); exact h h0; exact e5 (he.symm.trans h)) (by rw [hT]; exact .stop (.inl (by show stepE S (1 : Nat) ≠ 0; rw [he]; exact e0)))
  rw [hO] at this
  exact ⟨_, this, he⟩
/-- A line that is none, at the size or in the trailer. -/
theorem Goes.line_bad {bs out : List UInt8} {o st fl : Nat} (h : Goes bs out o st 0 fl) (hst : st = 0 ∨ st = 3) {e : Nat} (he : lineE (bs.drop o) = e) (h0 : e ≠ 0) : Told bs out 0 e := by
  have hE : stepE ⟨bs.drop o, st, 0, fl, 0⟩ (1 : Nat) = e ∧ stepO ⟨bs.drop o, st, 0, fl, 0⟩ (1 : Nat) = [] := by
    rcases hst with rfl | rfl
    · obtain ⟨q1, q2, q3⟩ := step_be (S := ⟨bs.drop o, 0, 0, fl, 0⟩) rfl (1 : Nat)
      refine ⟨?_, q3⟩
      rw [q1]; unfold beginE; rw [he, if_neg h0]
    · obtain ⟨q1, q2, q3⟩ := step_tr (S := ⟨bs.drop o, 3, 0, fl, 0⟩) rfl (1 : Nat)
      refine ⟨?_, q3⟩
      rw [q1]; unfold trailE; rw [he, if_neg h0]
  have h8 : e ≠ 8 := by rw [← he]; unfold lineE; split <;> (try split) <;> decide
  by_cases h5 : e = 5
  · subst h5
    exact h.told (run_stuck rfl hE.1) (by show (0 : Nat) ≠ 8; decide) rfl
  · obtain ⟨F, hF, hFe⟩ := run_err (S := ⟨bs.drop o, st, 0, fl, 0⟩) rfl hE.1 h0 h5 hE.2
    exact h.told hF (by rw [hFe]; exact h8) (by unfold endOf; rw [hFe, if_neg h8, if_neg h0])
/-- A size's line that is wrong. -/
theorem Goes.size_bad {bs out : List UInt8} {o : Nat} (h : Goes bs out o 0 0 0) (he : lineE (bs.drop o) = 0) (hs : sizeOk (lineT (bs.drop o)) = false) : Told bs out 0 2 := by
  obtain ⟨q1, q2, q3⟩ := step_be (S := ⟨bs.drop o, 0, 0, 0, 0⟩) rfl (1 : Nat)
  have hE : stepE ⟨bs.drop o, 0, 0, 0, 0⟩ (1 : Nat) = 2 := by rw [q1]; unfold beginE; rw [he, if_pos rfl, hs]; rfl
  obtain ⟨F, hF, hFe⟩ := run_err (S := ⟨bs.drop o, 0, 0, 0, 0⟩) rfl hE (by decide) (by decide) q3
  exact h.told hF (by rw [hFe]; decide) (by unfold endOf; rw [hFe]; rfl)
theorem lineR_at {l : List UInt8} (o : Nat) {bs : List UInt8} (hl : l = bs.drop o) (he : lineE l = 0) : lineR l = bs.drop (lineP o l) ∧ lineP o l ≤ bs.length ∧ o < lineP o l := by
  have hi : 0 ≤ lineIx l := by
    unfold lineE at he
    by_cases hi : 0 ≤ lineIx l
    · exact hi
    · rw [if_neg hi] at he; split at he <;> cases he
  have hr := lineIx_room hi
  have hlen : l.length = bs.length - o := by rw [hl, List.length_drop]
  unfold lineR lineP
  rw [he, if_pos hi, if_pos rfl]
  refine ⟨?_, by omega, by omega⟩
  rw [hl, List.drop_drop]
  congr 1
theorem Goes.size_good {bs out : List UInt8} {o : Nat} (h : Goes bs out o 0 0 0) (he : lineE (bs.drop o) = 0) (hs : sizeOk (lineT (bs.drop o)) = true) : Goes bs out (lineP o (bs.drop o)) (if sizeN (lineT (bs.drop o)) = 0 then 3 else 1) (sizeN (lineT (bs.drop o))) 0 := by
  intro O F hr
  refine h O F ?_
  obtain ⟨q1, q2, q3⟩ := step_be (S := ⟨bs.drop o, 0, 0, 0, 0⟩) rfl (1 : Nat)
  have hE : stepE ⟨bs.drop o, 0, 0, 0, 0⟩ (1 : Nat) = 0 := by rw [q1]; unfold beginE; rw [he, if_pos rfl, hs]; rfl
  have hS : stepS ⟨bs.drop o, 0, 0, 0, 0⟩ (1 : Nat) = ⟨bs.drop (lineP o (bs.drop o)), if sizeN (lineT (bs.drop o)) = 0 then 3 else 1, sizeN (lineT (bs.drop o)), 0, 0⟩ := by
    rw [q2]; unfold beginS; rw [he, if_pos rfl, hs, (lineR_at o rfl he).1]; rfl
  have := Run1.step (S := ⟨bs.drop o, 0, 0, 0, 0⟩) (by rintro (h | h); exact h rfl; rw [hE] at h; cases h) (by rw [stepT_go hE, hS]; exact hr)
  rw [q3] at this
  exact this
/-- Too few bytes of a chunk. -/
theorem Goes.data_short {bs out : List UInt8} {o N : Nat} (h : Goes bs out o 1 N 0) (hN : (bs.drop o).length < N) : Told bs (out ++ bs.drop o) 0 5 := by
  have hst : ∀ M, 0 < M → Run1 ⟨[], 1, M, 0, 0⟩ [] ⟨[], 1, M, 0, 0⟩ := fun M hM => run_stuck rfl (by
    unfold stepE bytesE; rw [if_neg (by simp), if_pos rfl, if_pos (by unfold bytesK; simp; omega)])
  by_cases h0 : bs.drop o = []
  · rw [h0, List.append_nil]
    have h1 := h [] _ (by rw [h0]; exact hst N (by omega))
    rw [List.append_nil] at h1
    exact ⟨_, h1, rfl, fun e => by cases e⟩
  · have hl : 1 ≤ (bs.drop o).length := by
      cases hh : bs.drop o with
      | nil => exact absurd hh h0
      | cons a l => simp
    have := run_bytes (bs.drop o).length (S := ⟨bs.drop o, 1, N, 0, 0⟩) (O := []) (F := ⟨[], 1, N - (bs.drop o).length, 0, 0⟩) rfl rfl hl (by show _ ≤ N; omega) (Nat.le_refl _) (by
      show Run1 ⟨(bs.drop o).drop (bs.drop o).length, if N = (bs.drop o).length then 2 else 1, N - (bs.drop o).length, 0, 0⟩ _ _
      rw [if_neg (by omega), List.drop_length]
      exact hst _ (by omega))
    rw [show (DS.mk (bs.drop o) 1 N 0 0).inp.take (bs.drop o).length = bs.drop o from List.take_length, List.append_nil] at this
    exact ⟨_, h _ _ this, rfl, fun e => by cases e⟩
theorem Goes.data_good {bs out : List UInt8} {o N : Nat} (h : Goes bs out o 1 N 0) (h0 : N ≠ 0) (hN : N ≤ (bs.drop o).length) : Goes bs (out ++ (bs.drop o).take N) (o + N) 2 0 0 := by
  intro O F hr
  rw [List.append_assoc]
  refine h _ F ?_
  have := run_bytes N (S := ⟨bs.drop o, 1, N, 0, 0⟩) (O := O) (F := F) rfl rfl (by omega) (Nat.le_refl _) hN (by
    show Run1 ⟨(bs.drop o).drop N, if N = N then 2 else 1, N - N, 0, 0⟩ O F
    rw [if_pos rfl, Nat.sub_self, List.drop_drop]; exact hr)
  exact this
theorem over_run (l : List UInt8) (h13 : ∀ x, l[0]? = some x → x = 13) (h10 : ∀ x, l[1]? = some x → x = 10) : overE ⟨l, 2, 0, 0, 0⟩ = if l.length < 2 then 5 else 0 := by
  unfold overE
  match l, h13, h10 with
  | [], _, _ => rfl
  | [a], h, _ => obtain rfl := h a rfl; rfl
  | a :: b :: l, h, h' =>
    obtain rfl := h a rfl
    obtain rfl := h' b rfl
    rw [if_pos (show Lib.hasPrefix [13, 10] _ = true from rfl)]
theorem over_bad (l : List UInt8) (h : (∃ x, l[0]? = some x ∧ x ≠ 13) ∨ (∃ x, l[1]? = some x ∧ x ≠ 10)) : overE ⟨l, 2, 0, 0, 0⟩ = 2 := by
  unfold overE
  rw [if_neg]
  match l, h with
  | [], h => rcases h with ⟨x, h, -⟩ | ⟨x, h, -⟩ <;> simp at h
  | [a], h =>
    rcases h with ⟨x, h, hx⟩ | ⟨x, h, -⟩
    · simp at h; subst h
      intro e
      unfold Lib.hasPrefix at e
      simp [List.isPrefixOf] at e
      exact hx e
    · simp at h
  | a :: b :: l, h =>
    intro e
    unfold Lib.hasPrefix at e
    simp [List.isPrefixOf] at e
    rcases h with ⟨x, h, hx⟩ | ⟨x, h, hx⟩
    · simp at h; subst h; exact hx e.1
    · simp at h; subst h; exact hx e.2
theorem step_ov (l : List UInt8) : stepE ⟨l, 2, 0, 0, 0⟩ (1 : Nat) = overE ⟨l, 2, 0, 0, 0⟩ ∧ stepO ⟨l, 2, 0, 0, 0⟩ (1 : Nat) = [] ∧ stepS ⟨l, 2, 0, 0, 0⟩ (1 : Nat) = overS ⟨l, 2, 0, 0, 0⟩ := by
  unfold stepE stepO stepS
  exact ⟨by rw [if_neg (by simp), if_neg (by simp), if_pos rfl], by rw [if_neg (by simp)], by rw [if_neg (by simp), if_neg (by simp), if_pos rfl]⟩
theorem Goes.over_wrong {bs out : List UInt8} {o : Nat} (h : Goes bs out o 2 0 0) (hb : (∃ x, (bs.drop o)[0]? = some x ∧ x ≠ 13) ∨ (∃ x, (bs.drop o)[1]? = some x ∧ x ≠ 10)) : Told bs out 0 2 := by
  obtain ⟨q1, q2, -⟩ := step_ov (bs.drop o)
  obtain ⟨F, hF, hFe⟩ := run_err (S := ⟨bs.drop o, 2, 0, 0, 0⟩) rfl (q1.trans (over_bad _ hb)) (by decide) (by decide) q2
  exact h.told hF (by rw [hFe]; decide) (by unfold endOf; rw [hFe]; rfl)
theorem Goes.over_short {bs out : List UInt8} {o : Nat} (h : Goes bs out o 2 0 0) (h13 : ∀ x, (bs.drop o)[0]? = some x → x = 13) (h10 : ∀ x, (bs.drop o)[1]? = some x → x = 10) (hl : (bs.drop o).length < 2) : Told bs out 0 5 := by
  obtain ⟨q1, q2, -⟩ := step_ov (bs.drop o)
  have := over_run _ h13 h10
  rw [if_pos hl] at this
  exact h.told (run_stuck rfl (q1.trans this)) (by show (0 : Nat) ≠ 8; decide) rfl
theorem Goes.over_good {bs out : List UInt8} {o : Nat} (h : Goes bs out o 2 0 0) (h13 : ∀ x, (bs.drop o)[0]? = some x → x = 13) (h10 : ∀ x, (bs.drop o)[1]? = some x → x = 10) (hl : 2 ≤ (bs.drop o).length) : Goes bs out (o + 2) 0 0 0 := by
  intro O F hr
  refine h O F ?_
  match hm : bs.drop o, h13, h10, hl with
  | a :: b :: l, h13, h10, _ =>
    obtain rfl := h13 a rfl
    obtain rfl := h10 b rfl
    refine run_over ?_
    have : bs.drop (o + 2) = l := by rw [← List.drop_drop, hm]; rfl
    rw [this] at hr
    exact hr
/-- The trailer. -/
theorem Goes.end_ {bs out : List UInt8} {o fl : Nat} (h : Goes bs out o 3 0 fl) (he : lineE (bs.drop o) = 0) (ht : lineT (bs.drop o) = []) : Told bs out (lineP o (bs.drop o)) 0 := by
  obtain ⟨q1, q2, q3⟩ := step_tr (S := ⟨bs.drop o, 3, 0, fl, 0⟩) rfl (1 : Nat)
  obtain ⟨r1, r2, -⟩ := lineR_at o rfl he
  have hE : stepE ⟨bs.drop o, 3, 0, fl, 0⟩ (1 : Nat) = 8 := by rw [q1]; unfold trailE; rw [he, ht, if_pos rfl, if_pos rfl]
  have hT := stepT_err (S := ⟨bs.drop o, 3, 0, fl, 0⟩) (X := 1) (by rw [hE]; decide) (by rw [hE]; decide)
  have hS : stepS ⟨bs.drop o, 3, 0, fl, 0⟩ (1 : Nat) = ⟨bs.drop (lineP o (bs.drop o)), 3, 0, fl, 0⟩ := by
    rw [q2]; unfold trailS; rw [he, ht, if_pos rfl, if_pos rfl, r1]
  rw [hE, hS] at hT
  have := Run1.step (S := ⟨bs.drop o, 3, 0, fl, 0⟩) (by rintro (h | h); exact h rfl; rw [hE] at h; cases h) (by rw [hT]; exact .stop (.inl (show (8 : Nat) ≠ 0 by decide)))
  rw [q3] at this
  have := h _ _ this
  rw [List.append_nil, List.append_nil] at this
  exact ⟨_, this, rfl, fun _ => ⟨r2, rfl⟩⟩
theorem Goes.fld_bad {bs out : List UInt8} {o fl : Nat} (h : Goes bs out o 3 0 fl) (he : lineE (bs.drop o) = 0) (ht : lineT (bs.drop o) ≠ []) {e : Nat} (hs : (lineOk (lineT (bs.drop o)) = false ∧ e = 2) ∨ (lineOk (lineT (bs.drop o)) = true ∧ 64 ≤ fl ∧ e = 6)) : Told bs out 0 e := by
  obtain ⟨q1, q2, q3⟩ := step_tr (S := ⟨bs.drop o, 3, 0, fl, 0⟩) rfl (1 : Nat)
  have hE : stepE ⟨bs.drop o, 3, 0, fl, 0⟩ (1 : Nat) = e := by
    rw [q1]; unfold trailE; rw [he, if_pos rfl, if_neg ht]
    rcases hs with ⟨h1, rfl⟩ | ⟨h1, h2, rfl⟩
    · rw [h1]; rfl
    · rw [if_pos h1, if_pos (by show 64 < fl + 1; omega)]
  have e0 : e ≠ 0 ∧ e ≠ 5 ∧ e ≠ 8 := by rcases hs with ⟨-, rfl⟩ | ⟨-, -, rfl⟩ <;> decide
  obtain ⟨F, hF, hFe⟩ := run_err (S := ⟨bs.drop o, 3, 0, fl, 0⟩) rfl hE e0.1 e0.2.1 q3
  exact h.told hF (by rw [hFe]; exact e0.2.2) (by unfold endOf; rw [hFe, if_neg e0.2.2, if_neg e0.1])
theorem Goes.fld_good {bs out : List UInt8} {o fl : Nat} (h : Goes bs out o 3 0 fl) (he : lineE (bs.drop o) = 0) (ht : lineT (bs.drop o) ≠ []) (hs : lineOk (lineT (bs.drop o)) = true) (hf : ¬ 64 ≤ fl) : Goes bs out (lineP o (bs.drop o)) 3 0 (fl + 1) := by
  intro O F hr
  refine h O F ?_
  obtain ⟨q1, q2, q3⟩ := step_tr (S := ⟨bs.drop o, 3, 0, fl, 0⟩) rfl (1 : Nat)
  have hE : stepE ⟨bs.drop o, 3, 0, fl, 0⟩ (1 : Nat) = 0 := by
    rw [q1]; unfold trailE; rw [he, if_pos rfl, if_neg ht, if_pos hs, if_neg (by show ¬ 64 < fl + 1; omega)]
  have hS : stepS ⟨bs.drop o, 3, 0, fl, 0⟩ (1 : Nat) = ⟨bs.drop (lineP o (bs.drop o)), 3, 0, fl + 1, 0⟩ := by
    rw [q2]; unfold trailS; rw [he, if_pos rfl, if_neg ht, if_pos hs, (lineR_at o rfl he).1]
  have := Run1.step (S := ⟨bs.drop o, 3, 0, fl, 0⟩) (by rintro (h | h); exact h rfl; rw [hE] at h; cases h) (by rw [stepT_go hE, hS]; exact hr)
  rw [q3] at this
  exact this
end Go.Proofs.YtdpcncpfbaigeaaDoor
