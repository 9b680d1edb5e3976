/- The chunk decoder run to its end, byte by byte; what taking and feeding do to that. Plain lists, no program here. -/
import Derived.Test.YtdpcncpfbaigeaaDoorRunSpec
import Derived.Lib.IndexMore
namespace Go.Proofs.YtdpcncpfbaigeaaDoor
open Go.RowKit
set_option linter.unusedVariables false
set_option linter.unusedSimpArgs false

def stuck (S : DS) : Prop := S.er ≠ 0 ∨ stepE S (1 : Nat) = 5
inductive Run1 : DS → List UInt8 → DS → Prop
  | stop {S : DS} (h : stuck S) : Run1 S [] S
  | step {S F : DS} {O : List UInt8} (h : ¬ stuck S) (r : Run1 (stepT S 1) O F) : Run1 S (stepO S (1 : Nat) ++ O) F
theorem Run1.det {S F F' : DS} {O O' : List UInt8} (h : Run1 S O F) (h' : Run1 S O' F') : O = O' ∧ F = F' := by
  induction h generalizing O' F' with
  | stop hs => cases h' with
    | stop _ => exact ⟨rfl, rfl⟩
    | step h _ => exact absurd hs h
  | step hs r ih => cases h' with
    | stop h => exact absurd h hs
    | step _ r' => obtain ⟨rfl, rfl⟩ := ih r'; exact ⟨rfl, rfl⟩
theorem Run1.final {S F : DS} {O : List UInt8} (h : Run1 S O F) : stuck F := by
  induction h with
  | stop hs => exact hs
  | step _ _ ih => exact ih
theorem Run1.stay {S F : DS} {O : List UInt8} (h : Run1 S O F) (hs : stuck S) : O = [] ∧ F = S := by
  obtain ⟨rfl, rfl⟩ := h.det (.stop hs); exact ⟨rfl, rfl⟩
theorem line_5 {l : List UInt8} (h : lineE l ≠ 0) : lineT l = [] ∧ lineR l = l := by
  unfold lineE at h
  unfold lineT lineR
  by_cases hi : 0 ≤ lineIx l
  · rw [if_pos hi] at h; exact absurd rfl h
  · rw [if_neg hi, if_neg hi]; exact ⟨rfl, rfl⟩
theorem bytesK_one {S : DS} {X : Nat} (hX : 1 ≤ X) : bytesK S X = 0 ↔ bytesK S (1 : Nat) = 0 := by
  unfold bytesK; omega
theorem stepE_one {S : DS} {X : Nat} (hX : 1 ≤ X) : stepE S X = stepE S (1 : Nat) := by
  unfold stepE
  by_cases h1 : S.st = 1
  · have h0 : ¬ S.st = 0 := by omega
    rw [if_neg h0, if_neg h0, if_pos h1, if_pos h1]
    unfold bytesE
    by_cases hk : bytesK S X = 0
    · rw [if_pos hk, if_pos ((bytesK_one hX).1 hk)]
    · rw [if_neg hk, if_neg (fun h => hk ((bytesK_one hX).2 h))]
  · rw [if_neg h1, if_neg h1]
theorem five_same {S : DS} {X : Nat} (h : stepE S X = 5) : stepS S X = S ∧ stepO S X = [] := by
  unfold stepE at h
  unfold stepS stepO
  by_cases h0 : S.st = 0
  · rw [if_pos h0] at h
    rw [if_pos h0, if_neg (by omega)]
    refine ⟨?_, rfl⟩
    unfold beginE at h
    unfold beginS
    by_cases hl : lineE S.inp = 0
    · rw [if_pos hl] at h; split at h <;> cases h
    · rw [if_neg hl]
  · rw [if_neg h0] at h ⊢
    by_cases h1 : S.st = 1
    · rw [if_pos h1] at h ⊢
      rw [if_pos h1]
      unfold bytesE at h
      unfold bytesS
      by_cases hk : bytesK S X = 0
      · rw [if_pos hk, hk]; exact ⟨rfl, rfl⟩
      · rw [if_neg hk] at h; cases h
    · rw [if_neg h1] at h ⊢
      rw [if_neg h1]
      by_cases h2 : S.st = 2
      · rw [if_pos h2] at h ⊢
        refine ⟨?_, rfl⟩
        unfold overS
        rw [if_neg (by omega)]
      · rw [if_neg h2] at h ⊢
        refine ⟨?_, rfl⟩
        unfold trailE at h
        unfold trailS
        by_cases hl : lineE S.inp = 0
        · rw [if_pos hl] at h; split at h
          · cases h
          · split at h
            · split at h <;> cases h
            · cases h
        · rw [if_neg hl]
theorem stepT_go {S : DS} {X : Nat} (h : stepE S X = 0) : stepT S X = stepS S X := by
  unfold stepT; rw [h, if_neg (by simp)]
theorem stepT_five {S : DS} {X : Nat} (h : stepE S X = 5) : stepT S X = S := by
  unfold stepT; rw [h, if_neg (by simp), (five_same h).1]
theorem stepT_err {S : DS} {X : Nat} (h : stepE S X ≠ 0) (h5 : stepE S X ≠ 5) : stepT S X = { stepS S X with er := stepE S X } := by
  unfold stepT; rw [if_pos ⟨h, h5⟩]
theorem not_stuck {S : DS} (h : ¬ stuck S) : S.er = 0 ∧ stepE S (1 : Nat) ≠ 5 := by
  unfold stuck at h
  exact ⟨Classical.byContradiction fun e => h (.inl e), fun e => h (.inr e)⟩
theorem stuck_err {S : DS} {X : Nat} (h : stepE S X ≠ 0) (h5 : stepE S X ≠ 5) : stuck (stepT S X) := by
  rw [stepT_err h h5]; exact .inl h
theorem run1_ex : ∀ (k : Nat) (S : DS), DSok S → S.inp.length < k → ∃ O F, Run1 S O F
  | 0, S, _, h => absurd h (Nat.not_lt_zero _)
  | k + 1, S, hok, h => by
    by_cases hs : stuck S
    · exact ⟨_, _, .stop hs⟩
    · by_cases h0 : stepE S (1 : Nat) = 0
      · have hk := step_ok 1 hok
        have e := stepT_go (X := 1) h0
        obtain ⟨O, F, r⟩ := run1_ex k (stepS S (1 : Nat)) hk.1 (by have := hk.2.2.1 h0; omega)
        exact ⟨_, _, .step hs (by rw [show stepT S 1 = stepS S (1 : Nat) from e]; exact r)⟩
      · exact ⟨_, _, .step hs (.stop (stuck_err (X := 1) h0 (not_stuck hs).2))⟩
theorem run1_of {S : DS} (h : DSok S) : ∃ O F, Run1 S O F := run1_ex _ S h (Nat.lt_succ_self _)
/-- The bytes of a chunk, k of them at once. -/
theorem run_bytes (k : Nat) : ∀ {S F : DS} {O : List UInt8}, S.st = 1 → S.er = 0 → 1 ≤ k → k ≤ S.left → k ≤ S.inp.length → Run1 { S with inp := S.inp.drop k, left := S.left - k, st := if S.left = k then 2 else 1 } O F → Run1 S (S.inp.take k ++ O) F := by
  induction k with
  | zero => intro S F O _ _ h; omega
  | succ k ih =>
    intro S F O h1 h0 _ hl hi hr
    have hK : bytesK S (1 : Nat) = 1 := by unfold bytesK; omega
    have hE : stepE S (1 : Nat) = 0 := by
      unfold stepE bytesE; rw [if_neg (by omega), if_pos h1, if_neg (by omega)]
    have hO : stepO S (1 : Nat) = S.inp.take 1 := by unfold stepO; rw [if_pos h1, hK]
    have hS : stepT S 1 = { S with inp := S.inp.drop 1, left := S.left - 1, st := if S.left = 1 then 2 else 1 } := by
      rw [show stepT S 1 = stepS S (1 : Nat) from stepT_go (X := 1) hE]
      unfold stepS bytesS; rw [if_neg (by omega), if_pos h1, if_neg (by omega), hK, h1]
    have hns : ¬ stuck S := by unfold stuck; omega
    rcases Nat.eq_zero_or_pos k with hk | hk
    · subst hk
      have := Run1.step hns (by rw [hS]; exact hr)
      rw [hO] at this
      exact this
    · have hS' : stepT S 1 = { S with inp := S.inp.drop 1, left := S.left - 1, st := 1 } := by rw [hS, if_neg (by omega)]
      have r2 := ih (S := { S with inp := S.inp.drop 1, left := S.left - 1, st := 1 }) (F := F) (O := O) rfl h0 (by omega) (by show k ≤ S.left - 1; omega) (by show _ ≤ (S.inp.drop 1).length; rw [List.length_drop]; omega) (by
        show Run1 ⟨(S.inp.drop 1).drop k, if S.left - 1 = k then 2 else 1, S.left - 1 - k, S.fl, S.er⟩ O F
        have e1 : (S.inp.drop 1).drop k = S.inp.drop (k + 1) := by rw [List.drop_drop]; congr 1; omega
        have e2 : S.left - 1 - k = S.left - (k + 1) := by omega
        have e3 : (if S.left - 1 = k then 2 else 1) = (if S.left = k + 1 then 2 else 1) := by
          by_cases h : S.left = k + 1
          · rw [if_pos h, if_pos (by omega)]
          · rw [if_neg h, if_neg (by omega)]
        rw [e1, e2, e3]; exact hr)
      have := Run1.step hns (by rw [hS']; exact r2)
      rw [hO, ← List.append_assoc] at this
      have e4 : S.inp.take 1 ++ (S.inp.drop 1).take k = S.inp.take (k + 1) := by
        rw [show k + 1 = 1 + k by omega]
        exact (List.take_add (l := S.inp) (i := 1) (j := k)).symm
      rw [show (S.inp.take 1 ++ List.take k (DS.mk (S.inp.drop 1) 1 (S.left - 1) S.fl S.er).inp) = S.inp.take (k + 1) from e4] at this
      exact this
theorem run_step {S F : DS} {O : List UInt8} {X : Nat} (hX : 1 ≤ X) (hs : ¬ stuck S) (r : Run1 (stepT S X) O F) : Run1 S (stepO S X ++ O) F := by
  obtain ⟨h0, h5⟩ := not_stuck hs
  by_cases h1 : S.st = 1
  · have hK : bytesK S X ≠ 0 := by
      intro h
      have := (bytesK_one hX).1 h
      apply h5
      unfold stepE bytesE; rw [if_neg (by omega), if_pos h1, if_pos this]
    have hE : stepE S X = 0 := by
      unfold stepE bytesE; rw [if_neg (by omega), if_pos h1, if_neg hK]
    rw [stepT_go hE] at r
    have e1 : stepS S X = { S with inp := S.inp.drop (bytesK S X), left := S.left - bytesK S X, st := if S.left = bytesK S X then 2 else 1 } := by
      unfold stepS bytesS; rw [if_neg (by omega), if_pos h1, if_neg hK, h1]
    have e2 : stepO S X = S.inp.take (bytesK S X) := by unfold stepO; rw [if_pos h1]
    rw [e1] at r
    rw [e2]
    exact run_bytes (bytesK S X) h1 h0 (by omega) (by unfold bytesK; omega) (by unfold bytesK; omega) r
  · have e1 : stepO S X = [] := by unfold stepO; rw [if_neg h1]
    have e2 : stepO S (1 : Nat) = [] := by unfold stepO; rw [if_neg h1]
    have e3 : stepE S X = stepE S (1 : Nat) := stepE_one hX
    have e4 : stepS S X = stepS S (1 : Nat) := by unfold stepS; rw [if_neg h1, if_neg h1]
    have e5 : stepT S X = stepT S 1 := by unfold stepT; rw [e3, e4]
    rw [e1]
    rw [e5] at r
    have := Run1.step hs r
    rw [e2] at this
    exact this
theorem stepT_ok {S : DS} (X : Nat) (h : DSok S) : DSok (stepT S X) := by
  have := (step_ok X h).1
  unfold stepT
  split
  · exact ⟨this.1, this.2.1, this.2.2⟩
  · exact this
theorem runD_run : ∀ (f n : Nat) (S : DS) (o : List UInt8), DSok S → S.inp.length < f → o.length ≤ n → ∀ {O : List UInt8} {F : DS}, Run1 S O F →
    ∃ p q, (runD f n S o 0).1 = o ++ p ∧ O = p ++ q ∧ Run1 (runD f n S o 0).2.2 q F ∧ DSok (runD f n S o 0).2.2 ∧ (o ++ p).length ≤ n ∧ ((o ++ p).length = n ∨ (q = [] ∧ (runD f n S o 0).2.2 = F))
  | 0, n, S, o, _, h, _, _, _, _ => absurd h (Nat.not_lt_zero _)
  | f + 1, n, S, o, hok, hf, ho, O, F, hr => by
    by_cases hc : (o.length : Int) < n ∧ S.er = 0 ∧ (0 : Nat) = 0
    · rw [runD_go hc]
      obtain ⟨X, hX⟩ : ∃ X : Nat, X = ((n : Int) - (o.length : Nat)).toNat := ⟨_, rfl⟩
      rw [← hX]
      have hX1 : 1 ≤ X := by omega
      have hXn : o.length + X = n := by omega
      have hE1 := stepE_one (S := S) hX1
      have hOl := stepO_len X hok
      by_cases h5 : stepE S X = 5
      · rw [stepT_five h5, h5, (five_same h5).2, runD_stop (by simp)]
        obtain ⟨rfl, rfl⟩ := hr.stay (.inr (hE1.symm.trans h5))
        exact ⟨[], [], rfl, rfl, hr, hok, by simpa using ho, .inr ⟨rfl, rfl⟩⟩
      · have hns : ¬ stuck S := by
          rintro (h | h)
          · exact h hc.2.1
          · exact h5 (hE1.trans h)
        obtain ⟨O', F', r'⟩ := run1_of (stepT_ok X hok)
        obtain ⟨rfl, rfl⟩ := hr.det (run_step hX1 hns r')
        by_cases h0 : stepE S X = 0
        · rw [h0]
          have hk := (step_ok X hok).2.2.1 h0
          obtain ⟨p, q, a1, a2, a3, a4, a5, a6⟩ := runD_run f n (stepT S X) (o ++ stepO S X) (stepT_ok X hok) (by rw [stepT_go h0]; omega) (by rw [List.length_append]; omega) r'
          exact ⟨stepO S X ++ p, q, by rw [a1, List.append_assoc], by rw [a2, List.append_assoc], a3, a4, by rw [← List.append_assoc]; exact a5, by rw [← List.append_assoc]; exact a6⟩
        · rw [runD_stop (fun h => h0 h.2.2)]
          obtain ⟨rfl, rfl⟩ := r'.stay (stuck_err h0 h5)
          exact ⟨stepO S X, [], rfl, rfl, r', stepT_ok X hok, by rw [List.length_append]; omega, .inr ⟨rfl, rfl⟩⟩
    · rw [runD_stop hc]
      by_cases hn : o.length = n
      · exact ⟨[], O, by simp, rfl, hr, hok, by simpa using ho, .inl (by simpa using hn)⟩
      · have he : S.er ≠ 0 := fun e => hc ⟨by omega, e, rfl⟩
        obtain ⟨rfl, rfl⟩ := hr.stay (.inl he)
        exact ⟨[], [], by simp, rfl, hr, hok, by simpa using ho, .inr ⟨rfl, rfl⟩⟩
theorem take_run {S F : DS} {O : List UInt8} (n : Nat) (hok : DSok S) (hr : Run1 S O F) :
    takeO n S = O.take n ∧ Run1 (takeR n S).2.2 (O.drop n) F ∧ DSok (takeR n S).2.2 ∧ (takeEr n S = if n ≤ O.length then 0 else if 0 < O.length ∨ F.er = 0 then 5 else F.er) ∧ (O.length < n → (takeR n S).2.2 = F) := by
  obtain ⟨p, q, a1, a2, a3, a4, a5, a6⟩ := runD_run (S.inp.length + 1) n S [] hok (Nat.lt_succ_self _) (Nat.zero_le _) hr
  rw [List.nil_append] at a1 a5 a6
  have b1 : (takeR n S).1 = p := a1
  have b3 : Run1 (takeR n S).2.2 q F := a3
  unfold takeO takeEr
  rw [b1]
  rcases a6 with h | ⟨rfl, h⟩
  · have hO : n ≤ O.length := by rw [a2, List.length_append]; omega
    rw [if_pos (by omega), if_pos (by omega), if_pos hO, a2]
    refine ⟨?_, ?_, a4, rfl, fun hh => by rw [← a2] at hh; omega⟩
    · rw [← h, List.take_left]
    · have : (p ++ q).drop n = q := by rw [← h, List.drop_left]
      rw [this]; exact b3
  · rw [List.append_nil] at a2
    subst a2
    have h' : (takeR n S).2.2 = F := h
    have hd : O.drop n = [] := List.drop_eq_nil_of_le (by omega)
    have ht : O.take n = O := List.take_of_length_le (by omega)
    rw [hd, ht, h']
    refine ⟨?_, h' ▸ b3, h' ▸ a4, ?_, fun _ => rfl⟩
    · by_cases hn : n ≤ O.length
      · rw [if_pos (by omega)]
      · rw [if_neg (by omega)]
        split
        · rfl
        · rename_i hh
          exact (List.eq_nil_of_length_eq_zero (by omega)).symm
    · by_cases hn : n ≤ O.length
      · rw [if_pos (by omega), if_pos hn]
      · rw [if_neg (by omega), if_neg hn]
/-! ### Feeding -/
def feedS (S : DS) (y : List UInt8) : DS := { S with inp := S.inp ++ y }
theorem isPrefixOf_append {s a : List UInt8} (y : List UInt8) (h : s.isPrefixOf a = true) : s.isPrefixOf (a ++ y) = true := by
  rw [List.isPrefixOf_iff_prefix] at h ⊢
  exact h.trans (List.prefix_append _ _)
theorem occ_append {a s : List UInt8} (y : List UInt8) {i : Nat} (h : i + s.length ≤ a.length) : Lib.occAt (a ++ y) s i = Lib.occAt a s i := by
  unfold Lib.occAt
  rw [List.drop_append_of_le_length (by omega)]
  rw [Bool.eq_iff_iff, List.isPrefixOf_iff_prefix, List.isPrefixOf_iff_prefix]
  constructor
  · intro hp
    exact List.prefix_of_prefix_length_le hp (List.prefix_append _ _) (by rw [List.length_drop]; omega)
  · intro hp; exact hp.trans (List.prefix_append _ _)
theorem index_more {a s : List UInt8} (y : List UInt8) (h : 0 ≤ Lib.index a s) : Lib.index (a ++ y) s = Lib.index a s := by
  have hroom := Lib.index_room a s h
  rcases Lib.index_spec a s with ⟨e, -⟩ | ⟨i, e, hi, ho, hno⟩
  · rw [e] at h; omega
  · rw [e] at hroom ⊢
    refine Lib.index_first (by rw [List.length_append]; omega) (by rw [occ_append y (by omega)]; exact ho) (fun j hj => ?_)
    rw [occ_append y (by omega)]
    exact hno j hj
theorem lineIx_room {l : List UInt8} (h : 0 ≤ lineIx l) : (lineIx l).toNat + 2 ≤ l.length := by
  have := Lib.index_room (l.take 1024) crlfL h
  have e : (crlfL.length : Int) = 2 := rfl
  have : lineIx l + 2 ≤ ((l.take 1024).length : Nat) := this
  rw [List.length_take] at this
  omega
theorem line_feed {l : List UInt8} (y : List UInt8) (h : lineE l ≠ 5) : lineE (l ++ y) = lineE l ∧ lineT (l ++ y) = lineT l ∧ (lineE l = 0 → lineR (l ++ y) = lineR l ++ y) := by
  by_cases hi : 0 ≤ lineIx l
  · have hx : lineIx (l ++ y) = lineIx l := by
      unfold lineIx at hi ⊢
      rw [List.take_append]
      exact index_more _ hi
    have hr := lineIx_room hi
    unfold lineE lineT lineR
    rw [hx]
    simp only [hi, if_true]
    refine ⟨trivial, ?_, fun _ => ?_⟩
    · rw [List.take_append_of_le_length (by omega)]
    · rw [List.drop_append_of_le_length (by omega)]
  · have hE : lineE l = if 1024 ≤ l.length then 6 else 5 := by unfold lineE; rw [if_neg hi]
    have hl : 1024 ≤ l.length := by
      by_cases hc : 1024 ≤ l.length
      · exact hc
      · rw [hE, if_neg hc] at h; exact absurd rfl h
    have hx : lineIx (l ++ y) = lineIx l := by
      unfold lineIx; rw [List.take_append_of_le_length hl]
    have hT : lineT l = [] := by unfold lineT; rw [if_neg hi]
    rw [hE, if_pos hl, hT]
    unfold lineE lineT
    rw [hx, if_neg hi, if_neg hi, if_pos (by rw [List.length_append]; omega)]
    exact ⟨rfl, rfl, fun h => by cases h⟩
theorem step_feed {S : DS} (y : List UInt8) (h5 : stepE S (1 : Nat) ≠ 5) : stepE (feedS S y) (1 : Nat) = stepE S (1 : Nat) ∧ stepO (feedS S y) (1 : Nat) = stepO S (1 : Nat) ∧ stepT (feedS S y) 1 = feedS (stepT S 1) y := by
  have key : stepE (feedS S y) (1 : Nat) = stepE S (1 : Nat) ∧ stepO (feedS S y) (1 : Nat) = stepO S (1 : Nat) ∧ stepS (feedS S y) (1 : Nat) = feedS (stepS S (1 : Nat)) y := by
    unfold stepE at h5 ⊢
    unfold stepO stepS
    by_cases h0 : S.st = 0
    · rw [if_pos h0] at h5
      rw [if_pos (show (feedS S y).st = 0 from h0), if_pos h0, if_pos (show (feedS S y).st = 0 from h0), if_pos h0, if_neg (by show ¬ S.st = 1; omega), if_neg (by omega)]
      have hl5 : lineE S.inp ≠ 5 := by
        intro e; apply h5; unfold beginE; rw [e, if_neg (by omega)]
      obtain ⟨q1, q2, q3⟩ := line_feed y hl5
      unfold beginE beginS
      show (if lineE (S.inp ++ y) = 0 then (if sizeOk (lineT (S.inp ++ y)) then 0 else 2) else lineE (S.inp ++ y)) = _ ∧ _ ∧ (if lineE (S.inp ++ y) = 0 then (if sizeOk (lineT (S.inp ++ y)) then (⟨lineR (S.inp ++ y), if sizeN (lineT (S.inp ++ y)) = 0 then 3 else 1, sizeN (lineT (S.inp ++ y)), S.fl, S.er⟩ : DS) else ⟨lineR (S.inp ++ y), S.st, S.left, S.fl, S.er⟩) else feedS S y) = _
      rw [q1, q2]
      by_cases hl : lineE S.inp = 0
      · rw [q3 hl]
        simp only [hl, if_true]
        refine ⟨by first | rfl | trivial, by first | rfl | trivial, ?_⟩
        rcases sizeOk (lineT S.inp) with _ | _ <;> rfl
      · rw [if_neg hl, if_neg hl, if_neg hl]
        exact ⟨by first | rfl | trivial, by first | rfl | trivial, by first | rfl | trivial⟩
    · rw [if_neg h0] at h5
      rw [if_neg (show ¬ (feedS S y).st = 0 from h0), if_neg h0, if_neg (show ¬ (feedS S y).st = 0 from h0), if_neg h0]
      by_cases h1 : S.st = 1
      · rw [if_pos h1] at h5
        have h1' : (feedS S y).st = 1 := h1
        rw [if_pos h1', if_pos h1, if_pos h1', if_pos h1, if_pos h1', if_pos h1]
        have hK : bytesK S (1 : Nat) = 1 := by
          unfold bytesE at h5
          by_cases hk : bytesK S (1 : Nat) = 0
          · rw [if_pos hk] at h5; exact absurd rfl h5
          · unfold bytesK at hk ⊢; omega
        have hK' : bytesK (feedS S y) (1 : Nat) = 1 := by
          unfold bytesK at hK ⊢
          show (min 1 (min (S.left : Int) ((S.inp ++ y).length : Nat))).toNat = 1
          rw [List.length_append]; omega
        have hlen : 1 ≤ S.inp.length := by unfold bytesK at hK; omega
        unfold bytesE bytesS
        rw [hK, hK']
        refine ⟨rfl, ?_, ?_⟩
        · show (S.inp ++ y).take 1 = _
          rw [List.take_append_of_le_length hlen]
        · rw [if_neg (show ¬ (1 : Nat) = 0 by decide), if_neg (show ¬ (1 : Nat) = 0 by decide)]
          show (⟨(S.inp ++ y).drop 1, _, _, _, _⟩ : DS) = _
          rw [List.drop_append_of_le_length hlen]; rfl
      · rw [if_neg h1] at h5
        have h1' : ¬ (feedS S y).st = 1 := h1
        rw [if_neg h1', if_neg h1, if_neg h1', if_neg h1, if_neg h1', if_neg h1]
        by_cases h2 : S.st = 2
        · rw [if_pos h2] at h5
          have h2' : (feedS S y).st = 2 := h2
          rw [if_pos h2', if_pos h2, if_pos h2', if_pos h2]
          have hov : overE (feedS S y) = overE S := by
            unfold overE at h5 ⊢
            show (if Lib.hasPrefix [13, 10] ((S.inp ++ y).take 2) then (if (S.inp ++ y).length < 2 then 5 else 0) else 2) = _
            by_cases hl : 2 ≤ S.inp.length
            · rw [List.take_append_of_le_length hl, List.length_append]
              by_cases hp : Lib.hasPrefix [13, 10] (S.inp.take 2) = true
              · rw [if_pos hp, if_pos hp, if_neg (by omega), if_neg (by omega)]
              · rw [if_neg hp, if_neg hp]
            · by_cases hp : Lib.hasPrefix [13, 10] (S.inp.take 2) = true
              · rw [if_pos hp, if_pos (by omega)] at h5; exact absurd rfl h5
              · rw [if_neg hp, if_neg]
                intro hp'
                apply hp
                unfold Lib.hasPrefix at hp' ⊢
                rw [List.isPrefixOf_iff_prefix] at hp' ⊢
                refine List.IsPrefix.trans ?_ hp'
                rw [List.take_append, List.take_of_length_le (by omega)]
                exact List.prefix_append _ _
          refine ⟨hov, rfl, ?_⟩
          unfold overS
          rw [hov]
          by_cases ho : overE S = 0
          · rw [if_pos ho, if_pos ho]
            have hl : 2 ≤ S.inp.length := by
              unfold overE at ho
              split at ho
              · split at ho
                · cases ho
                · omega
              · cases ho
            show (⟨(S.inp ++ y).drop 2, _, _, _, _⟩ : DS) = _
            rw [List.drop_append_of_le_length hl]; rfl
          · rw [if_neg ho, if_neg ho]
        · rw [if_neg h2] at h5
          have h2' : ¬ (feedS S y).st = 2 := h2
          rw [if_neg h2', if_neg h2, if_neg h2', if_neg h2]
          have hl5 : lineE S.inp ≠ 5 := by
            intro e; apply h5; unfold trailE; rw [e, if_neg (by omega)]
          obtain ⟨q1, q2, q3⟩ := line_feed y hl5
          unfold trailE trailS
          show (if lineE (S.inp ++ y) = 0 then (if lineT (S.inp ++ y) = [] then 8 else if lineOk (lineT (S.inp ++ y)) then (if 64 < S.fl + 1 then 6 else 0) else 2) else lineE (S.inp ++ y)) = _ ∧ _ ∧ (if lineE (S.inp ++ y) = 0 then (if lineT (S.inp ++ y) = [] then (⟨lineR (S.inp ++ y), S.st, S.left, S.fl, S.er⟩ : DS) else if lineOk (lineT (S.inp ++ y)) then ⟨lineR (S.inp ++ y), S.st, S.left, S.fl + 1, S.er⟩ else ⟨lineR (S.inp ++ y), S.st, S.left, S.fl, S.er⟩) else feedS S y) = _
          rw [q1, q2]
          by_cases hl : lineE S.inp = 0
          · rw [q3 hl]
            simp only [hl, if_true]
            refine ⟨by first | rfl | trivial, by first | rfl | trivial, ?_⟩
            by_cases hT : lineT S.inp = []
            · rw [if_pos hT, if_pos hT]; rfl
            · rw [if_neg hT, if_neg hT]
              rcases lineOk (lineT S.inp) with _ | _ <;> rfl
          · rw [if_neg hl, if_neg hl, if_neg hl]
            exact ⟨by first | rfl | trivial, by first | rfl | trivial, by first | rfl | trivial⟩
  obtain ⟨a, b, c⟩ := key
  refine ⟨a, b, ?_⟩
  unfold stepT
  rw [a, c]
  split <;> rfl
theorem run_feed {S F : DS} {O : List UInt8} (y : List UInt8) (h : Run1 S O F) {O2 : List UInt8} {F2 : DS} (h2 : Run1 (feedS F y) O2 F2) : Run1 (feedS S y) (O ++ O2) F2 := by
  induction h with
  | stop _ => exact h2
  | step hs r ih =>
    obtain ⟨h0, h5⟩ := not_stuck hs
    obtain ⟨a, b, c⟩ := step_feed y h5
    have := Run1.step (S := feedS _ y) (by rintro (h | h); exact h h0; exact h5 (a ▸ h)) (by rw [c]; exact ih h2)
    rw [b, ← List.append_assoc] at this
    exact this
end Go.Proofs.YtdpcncpfbaigeaaDoor
