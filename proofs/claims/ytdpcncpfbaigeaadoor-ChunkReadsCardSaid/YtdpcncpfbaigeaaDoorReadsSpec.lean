/- ChunkReads: what feeding and taking in parts comes to. Plain lists; and Feed with a stronger frame. -/
import Derived.Test.YtdpcncpfbaigeaaDoorUnchunk
import Derived.Test.YtdpcncpfbaigeaaDoorMaxLen
namespace Go.Proofs.YtdpcncpfbaigeaaDoor
open Go.RowKit
set_option linter.unusedVariables false
set_option linter.unusedSimpArgs false

def flen (S : DS) : Nat := S.fl + S.inp.length
theorem step_flen (S : DS) (X : Int) : flen (stepS S X) ≤ flen S := by
  unfold stepS flen
  by_cases h0 : S.st = 0
  · rw [if_pos h0]; unfold beginS
    by_cases hl : lineE S.inp = 0
    · rw [if_pos hl]
      have := lineR_lt hl
      split <;> (show S.fl + (lineR S.inp).length ≤ _; omega)
    · rw [if_neg hl]; exact Nat.le_refl _
  · rw [if_neg h0]
    by_cases h1 : S.st = 1
    · rw [if_pos h1]; unfold bytesS
      split
      · exact Nat.le_refl _
      · show S.fl + (S.inp.drop _).length ≤ _; rw [List.length_drop]; omega
    · rw [if_neg h1]
      by_cases h2 : S.st = 2
      · rw [if_pos h2]; unfold overS
        split
        · show S.fl + (S.inp.drop _).length ≤ _; rw [List.length_drop]; omega
        · exact Nat.le_refl _
      · rw [if_neg h2]; unfold trailS
        by_cases hl : lineE S.inp = 0
        · rw [if_pos hl]
          have := lineR_lt hl
          split
          · show S.fl + (lineR S.inp).length ≤ _; omega
          · split
            · show S.fl + 1 + (lineR S.inp).length ≤ _; omega
            · show S.fl + (lineR S.inp).length ≤ _; omega
        · rw [if_neg hl]; exact Nat.le_refl _
theorem stepT_flen (S : DS) (X : Nat) : flen (stepT S X) ≤ flen S := by
  have := step_flen S X
  unfold stepT
  split <;> exact this
theorem runD_flen : ∀ (f : Nat) (n : Int) (S : DS) (o : List UInt8) (e : Nat), flen (runD f n S o e).2.2 ≤ flen S
  | 0, n, S, o, e => Nat.le_refl _
  | f + 1, n, S, o, e => by
    rw [runD]
    split
    · exact Nat.le_trans (runD_flen f n _ _ _) (stepT_flen S _)
    · exact Nat.le_refl _
theorem step_er (S : DS) (X : Int) : (stepS S X).er = S.er := by
  unfold stepS
  split
  · unfold beginS; split
    · split <;> rfl
    · rfl
  · split
    · unfold bytesS; split <;> rfl
    · split
      · unfold overS; split <;> rfl
      · unfold trailS; split
        · split
          · rfl
          · split <;> rfl
        · rfl
theorem run_er5 {S F : DS} {O : List UInt8} (h : Run1 S O F) (h5 : S.er ≠ 5) : F.er ≠ 5 := by
  induction h with
  | stop _ => exact h5
  | @step S F O hs r ih =>
    apply ih
    unfold stepT
    split
    · rename_i hh; exact hh.2
    · rw [step_er]; exact h5
theorem run_len {S F : DS} {O : List UInt8} (h : Run1 S O F) (hok : DSok S) : O.length ≤ S.inp.length := by
  induction h with
  | stop _ => exact Nat.zero_le _
  | @step S F O hs r ih =>
    have h1 := stepO_len 1 hok
    have h2 := ih (stepT_ok 1 hok)
    have h3 : (stepT S 1).inp = (stepS S (1 : Nat)).inp := by unfold stepT; split <;> rfl
    rw [h3] at h2
    rw [List.length_append]
    have h4 : (stepO S ((1 : Nat) : Int)).length + (stepS S ((1 : Nat) : Int)).inp.length ≤ S.inp.length := h1.2
    omega
def RInv (bs : List UInt8) (at_ : Nat) (S : DS) (out : List UInt8) : Prop :=
  ∃ q Fq, Run1 S q Fq ∧ Run1 ⟨bs.take at_, 0, 0, 0, 0⟩ (out ++ q) Fq ∧ DSok S ∧ flen S ≤ at_ ∧ Fq.er ≠ 5 ∧ at_ ≤ bs.length
theorem dsok0 (l : List UInt8) (h : l.length ≤ 900000000) : DSok ⟨l, 0, 0, 0, 0⟩ := ⟨Nat.zero_le _, Nat.zero_le _, by show 0 + l.length ≤ _; omega⟩
theorem rinv_init (bs : List UInt8) : RInv bs 0 ⟨[], 0, 0, 0, 0⟩ [] := by
  obtain ⟨q, Fq, h⟩ := run1_of (dsok0 [] (by simp))
  exact ⟨q, Fq, h, h, dsok0 [] (by simp), Nat.le_refl _, run_er5 h (show (0 : Nat) ≠ 5 by decide), Nat.zero_le _⟩
theorem rinv_take {bs : List UInt8} {at_ : Nat} {S : DS} {out : List UInt8} (h : RInv bs at_ S out) (n : Nat) :
    RInv bs at_ (takeR n S).2.2 (out ++ takeO n S) ∧ (takeO n S).length ≤ n ∧ (takeEr n S = 0 ↔ (takeO n S).length = n) := by
  obtain ⟨q, Fq, h1, h2, h3, h4, h5, h6⟩ := h
  obtain ⟨t1, t2, t3, t4, -⟩ := take_run n h3 h1
  refine ⟨⟨q.drop n, Fq, t2, ?_, t3, Nat.le_trans (runD_flen _ _ _ _ _) h4, h5, h6⟩, ?_, ?_⟩
  · rw [t1, List.append_assoc, List.take_append_drop]; exact h2
  · rw [t1, List.length_take]; omega
  · rw [t4, t1, List.length_take]
    by_cases hn : n ≤ q.length
    · rw [if_pos hn]; simp; omega
    · rw [if_neg hn]
      constructor
      · intro e
        split at e
        · cases e
        · rename_i hh
          exact absurd (.inr e) hh
      · intro e; omega
theorem rinv_len {bs W : List UInt8} {F0 : DS} {at_ : Nat} {S : DS} {out : List UInt8} (h : RInv bs at_ S out) (hW : Run1 ⟨bs, 0, 0, 0, 0⟩ W F0) (hl : bs.length ≤ 100000) : out.length ≤ W.length := by
  obtain ⟨q, Fq, h1, h2, h3, h4, h5, h6⟩ := h
  have e : feedS ⟨bs.take at_, 0, 0, 0, 0⟩ (bs.drop at_) = ⟨bs, 0, 0, 0, 0⟩ := by unfold feedS; rw [List.take_append_drop]
  have hok : DSok (feedS ⟨bs.take at_, 0, 0, 0, 0⟩ (bs.drop at_)) := by rw [e]; exact dsok0 _ (by omega)
  -- what stands behind, run on
  have ⟨O2, F2, h7⟩ : ∃ O2 F2, Run1 (feedS Fq (bs.drop at_)) O2 F2 := by
    by_cases he : Fq.er = 0
    · obtain ⟨t1, t2, t3, t4, t5⟩ := take_run (q.length + 1) h3 h1
      have e5 := t5 (by omega)
      have hf : flen Fq ≤ at_ := by rw [← e5]; exact Nat.le_trans (runD_flen _ _ _ _ _) h4
      rw [e5] at t3
      refine run1_of ⟨t3.1, t3.2.1, ?_⟩
      show Fq.fl + (Fq.inp ++ bs.drop at_).length ≤ _
      unfold flen at hf
      rw [List.length_append, List.length_drop]; omega
    · exact ⟨[], _, .stop (.inl he)⟩
  have := run_feed (bs.drop at_) h2 h7
  rw [e] at this
  obtain ⟨rfl, -⟩ := hW.det this
  rw [List.length_append, List.length_append]; omega
/-- Nothing comes any more. -/
theorem rinv_stop {bs : List UInt8} {at_ : Nat} {S : DS} {out : List UInt8} (h : RInv bs at_ S out) (n : Nat) (hn : 1 ≤ n) (hO : takeO n S = []) :
    ∃ Fq, (takeR n S).2.2 = Fq ∧ Run1 Fq [] Fq ∧ Run1 ⟨bs.take at_, 0, 0, 0, 0⟩ out Fq ∧ DSok Fq ∧ flen Fq ≤ at_ ∧ Fq.er ≠ 5 ∧ takeEr n S = (if Fq.er = 0 then 5 else Fq.er) := by
  obtain ⟨q, Fq, h1, h2, h3, h4, h5, h6⟩ := h
  obtain ⟨t1, t2, t3, t4, t5⟩ := take_run n h3 h1
  have hq : q = [] := by
    rw [t1] at hO
    cases q with
    | nil => rfl
    | cons a q => rw [show n = (n - 1) + 1 by omega, List.take_succ_cons] at hO; cases hO
  subst hq
  have e5 := t5 (by simp; omega)
  rw [e5] at t2 t3
  rw [List.append_nil] at h2
  have hf : flen Fq ≤ at_ := by rw [← e5]; exact Nat.le_trans (runD_flen _ _ _ _ _) h4
  refine ⟨Fq, e5, by simpa using t2, h2, t3, hf, h5, ?_⟩
  rw [t4, if_neg (by simp; omega)]
  simp
theorem rinv_feed {bs : List UInt8} {at_ tt : Nat} {Fq : DS} {out : List UInt8} (h2 : Run1 ⟨bs.take at_, 0, 0, 0, 0⟩ out Fq) (h3 : DSok Fq) (h4 : flen Fq ≤ at_) (h5 : Fq.er ≠ 5) (hat : at_ ≤ tt) (hto : tt ≤ bs.length) (hl : bs.length ≤ 100000) :
    RInv bs tt (feedS Fq ((bs.drop at_).take (tt - at_))) out := by
  have hok : DSok (feedS Fq ((bs.drop at_).take (tt - at_))) := ⟨h3.1, h3.2.1, by
    show Fq.fl + (Fq.inp ++ _).length ≤ _
    unfold flen at h4
    rw [List.length_append, List.length_take, List.length_drop]; omega⟩
  obtain ⟨q, F2, h7⟩ := run1_of hok
  have := run_feed ((bs.drop at_).take (tt - at_)) h2 h7
  have e : feedS ⟨bs.take at_, 0, 0, 0, 0⟩ ((bs.drop at_).take (tt - at_)) = ⟨bs.take tt, 0, 0, 0, 0⟩ := by
    unfold feedS
    show (⟨bs.take at_ ++ (bs.drop at_).take (tt - at_), 0, 0, 0, 0⟩ : DS) = _
    congr 1
    rw [← List.take_add]; congr 1; omega
  rw [e] at this
  refine ⟨q, F2, h7, this, hok, ?_, run_er5 h7 h5, hto⟩
  show Fq.fl + (Fq.inp ++ _).length ≤ _
  unfold flen at h4
  rw [List.length_append, List.length_take, List.length_drop]; omega
theorem rinv_final {bs W : List UInt8} {F0 Fq : DS} {at_ : Nat} {out : List UInt8} (h2 : Run1 ⟨bs.take at_, 0, 0, 0, 0⟩ out Fq) (hW : Run1 ⟨bs, 0, 0, 0, 0⟩ W F0) (hx : Fq.er ≠ 0 ∨ bs.length ≤ at_) : W = out ∧ F0 = feedS Fq (bs.drop at_) := by
  have e : feedS ⟨bs.take at_, 0, 0, 0, 0⟩ (bs.drop at_) = ⟨bs, 0, 0, 0, 0⟩ := by unfold feedS; rw [List.take_append_drop]
  rcases hx with hx | hx
  · have := run_feed (bs.drop at_) h2 (.stop (show stuck (feedS Fq (bs.drop at_)) from .inl hx))
    rw [e, List.append_nil] at this
    exact hW.det this
  · rw [List.take_of_length_le hx] at h2
    have := hW.det h2
    rw [List.drop_eq_nil_of_le hx]
    refine ⟨this.1, this.2.trans ?_⟩
    unfold feedS; rw [List.append_nil]
theorem again_take {Fq : DS} (h : Run1 Fq [] Fq) (hok : DSok Fq) (n : Nat) (hn : 1 ≤ n) : takeEr n Fq = (if Fq.er = 0 then 5 else Fq.er) ∧ (takeR n Fq).2.2 = Fq := by
  obtain ⟨t1, t2, t3, t4, t5⟩ := take_run n hok h
  refine ⟨?_, t5 (by simp; omega)⟩
  rw [t4, if_neg (by simp; omega)]; simp
theorem rest_of {bs : List UInt8} {F0 Fq : DS} {at_ used : Nat} (hF : F0 = feedS Fq (bs.drop at_)) (hu : used ≤ bs.length ∧ F0.inp = bs.drop used) (hat : at_ ≤ bs.length) : used ≤ at_ ∧ Fq.inp = (bs.drop used).take (at_ - used) ∧ Fq.inp.length = at_ - used := by
  have h : Fq.inp ++ bs.drop at_ = bs.drop used := by rw [← hu.2, hF]; rfl
  have hl := congrArg List.length h
  rw [List.length_append, List.length_drop, List.length_drop] at hl
  have hle : used ≤ at_ := by omega
  refine ⟨hle, ?_, by omega⟩
  rw [← h, List.take_left' (by omega)]
set_option maxRecDepth 100000 in
set_option maxHeartbeats 3200000 in
/-- More bytes; the frame by its two rows. -/
theorem decfeed2_any (d base : Nat) (own : Option Nat) (S : DS) (w : World) (h : IsDec w d base own S) (A' : Option Addr) (m c' B : Nat) (ys : List UInt8)
    (hy : Rd w B 1 A' m (bcells ys)) (hsz : S.inp.length + m ≤ 1000000000) (hbase : base ≤ w.heap.size) (hlt : ∀ g, own = some g → g < w.heap.size) :
    Calls Tryd.prog 10 #[.pointer (some ⟨d, 0, none⟩), .slice A' m c'] w fun e w' => e = .returned (.tuple #[]) ∧ ∃ own', IsDec w' d base own' (feedS S ys) ∧ (∀ g, own' = some g → g < w'.heap.size) ∧ (own' = own ∨ ∀ g, own' = some g → w.heap.size ≤ g) ∧ ∃ w1, w.grownBy w1 own ∧ w1.grownBy w' (some d) := by
  obtain ⟨A, c, hx, ho, ⟨rfl, hne⟩, hB⟩ := h
  obtain ⟨k0, k1, k2, k3, k4⟩ := hx.five
  obtain ⟨i0, hi0, hz0, hz1, hz2⟩ := info_parts infoU8b
  obtain ⟨f0, f1, f2, f3, f4⟩ := hx.free5
  have hbl : d < w.heap.size := hx.1
  obtain ⟨n, hn⟩ : ∃ n, n = S.inp.length := ⟨_, rfl⟩
  rw [← hn] at ho k0 hx hne hsz hlt ⊢
  have HN := hide hn
  clear hn
  obtain ⟨own, hown⟩ : ∃ o, o = (Value.slice A n c).ownBlock := ⟨_, rfl⟩
  rw [← hown] at hne hlt ⊢
  have HO := hide hown
  clear hown
  go_enter Tryd.func10, Tryd.ntmps10
  go_wp2_with (at_builtin; refine wpl_append_ow _ rfl _ _ _ rfl base 5 i0 _ 1 1 Tryd.underlying26 hi0 hz0 hz1 hz2 rfl (by omega) _ _ _ rfl _ _ _ _ _ rfl ho hy (bcells_one _) (by simp [maxLen]; omega) (by omega) hbase ?_; intro v1 w1 ho1 b1 g1 hv1; obtain ⟨A2, c2', rfl, -⟩ := Ow.shape ho1; have g2 : w.grownBy w1 own := HO.out ▸ g1; have hx1 := hx.grown g2 hne; have c2 := hx1.five.1; have f21 := hx1.free5.1)
  rw [bcells_append] at ho1
  have hv2 : (Value.slice A2 (n + m) c2').ownBlock = own ∨ ∀ g : Nat, (Value.slice A2 (n + m) c2').ownBlock = some g → w.heap.size ≤ g := by rw [HO.out]; exact hv1
  have hne2 : (Value.slice A2 (n + m) c2').ownBlock ≠ some d := by
    rcases hv2 with e | e
    · rw [e]; exact hne
    · exact fun e' => by have := e d e'; omega
  have hl : (S.inp ++ ys).length = n + m := by have := hy.1; rw [List.length_append, HN.out]; simp [bcells] at this; omega
  have h0 := hx1.set (k := 0) (x := .slice A2 (n + m) c2') (by simp)
  have h1 := ho1.store_far (a := ⟨d, 0, none⟩) hne2 (.slice A2 (n + m) c2')
  simp only [List.set_cons_zero] at h0
  go_end0
  refine ⟨rfl, _, ⟨A2, c2', by show Box _ _ [.slice A2 (S.inp ++ ys).length c2', _, _, _, _]; rw [hl]; exact h0, by show Ow _ _ _ (.slice A2 (S.inp ++ ys).length c2') (S.inp ++ ys).length _; rw [hl]; exact h1, ⟨by show (Value.slice A2 (S.inp ++ ys).length c2').ownBlock = _; rw [hl], hne2⟩, hB⟩, fun g e => (h1.lt g e).2, hv2, w1, g2, grown_set (World.grownBy.refl _ _) 0 _⟩
end Go.Proofs.YtdpcncpfbaigeaaDoor
