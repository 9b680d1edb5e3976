/- chunk.Decoder: over. -/
import Derived.Test.YtdpcncpfbaigeaaDoorDecLine
import Derived.Test.YtdpcncpfbaigeaaDoorShelf
namespace Go.Proofs.YtdpcncpfbaigeaaDoor
open Go.RowKit
set_option linter.unusedVariables false
set_option linter.unusedSimpArgs false

set_option maxRecDepth 100000 in
set_option maxHeartbeats 3200000 in
theorem decover_any (d base : Nat) (own : Option Nat) (S : DS) (w : World) (h : IsDec w d base own S) (hbase : base ≤ w.heap.size) (hn : S.inp.length ≤ 1000000000) :
    Calls Tryd.prog 37 #[.pointer (some ⟨d, 0, none⟩)] w fun e w' => e = .returned (.int .i64 (overE S)) ∧ IsDec w' d base own (overS S) ∧ w.grownBy w' (some d) := by
  obtain ⟨l, st, lf, fl, er⟩ := S
  obtain ⟨rE, hrE⟩ : ∃ x, x = overE ⟨l, st, lf, fl, er⟩ := ⟨_, rfl⟩
  obtain ⟨rS, hrS⟩ : ∃ x, x = overS ⟨l, st, lf, fl, er⟩ := ⟨_, rfl⟩
  have hrS2 : rS = if rE = 0 then ⟨l.drop 2, 0, lf, fl, er⟩ else ⟨l, st, lf, fl, er⟩ := by rw [hrS, hrE]; rfl
  have hrE2 : rE = if Lib.hasPrefix [13, 10] (l.take 2) then (if l.length < 2 then 5 else 0) else 2 := hrE
  rw [← hrE, ← hrS]
  clear hrE hrS
  obtain ⟨A, c, hx, ho, ⟨hoe, hod⟩, hB⟩ := h
  have hne := fun e => hod (hoe.symm.trans e)
  dsimp only at hx ho hne hoe hn
  have hnc : l.length ≤ c ∧ c ≤ maxLen := by
    obtain ⟨A', c', hv, h1, h2⟩ := ho.shape
    cases hv
    exact ⟨h1, h2⟩
  obtain ⟨hnc, hcm⟩ := hnc
  obtain ⟨n, hnn⟩ : ∃ n, n = l.length := ⟨_, rfl⟩
  have hstay : IsDec w d base own ⟨l, st, lf, fl, er⟩ := ⟨A, c, hx, ho, ⟨hoe, hod⟩, hB⟩
  rw [← hnn] at hn hnc hx ho hne hoe hrE2
  obtain ⟨k0, k1, k2, k3, k4⟩ := hx.five
  obtain ⟨f0, f1, f2, f3, f4⟩ := hx.free5
  obtain ⟨m, hmm⟩ : ∃ m, m = min n 2 := ⟨_, rfl⟩
  have hm1 : min (n : Int) 2 = (m : Int) := by omega
  have hmn : m ≤ n := by omega
  have hmc : (m : Int) ≤ (c : Int) := by omega
  have hfr := ho.rd.front hmn
  have htk : l.take m = l.take 2 := by
    rw [hmm, hnn]
    rcases Nat.le_total l.length 2 with h1 | h1
    · rw [Nat.min_eq_left h1, List.take_length, List.take_of_length_le h1]
    · rw [Nat.min_eq_right h1]
  rw [Nat.mul_one, bcells_take, htk] at hfr
  have hcv := fun k => run_string_of (P := Tryd.prog) 26 9 5 Tryd.underlying26 Tryd.underlying5 Tryd.underlying9 (w.drewN k) _ _ c _ _ (hfr.drewN k)
  have hp := fun w => Tryd.strings_HasPrefix ⟨#[13, 10]⟩ ⟨(l.take 2).toArray⟩ w
  change ∀ w, Calls _ _ _ w (fun e w' => e = .returned (.bool (Lib.hasPrefix [13, 10] (l.take 2))) ∧ w' = w) at hp
  obtain ⟨sp, hsp⟩ : ∃ s : ByteArray, s = ⟨(l.take 2).toArray⟩ := ⟨_, rfl⟩
  simp only [← hsp] at hcv hp
  obtain ⟨pf, hpf⟩ : ∃ b, b = Lib.hasPrefix [13, 10] (l.take 2) := ⟨_, rfl⟩
  rw [← hpf] at hrE2
  simp only [← hpf] at hp
  have HNN := hide hnn
  have HE := hide hrE2
  have HS := hide hrS2
  have hm2 : (n < 2) = (m < 2) := by apply propext; omega
  clear hsp hpf htk hfr hmm hnn hrE2 hrS2
  go_enter Tryd.func37, Tryd.ntmps37
  go_wp2_with fail
  go_quiet (fail)
  have hst := hstay.drewN nq
  have t0 : w.grownBy (w.drewN nq) (some d) := grown_of_below (below_drewN (Below.refl _ _))
  have hcv1 := hcv nq
  have hx1 : Box (w.drewN nq) d [.slice A n c, .int .i64 st, .int .i64 lf, .int .i64 fl, .int .i64 er] := hx.below (below_drewN (Below.refl _ _))
  have ho1 : Ow (w.drewN nq) base 1 (.slice A n c) n (bcells l) := ho.below (below_drewN (Below.refl _ _))
  generalize w.drewN nq = w1 at hst t0 hcv1 hx1 ho1 ⊢
  clear hcv hstay hx ho k0 k1 k2 k3 k4 f0 f1 f2 f3 f4
  obtain ⟨k0, k1, k2, k3, k4⟩ := hx1.five
  obtain ⟨f0, f1, f2, f3, f4⟩ := hx1.free5
  go_wp2_with fail
  refine (hp w1).mono ?_
  rintro e w2 ⟨rfl, rfl⟩
  clear hp
  rcases pf with _ | _
  · have HF := hide (show rE = 2 by rw [HE.out]; rfl)
    go_wp2_with fail
    go_ret
    obtain rfl := HF.out
    have e := HS.out
    rw [if_neg (by decide)] at e
    rw [e]
    exact ⟨rfl, hst, t0⟩
  · by_cases h2 : m < 2
    · have HF := hide (show rE = 5 by rw [HE.out, if_pos rfl, if_pos (by rw [hm2]; exact h2)])
      have i2 : (m : Int) < 2 := by omega
      clear hm2 h2
      go_wp2_with fail
      go_ret
      obtain rfl := HF.out
      have e := HS.out
      rw [if_neg (by decide)] at e
      rw [e]
      exact ⟨rfl, hst, t0⟩
    · have HF := hide (show rE = 0 by rw [HE.out, if_pos rfl, if_neg (by rw [hm2]; exact h2)])
      have i2 : ¬ (m : Int) < 2 := by omega
      have hn2 : 2 ≤ n := by omega
      have i3 : (2 : Int) ≤ (n : Int) := by omega
      have i4 : (2 : Int) ≤ (c : Int) := by omega
      have hcut := ho1.cut (k := 2) (m := n) hn2 (Nat.le_refl _)
      have hLen : (l.drop 2).length = n - 2 := by rw [List.length_drop, ← HNN.out]
      have hcc : ((bcells l).drop (2 * 1)).take ((n - 2) * 1) = bcells (l.drop 2) := by
        rw [Nat.mul_one, Nat.mul_one, bcells_drop]; exact List.take_of_length_le (by rw [bcells_length, hLen]; exact Nat.le_refl _)
      rw [hcc] at hcut
      clear hm2 h2 hcc hst
      by_cases hc2 : c = 2
      · subst hc2
        have hn22 : n = 2 := by omega
        subst hn22
        rw [if_pos rfl] at hcut
        rw [Nat.sub_self] at hcut hLen
        have hne5 : (Value.slice A 0 0).ownBlock ≠ some d := by
          have : (Value.slice A 0 0).ownBlock = (Value.slice A 2 2).ownBlock := by cases A <;> rfl
          rw [this]; exact hne
        have hoe5 : (Value.slice A 0 0).ownBlock = own := (show (Value.slice A 0 0).ownBlock = (Value.slice A 2 2).ownBlock by cases A <;> simp [Value.ownBlock, addr_add_block]).trans hoe
        have x1 := hx1.set (k := 0) (x := .slice A 0 0) (by simp)
        have x2 := x1.set (k := 1) (x := .int .i64 0) (by simp)
        simp only [List.set_cons_succ, List.set_cons_zero] at x1 x2
        have o1 := hcut.store_far (a := ⟨d, 0, none⟩) hne5 (.slice A 0 0)
        have o2 := o1.store_far (a := ⟨d, 1, none⟩) hne5 (.int .i64 0)
        have u1 := grown_set t0 0 (.slice A 0 0)
        have u2 := grown_set u1 1 (.int .i64 0)
        have HI := hide (show ∀ W, Box W d [.slice A 0 0, .int .i64 0, .int .i64 lf, .int .i64 fl, .int .i64 er] → Ow W base 1 (.slice A 0 0) 0 (bcells (l.drop 2)) → IsDec W d base own ⟨l.drop 2, 0, lf, fl, er⟩ from fun W b o => ⟨A, 0, by dsimp only; rw [hLen]; exact b, by dsimp only; rw [hLen]; exact o, by dsimp only; rw [hLen]; exact ⟨hoe5, hod⟩, hB⟩)
        clear hcut hLen x1 o1 u1
        go_wp2_with fail
        go_ret
        obtain rfl := HF.out
        have e := HS.out
        rw [if_pos rfl] at e
        rw [e]
        exact ⟨rfl, HI.out _ x2 o2, u2⟩
      · rw [if_neg hc2] at hcut
        have hne5 : (Value.slice (A.map (fun x => x.add (2 * 1))) (n - 2) (c - 2)).ownBlock ≠ some d := by
          have : (Value.slice (A.map (fun x => x.add (2 * 1))) (n - 2) (c - 2)).ownBlock = (Value.slice A n c).ownBlock := by cases A <;> simp [Value.ownBlock, addr_add_block]
          rw [this]; exact hne
        have hoe5 : (Value.slice (A.map (fun x => x.add (2 * 1))) (n - 2) (c - 2)).ownBlock = own := (show (Value.slice (A.map (fun x => x.add (2 * 1))) (n - 2) (c - 2)).ownBlock = (Value.slice A n c).ownBlock by cases A <;> simp [Value.ownBlock, addr_add_block]).trans hoe
        have x1 := hx1.set (k := 0) (x := .slice (A.map (fun x => x.add (2 * 1))) (n - 2) (c - 2)) (by simp)
        have x2 := x1.set (k := 1) (x := .int .i64 0) (by simp)
        simp only [List.set_cons_succ, List.set_cons_zero] at x1 x2
        have o1 := hcut.store_far (a := ⟨d, 0, none⟩) hne5 (.slice (A.map (fun x => x.add (2 * 1))) (n - 2) (c - 2))
        have o2 := o1.store_far (a := ⟨d, 1, none⟩) hne5 (.int .i64 0)
        have u1 := grown_set t0 0 (.slice (A.map (fun x => x.add (2 * 1))) (n - 2) (c - 2))
        have u2 := grown_set u1 1 (.int .i64 0)
        have HI := hide (show ∀ W, Box W d [.slice (A.map (fun x => x.add (2 * 1))) (n - 2) (c - 2), .int .i64 0, .int .i64 lf, .int .i64 fl, .int .i64 er] → Ow W base 1 (.slice (A.map (fun x => x.add (2 * 1))) (n - 2) (c - 2)) (n - 2) (bcells (l.drop 2)) → IsDec W d base own ⟨l.drop 2, 0, lf, fl, er⟩ from fun W b o => ⟨_, c - 2, by dsimp only; rw [hLen]; exact b, by dsimp only; rw [hLen]; exact o, by dsimp only; rw [hLen]; exact ⟨hoe5, hod⟩, hB⟩)
        clear hcut hLen x1 o1 u1
        go_wp2_with fail
        go_ret
        obtain rfl := HF.out
        have e := HS.out
        rw [if_pos rfl] at e
        rw [e]
        exact ⟨rfl, HI.out _ x2 o2, u2⟩
end Go.Proofs.YtdpcncpfbaigeaaDoor
