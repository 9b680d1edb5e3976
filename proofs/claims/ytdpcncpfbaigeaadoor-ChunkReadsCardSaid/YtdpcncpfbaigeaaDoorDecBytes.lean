/- chunk.Decoder: bytes. -/
import Derived.Test.YtdpcncpfbaigeaaDoorDecLine
namespace Go.Proofs.YtdpcncpfbaigeaaDoor
open Go.RowKit
set_option linter.unusedVariables false
set_option linter.unusedSimpArgs false

set_option maxRecDepth 100000 in
set_option maxHeartbeats 3200000 in
theorem decbytes_any (d base : Nat) (own : Option Nat) (S : DS) (X : Nat) (w : World) (h : IsDec w d base own S) (hbase : base ≤ w.heap.size) (hn : S.inp.length ≤ 1000000000) (hl : S.left ≤ 9223372036854775807) :
    Calls Tryd.prog 36 #[.pointer (some ⟨d, 0, none⟩), .int .i64 X] w fun e w' => ∃ A' c', e = .returned (.tuple #[.slice A' (bytesK S X) c', .int .i64 (bytesE S X)]) ∧
      Rd w' w'.heap.size 1 A' (bytesK S X) (bcells (S.inp.take (bytesK S X))) ∧ IsDec w' d base own (bytesS S X) ∧ w.grownBy w' (some d) := by
  obtain ⟨l, st, lf, fl, er⟩ := S
  dsimp only at hn hl
  obtain ⟨K, hK⟩ : ∃ x, x = bytesK ⟨l, st, lf, fl, er⟩ X := ⟨_, rfl⟩
  obtain ⟨rE, hrE⟩ : ∃ x, x = bytesE ⟨l, st, lf, fl, er⟩ X := ⟨_, rfl⟩
  obtain ⟨rS, hrS⟩ : ∃ x, x = bytesS ⟨l, st, lf, fl, er⟩ X := ⟨_, rfl⟩
  have hE : rE = if K = 0 then 5 else 0 := by rw [hrE, hK]; rfl
  have hS : rS = if K = 0 then ⟨l, st, lf, fl, er⟩ else ⟨l.drop K, if lf = K then 2 else st, lf - K, fl, er⟩ := by rw [hrS, hK]; rfl
  rw [← hK, ← hrE, ← hrS]
  dsimp only
  obtain ⟨n, hnn⟩ : ∃ n, n = l.length := ⟨_, rfl⟩
  have hK2 : K = min X (min lf n) := by rw [hK, hnn]; unfold bytesK; dsimp only; omega
  clear hrE hrS hK
  have hstay := h
  obtain ⟨A, c, hx, ho, ⟨hoe, hod⟩, hB⟩ := h
  have hne := fun e => hod (hoe.symm.trans e)
  dsimp only at hx ho hne hoe
  have hnc : l.length ≤ c ∧ c ≤ maxLen := by
    obtain ⟨A', c', hv, h1, h2⟩ := ho.shape
    cases hv
    exact ⟨h1, h2⟩
  obtain ⟨hnc, hcm⟩ := hnc
  rw [← hnn] at hn hnc hx ho hne hoe
  obtain ⟨i0, hi0, hz0, hz1, hz2⟩ := info_parts infoU8b
  obtain ⟨k0, k1, k2, k3, k4⟩ := hx.five
  have hif : (if (n : Int) < if lf < X then (lf : Int) else X then (n : Int) else if lf < X then (lf : Int) else X) = K := by
    rw [hK2]; split <;> split <;> omega
  have hKn : K ≤ n := by omega
  have hKl : K ≤ lf := by omega
  have hKc : (K : Int) ≤ (c : Int) := by omega
  have HNN := hide hnn
  have HE := hide hE
  have HS := hide hS
  clear hK2 hnn hE hS
  go_enter Tryd.func36, Tryd.ntmps36
  go_wp2_with fail
  go_quiet (fail)
  have hst := hstay.drewN nq
  have t0 : w.grownBy (w.drewN nq) (some d) := grown_of_below (below_drewN (Below.refl _ _))
  have hx1 : Box (w.drewN nq) d [.slice A n c, .int .i64 st, .int .i64 lf, .int .i64 fl, .int .i64 er] := hx.below (below_drewN (Below.refl _ _))
  have ho1 : Ow (w.drewN nq) base 1 (.slice A n c) n (bcells l) := ho.below (below_drewN (Below.refl _ _))
  have z0 : base ≤ (w.drewN nq).heap.size := hbase
  generalize w.drewN nq = w1 at hst t0 hx1 ho1 z0 ⊢
  clear hstay hx ho k0 k1 k2 k3 k4 hif
  by_cases hK0 : K = 0
  · have HF := hide (show rE = 5 ∧ rS = ⟨l, st, lf, fl, er⟩ from ⟨by rw [HE.out, if_pos hK0], by rw [HS.out, if_pos hK0]⟩)
    subst hK0
    clear hx1 ho1
    go_wp2_with fail
    go_ret2
    obtain ⟨rfl, rfl⟩ := HF.out
    first | exact ⟨none, 0, rfl, Rd.nil_, hst, t0⟩ | exact ⟨none, ⟨0, rfl⟩, Rd.nil_, hst, t0⟩
  · have HF := hide (show rE = 0 ∧ rS = ⟨l.drop K, if lf = K then 2 else st, lf - K, fl, er⟩ from ⟨by rw [HE.out, if_neg hK0], by rw [HS.out, if_neg hK0]⟩)
    have i1 : ((K : Int) == 0) = false := by rw [beq_eq_false_iff_ne]; omega
    obtain ⟨k0, k1, k2, k3, k4⟩ := hx1.five
    have r1 := ho1.rd.front hKn
    rw [Nat.mul_one, bcells_take] at r1
    have hn1 := own_new w1 #[] 5 1 0 rfl (by simp [maxLen]) w1.heap.size (Nat.le_refl _)
    have ta1 : Below w1.heap.size w1 (w1.alloc (.cells #[] 5)) := (Below.refl _ _).alloc (Nat.le_refl _) _
    have r1' := r1.below ta1
    have hd1 : d < w1.heap.size := hx1.1
    clear hK0 hst
    go_upto_region 5 with (at_builtin; refine wpl_append _ rfl _ _ _ rfl w1.heap.size 5 i0 _ 1 1 Tryd.underlying26 hi0 hz0 hz1 hz2 rfl (by omega) _ _ _ rfl _ _ _ _ _ rfl hn1 r1' (bcells_one _) (by simp [maxLen]; omega) (by omega) (by simp) ?_; intro v2 w2 ho2 b2 _; obtain ⟨A2, c2, rfl, -⟩ := own_shape ho2)
    have hw2 := ta1.trans b2
    rw [Nat.zero_add, List.nil_append] at ho2
    have hx2 := hx1.below hw2
    have hi2 := ho1.below hw2
    have t2 := grown_trans t0 (grown_of_below hw2)
    have hd2 := hx2.1
    have o2 := Ow.of_row ho2
    have hne2 : (Value.slice A2 K c2).ownBlock ≠ some d := fun e => by have := (o2.lt d e).1; omega
    clear k0 k1 k2 k3 k4 hx1 ho1 hn1 ta1 r1' r1 b2 hw2 ho2
    obtain ⟨k0, k1, k2, k3, k4⟩ := hx2.five
    obtain ⟨f0, f1, f2, f3, f4⟩ := hx2.free5
    have hcut := hi2.cut (k := K) (m := n) hKn (Nat.le_refl _)
    have hLen : (l.drop K).length = n - K := by rw [List.length_drop, ← HNN.out]
    have hcc : ((bcells l).drop (K * 1)).take ((n - K) * 1) = bcells (l.drop K) := by
      rw [Nat.mul_one, Nat.mul_one, bcells_drop]; exact List.take_of_length_le (by rw [bcells_length, hLen]; exact Nat.le_refl _)
    rw [hcc] at hcut
    have hKn' : (K : Int) ≤ (n : Int) := by omega
    have hw1 : IntKind.i64.wrap ((lf : Int) - K) = ((lf - K : Nat) : Int) := by rw [IntKind.wrap_i64]; omega
    obtain ⟨L, hL⟩ : ∃ L, L = lf - K := ⟨_, rfl⟩
    have HF0 := hide (show L = 0 → rE = 0 ∧ rS = ⟨l.drop K, 2, L, fl, er⟩ from fun h => by
      obtain ⟨h1, h2⟩ := HF.out
      exact ⟨h1, by rw [h2, if_pos (by omega), ← hL]⟩)
    have HF1 := hide (show L ≠ 0 → rE = 0 ∧ rS = ⟨l.drop K, st, L, fl, er⟩ from fun h => by
      obtain ⟨h1, h2⟩ := HF.out
      exact ⟨h1, by rw [h2, if_neg (by omega), ← hL]⟩)
    rw [← hL] at hw1
    clear hcc hL HF
    by_cases hcK : c = K
    · rw [if_pos hcK, hcK, Nat.sub_self] at hcut
      rw [hcK] at hx2 k0 hKc hne hoe
      have hne5 : (Value.slice A (n - K) 0).ownBlock ≠ some d := by
        have : (Value.slice A (n - K) 0).ownBlock = (Value.slice A n K).ownBlock := by cases A <;> simp [Value.ownBlock, addr_add_block]
        rw [this]; exact hne
      have hoe5 : (Value.slice A (n - K) 0).ownBlock = own := (show (Value.slice A (n - K) 0).ownBlock = (Value.slice A n K).ownBlock by cases A <;> simp [Value.ownBlock, addr_add_block]).trans hoe
      have x1 := hx2.set (k := 0) (x := (Value.slice A (n - K) 0)) (by simp)
      have x2 := x1.set (k := 2) (x := .int .i64 L) (by simp)
      have x3 := x2.set (k := 1) (x := .int .i64 2) (by simp)
      simp only [List.set_cons_succ, List.set_cons_zero] at x1 x2 x3
      have o1 := hcut.store_far (a := ⟨d, 0, none⟩) hne5 (Value.slice A (n - K) 0)
      have p2 := o1.store_far (a := ⟨d, 2, none⟩) hne5 (.int .i64 L)
      have p3 := p2.store_far (a := ⟨d, 1, none⟩) hne5 (.int .i64 2)
      have s1 := o2.store_far (a := ⟨d, 0, none⟩) hne2 (Value.slice A (n - K) 0)
      have s2 := s1.store_far (a := ⟨d, 2, none⟩) hne2 (.int .i64 L)
      have s3 := s2.store_far (a := ⟨d, 1, none⟩) hne2 (.int .i64 2)
      have u1 := grown_set t2 0 (Value.slice A (n - K) 0)
      have u2 := grown_set u1 2 (.int .i64 L)
      have u3 := grown_set u2 1 (.int .i64 2)
      have HI := hide (show ∀ W (s : Nat), Box W d [(Value.slice A (n - K) 0), .int .i64 s, .int .i64 L, .int .i64 fl, .int .i64 er] → Ow W base 1 (Value.slice A (n - K) 0) (n - K) (bcells (l.drop K)) → IsDec W d base own ⟨l.drop K, s, L, fl, er⟩ from fun W s b o => ⟨_, _, by dsimp only; rw [hLen]; exact b, by dsimp only; rw [hLen]; exact o, by dsimp only; rw [hLen]; exact ⟨hoe5, hod⟩, hB⟩)
      clear hx2 hi2 hcut hLen x1 o1 s1 u1 o2 t2
      by_cases hL0 : L = 0
      · have i2 : ((L : Int) == 0) = true := by rw [beq_iff_eq]; omega
        have HF := hide (HF0.out hL0)
        clear hL0
        go_wp2_with fail
        go_ret2
        obtain ⟨rfl, rfl⟩ := HF.out
        first | exact ⟨A2, c2, rfl, s3.rd, HI.out _ 2 x3 p3, u3⟩ | exact ⟨A2, ⟨c2, rfl⟩, s3.rd, HI.out _ 2 x3 p3, u3⟩
      · have i2 : ((L : Int) == 0) = false := by rw [beq_eq_false_iff_ne]; omega
        have HF := hide (HF1.out hL0)
        clear hL0
        go_wp2_with fail
        go_ret2
        obtain ⟨rfl, rfl⟩ := HF.out
        first | exact ⟨A2, c2, rfl, s2.rd, HI.out _ st x2 p2, u2⟩ | exact ⟨A2, ⟨c2, rfl⟩, s2.rd, HI.out _ st x2 p2, u2⟩
    · rw [if_neg hcK] at hcut
      simp only [Nat.mul_one] at hcut
      have hne5 : (Value.slice (A.map (fun x => x.add K)) (n - K) (c - K)).ownBlock ≠ some d := by
        have : (Value.slice (A.map (fun x => x.add K)) (n - K) (c - K)).ownBlock = (Value.slice A n c).ownBlock := by cases A <;> simp [Value.ownBlock, addr_add_block]
        rw [this]; exact hne
      have hoe5 : (Value.slice (A.map (fun x => x.add K)) (n - K) (c - K)).ownBlock = own := (show (Value.slice (A.map (fun x => x.add K)) (n - K) (c - K)).ownBlock = (Value.slice A n c).ownBlock by cases A <;> simp [Value.ownBlock, addr_add_block]).trans hoe
      have x1 := hx2.set (k := 0) (x := (Value.slice (A.map (fun x => x.add K)) (n - K) (c - K))) (by simp)
      have x2 := x1.set (k := 2) (x := .int .i64 L) (by simp)
      have x3 := x2.set (k := 1) (x := .int .i64 2) (by simp)
      simp only [List.set_cons_succ, List.set_cons_zero] at x1 x2 x3
      have o1 := hcut.store_far (a := ⟨d, 0, none⟩) hne5 (Value.slice (A.map (fun x => x.add K)) (n - K) (c - K))
      have p2 := o1.store_far (a := ⟨d, 2, none⟩) hne5 (.int .i64 L)
      have p3 := p2.store_far (a := ⟨d, 1, none⟩) hne5 (.int .i64 2)
      have s1 := o2.store_far (a := ⟨d, 0, none⟩) hne2 (Value.slice (A.map (fun x => x.add K)) (n - K) (c - K))
      have s2 := s1.store_far (a := ⟨d, 2, none⟩) hne2 (.int .i64 L)
      have s3 := s2.store_far (a := ⟨d, 1, none⟩) hne2 (.int .i64 2)
      have u1 := grown_set t2 0 (Value.slice (A.map (fun x => x.add K)) (n - K) (c - K))
      have u2 := grown_set u1 2 (.int .i64 L)
      have u3 := grown_set u2 1 (.int .i64 2)
      have HI := hide (show ∀ W (s : Nat), Box W d [(Value.slice (A.map (fun x => x.add K)) (n - K) (c - K)), .int .i64 s, .int .i64 L, .int .i64 fl, .int .i64 er] → Ow W base 1 (Value.slice (A.map (fun x => x.add K)) (n - K) (c - K)) (n - K) (bcells (l.drop K)) → IsDec W d base own ⟨l.drop K, s, L, fl, er⟩ from fun W s b o => ⟨_, _, by dsimp only; rw [hLen]; exact b, by dsimp only; rw [hLen]; exact o, by dsimp only; rw [hLen]; exact ⟨hoe5, hod⟩, hB⟩)
      clear hx2 hi2 hcut hLen x1 o1 s1 u1 o2 t2
      by_cases hL0 : L = 0
      · have i2 : ((L : Int) == 0) = true := by rw [beq_iff_eq]; omega
        have HF := hide (HF0.out hL0)
        clear hL0
        go_wp2_with fail
        go_ret2
        obtain ⟨rfl, rfl⟩ := HF.out
        first | exact ⟨A2, c2, rfl, s3.rd, HI.out _ 2 x3 p3, u3⟩ | exact ⟨A2, ⟨c2, rfl⟩, s3.rd, HI.out _ 2 x3 p3, u3⟩
      · have i2 : ((L : Int) == 0) = false := by rw [beq_eq_false_iff_ne]; omega
        have HF := hide (HF1.out hL0)
        clear hL0
        go_wp2_with fail
        go_ret2
        obtain ⟨rfl, rfl⟩ := HF.out
        first | exact ⟨A2, c2, rfl, s2.rd, HI.out _ st x2 p2, u2⟩ | exact ⟨A2, ⟨c2, rfl⟩, s2.rd, HI.out _ st x2 p2, u2⟩
end Go.Proofs.YtdpcncpfbaigeaaDoor
