/- frame.Body of kinds that are not chunked: Take, Rest. -/
import Derived.Test.YtdpcncpfbaigeaaDoorBody
namespace Go.Proofs.YtdpcncpfbaigeaaDoor
open Go.RowKit

theorem IsBody.drewN {b base : Nat} {kind left : Int} {p : Value} {n : Nat} {bs : List UInt8} {ended : Bool} {w : World} (h : IsBody w b base kind left p n bs ended) (k : Nat) : IsBody (w.drewN k) b base kind left p n bs ended := h.below ((below_drewN (k := k) (Below.refl _ _)))
def takeN (kind left : Int) (n : Nat) (x : Int) : Nat := (min (max x 0) (min (mostB kind left n) n)).toNat
def takeLeft (kind left : Int) (k : Nat) : Int := if kind = 1 then left - k else left
def takeE (kind left : Int) (n : Nat) (x : Int) (ended : Bool) : Nat :=
  if (takeN kind left n x : Int) = max x 0 then 0 else
  if 0 < takeN kind left n x ∨ overB kind (takeLeft kind left (takeN kind left n x)) (n - takeN kind left n x) ended = false then 5 else 8
set_option maxRecDepth 100000 in
set_option maxHeartbeats 3200000 in
/-- The next bytes. -/
theorem bodytake_any (b base : Nat) (kind left : Int) (p : Value) (n : Nat) (bs : List UInt8) (ended : Bool) (x : Int) (w : World) (h : IsBody w b base kind left p n bs ended) (hk : kind ≠ 2) (hl : 0 ≤ left) (hl2 : left ≤ 9223372036854775807) (hsz : n ≤ 1000000000) (hbase : base ≤ w.heap.size) :
    Calls Tryd.prog 22 #[.pointer (some ⟨b, 0, none⟩), .int .i64 x] w fun e w' => ∃ A c, e = .returned (.tuple #[.slice A (if takeE kind left n x ended = 8 then 0 else takeN kind left n x) c, .int .i64 (takeE kind left n x ended)]) ∧
      Rd w' w'.heap.size 1 A (if takeE kind left n x ended = 8 then 0 else takeN kind left n x) (bcells (bs.take (if takeE kind left n x ended = 8 then 0 else takeN kind left n x))) ∧
      IsBody w' b base kind (takeLeft kind left (takeN kind left n x)) p (n - takeN kind left n x) (bs.drop (takeN kind left n x)) ended ∧ Below base w w' := by
  have hlen := h.len
  have hm := fun k => most_any b base kind left p n bs ended (w.drewN k) (h.drewN k)
  obtain ⟨X, hX⟩ : ∃ X : Nat, max x 0 = X := ⟨(max x 0).toNat, by omega⟩
  obtain ⟨M, hM⟩ : ∃ M : Nat, mostB kind left n = M := by
    have h0 : 0 ≤ mostB kind left n := by
      unfold mostB
      split
      · exact hl
      · split <;> omega
    exact ⟨(mostB kind left n).toNat, by omega⟩
  obtain ⟨K, hK⟩ : ∃ K : Nat, K = takeN kind left n x := ⟨_, rfl⟩
  have hK2 : K = min X (min M n) := by rw [hK]; unfold takeN; rw [hX, hM]; omega
  have hE : takeE kind left n x ended = if K = X then 0 else if 0 < K ∨ overB kind (takeLeft kind left K) (n - K) ended = false then 5 else 8 := by
    unfold takeE
    rw [← hK, hX]
    by_cases h : K = X
    · rw [if_pos h, if_pos (by omega)]
    · rw [if_neg h, if_neg (by omega)]
  obtain ⟨E, hEE⟩ : ∃ E, E = takeE kind left n x ended := ⟨_, rfl⟩
  rw [← hEE] at hE ⊢
  rw [← hK]
  obtain ⟨L, hL⟩ : ∃ L, L = takeLeft kind left K := ⟨_, rfl⟩
  rw [← hL] at hE ⊢
  have HL := hide hL
  clear hL
  obtain ⟨N, hN⟩ : ∃ N, N = if E = 8 then 0 else K := ⟨_, rfl⟩
  rw [← hN]
  have HN := hide hN
  clear hN
  simp only [hM] at hm
  have hkl : kind = 1 → left = M := fun e => by rw [← hM]; unfold mostB; rw [if_pos e]
  obtain ⟨A, c, hx, ho, hne, hB⟩ := h
  obtain ⟨k0, k1, k2, k3, k4⟩ := hx.five
  obtain ⟨i0, hi0, hz0, hz1, hz2⟩ := info_parts infoU8b
  have hk' : (kind == 2) = false := by simpa using hk
  have hbl : b < w.heap.size := hx.1
  have hif : (if (n : Int) < if M < X then (M : Int) else X then (n : Int) else if M < X then (M : Int) else X) = K := by
    rw [hK2]; split <;> split <;> omega
  have hnc : n ≤ c ∧ c ≤ maxLen := by obtain ⟨A', c', hv, h1, h2⟩ := ho.shape; cases hv; exact ⟨h1, h2⟩
  obtain ⟨hnc, hcm⟩ := hnc
  have hKn : K ≤ n := by omega
  have hKM : K ≤ M := by omega
  have hKc : (K : Int) ≤ (c : Int) := by omega
  clear hK hK2 hM hk hEE
  go_enter Tryd.func22, Tryd.ntmps22
  go_wp2_with fail
  go_quiet ((go_at_call 33; exact Calls.quiet_of_same ((hm _).mono fun _ _ h => ⟨h.1, h.2.symm⟩)))
  have hw : Below w.heap.size w (w.drewN nq) := below_drewN (Below.refl _ _)
  generalize w.drewN nq = w1 at hw ⊢
  have t1 : Below base w w1 := hw.mono hbase
  have hx1 := hx.below hw
  have ho1 := ho.below hw
  obtain ⟨k0', k1', k2', k3', k4'⟩ := hx1.five
  have hbl1 : b < w1.heap.size := hx1.1
  clear k0 k1 k2 k3 k4 hx ho hm hw hif
  have r1 := (ho1.rd.front hKn)
  rw [Nat.mul_one, bcells_take] at r1
  have hn1 := own_new w1 #[] 5 1 0 rfl (by simp [maxLen]) w1.heap.size (Nat.le_refl _)
  have ta1 : Below w1.heap.size w1 (w1.alloc (.cells #[] 5)) := (Below.refl _ _).alloc (Nat.le_refl _) _
  have r1' := r1.below ta1
  have t1z := t1.size
  go_upto_region 8 with (at_builtin; refine wpl_append _ rfl _ _ _ rfl w1.heap.size 5 i0 _ 1 1 Tryd.underlying26 hi0 hz0 hz1 hz2 rfl (by omega) _ _ _ rfl _ _ _ _ _ rfl hn1 r1' (bcells_one _) (by simp [maxLen]; omega) (by omega) (by simp) ?_; intro v2 w2 ho2 b2 _; obtain ⟨A2, c2, rfl, -⟩ := own_shape ho2)
  have hw2 := ta1.trans b2
  rw [Nat.zero_add, List.nil_append] at ho2
  have hx2 := hx1.below hw2
  have hi2 := ho1.below hw2
  have t2 := t1.trans (hw2.mono (Nat.le_trans hbase t1z))
  have o2 := Ow.of_row ho2
  have hne2 : (Value.slice A2 K c2).ownBlock ≠ some b := fun e => by have := (o2.lt b e).1; omega
  obtain ⟨k0, k1, k2, k3, k4⟩ := hx2.five
  obtain ⟨f0, f1, f2, f3, f4⟩ := hx2.free5
  have hbl2 := hx2.1
  have t2z := t2.size
  have hs2 := hw2.size
  clear k0' k1' k2' k3' k4' hx1 ho1 hn1 ta1 r1' r1 b2 hw2 ho2
  have rc := hi2.rd.cut (cap := c) hKn (Nat.le_refl _) hnc
  have hcut : ((bcells bs).drop (K * 1)).take ((n - K) * 1) = bcells (bs.drop K) := by
    rw [Nat.mul_one, Nat.mul_one, bcells_drop]; exact List.take_of_length_le (by rw [bcells_length, List.length_drop]; omega)
  rw [hcut] at rc
  have hn2 := own_new w2 #[] 5 1 0 rfl (by simp [maxLen]) w2.heap.size (Nat.le_refl _)
  have ta2 : Below w2.heap.size w2 (w2.alloc (.cells #[] 5)) := (Below.refl _ _).alloc (Nat.le_refl _) _
  have rc' := rc.below ta2
  by_cases hcK : c = K
  · rw [if_pos hcK] at rc rc'
    go_upto_region 9 with (at_builtin; refine wpl_append _ rfl _ _ _ rfl w2.heap.size 5 i0 _ 1 1 Tryd.underlying26 hi0 hz0 hz1 hz2 rfl (by omega) _ _ _ rfl _ _ _ _ _ rfl hn2 rc' (bcells_one _) (by simp [maxLen]; omega) (by omega) (by simp) ?_; intro v3 w3 ho3 b3 _; obtain ⟨A4, c4, rfl, -⟩ := own_shape ho3; have hx3' := hx2.below (ta2.trans b3); have k23 := hx3'.five.2.2.1; have f23 := hx3'.free5.2.2.1)
    rw [Nat.zero_add, List.nil_append] at ho3
    have hb3 := ta2.trans b3
    have hx3 := hx3'.set (k := 2) (x := .slice A4 (n - K) c4) (by simp)
    have hne4 : (Value.slice A4 (n - K) c4).ownBlock ≠ some b := fun e => by have := (ho3.lt b e).1; omega
    have o4 := ((Ow.of_row ho3).base_ (base' := base) (Nat.le_trans hbase (Nat.le_trans t1z hs2))).store_far (a := ⟨b, 2, none⟩) hne4 (.slice A4 (n - K) c4)
    have o3 := (o2.below hb3).store_far (a := ⟨b, 2, none⟩) hne2 (.slice A4 (n - K) c4)
    have t4 := (t2.trans (hb3.mono (Nat.le_trans hbase (Nat.le_trans t1z hs2)))).setCell (p := ⟨b, 2, none⟩) hB (.slice A4 (n - K) c4)
    simp only [List.set_cons_succ, List.set_cons_zero] at hx3
    have e0 : IntKind.i64.wrap ((0 : Int) + ((n : Int) - K)) = ((n - K : Nat) : Int) := by rw [IntKind.wrap_i64]; omega
    clear hx3' k23 f23 ho3 hb3 b3 rc rc' o2 hx2 hi2 k0 k1 k2 k3 k4 f0 f1 f2 f3 f4 hn2 ta2 t2
    generalize w3.setCell _ _ = w4 at hx3 o4 o3 t4 ⊢
    obtain ⟨k0, k1, k2, k3, k4⟩ := hx3.five
    obtain ⟨f0, f1, f2, f3, f4⟩ := hx3.free5
    by_cases h1 : kind = 1
    · subst h1
      obtain rfl := hkl rfl
      have e1 : IntKind.i64.wrap ((M : Int) - K) = (M : Int) - K := by rw [IntKind.wrap_i64]; omega
      obtain rfl : L = (M : Int) - K := HL.out
      have hx5 := hx3.set (k := 1) (x := .int .i64 ((M : Int) - K)) (by simp)
      simp only [List.set_cons_succ, List.set_cons_zero] at hx5
      have o5 := o4.store_far (a := ⟨b, 1, none⟩) hne4 (.int .i64 ((M : Int) - K))
      have o6 := o3.store_far (a := ⟨b, 1, none⟩) hne2 (.int .i64 ((M : Int) - K))
      have t5 := t4.setCell (p := ⟨b, 1, none⟩) hB (.int .i64 ((M : Int) - K))
      go_upto_region 11 with (fail)
      generalize w4.setCell _ _ = w5 at hx5 o5 o6 t5 ⊢
      clear hx3 o4 o3 t4 k0 k1 k2 k3 k4 f0 f1 f2 f3 f4
      by_cases hKX : K = X
      · have hE0 := hide (show E = 0 by rw [hE, if_pos hKX])
        have hKX' : ((K : Int) == X) = true := by rw [beq_iff_eq]; omega
        clear hKX hE
        go_wp2_with fail
        go_ret2
        obtain rfl : N = K := by rw [HN.out, hE0.out]; rfl
        obtain rfl := hE0.out
        first | exact ⟨A2, c2, rfl, o6.rd, ⟨A4, c4, hx5, o5, hne4, hB⟩, t5⟩ | exact ⟨A2, ⟨c2, rfl⟩, o6.rd, ⟨A4, c4, hx5, o5, hne4, hB⟩, t5⟩
      · have hKX' : ((K : Int) == X) = false := by rw [beq_eq_false_iff_ne]; omega
        by_cases hK0 : 0 < K
        · have hE5 := hide (show E = 5 by rw [hE, if_neg hKX, if_pos (.inl hK0)])
          have hK0' : (0 : Int) < K := by omega
          clear hKX hE hK0
          go_wp2_with fail
          go_ret2
          obtain rfl : N = K := by rw [HN.out, hE5.out]; rfl
          obtain rfl := hE5.out
          first | exact ⟨A2, c2, rfl, o6.rd, ⟨A4, c4, hx5, o5, hne4, hB⟩, t5⟩ | exact ⟨A2, ⟨c2, rfl⟩, o6.rd, ⟨A4, c4, hx5, o5, hne4, hB⟩, t5⟩
        · have hK0' : ¬ (0 : Int) < K := by omega
          have hov := over_any b base 1 ((M : Int) - K) p (n - K) (bs.drop K) ended w5 ⟨A4, c4, hx5, o5, hne4, hB⟩
          rcases hob : overB 1 ((M : Int) - K) (n - K) ended with _ | _
          · have hE5 := hide (show E = 5 by rw [hE, if_neg hKX, if_pos (.inr hob)])
            have hK00 := hide (show K = 0 by omega)
            rw [hob] at hov
            clear hob hE hKX hK0
            go_wp2_with fail
            refine hov.mono ?_
            rintro e w6 ⟨rfl, rfl⟩
            go_wp2_with fail
            go_ret2
            obtain rfl : N = 0 := by rw [HN.out, hE5.out, hK00.out]; rfl
            obtain rfl := hE5.out
            first | exact ⟨A2, c2, rfl, Rd.nil_, ⟨A4, c4, hx5, o5, hne4, hB⟩, t5⟩ | exact ⟨A2, ⟨c2, rfl⟩, Rd.nil_, ⟨A4, c4, hx5, o5, hne4, hB⟩, t5⟩
          · have hE8 := hide (show E = 8 by rw [hE, if_neg hKX, if_neg (fun h => h.elim hK0 (fun h => by rw [hob] at h; cases h))])
            rw [hob] at hov
            clear hob hE hKX hK0
            go_wp2_with fail
            refine hov.mono ?_
            rintro e w6 ⟨rfl, rfl⟩
            go_wp2_with fail
            go_ret2
            obtain rfl : N = 0 := by rw [HN.out, hE8.out]; rfl
            obtain rfl := hE8.out
            first | exact ⟨none, 0, rfl, Rd.nil_, ⟨A4, c4, hx5, o5, hne4, hB⟩, t5⟩ | exact ⟨none, ⟨0, rfl⟩, Rd.nil_, ⟨A4, c4, hx5, o5, hne4, hB⟩, t5⟩
    · have h1' : (kind == 1) = false := by simpa using h1
      obtain rfl : L = left := by rw [HL.out]; unfold takeLeft; rw [if_neg h1]
      clear h1
      by_cases hKX : K = X
      · have hE0 := hide (show E = 0 by rw [hE, if_pos hKX])
        have hKX' : ((K : Int) == X) = true := by rw [beq_iff_eq]; omega
        clear hKX hE
        go_wp2_with fail
        go_ret2
        obtain rfl : N = K := by rw [HN.out, hE0.out]; rfl
        obtain rfl := hE0.out
        first | exact ⟨A2, c2, rfl, o3.rd, ⟨A4, c4, hx3, o4, hne4, hB⟩, t4⟩ | exact ⟨A2, ⟨c2, rfl⟩, o3.rd, ⟨A4, c4, hx3, o4, hne4, hB⟩, t4⟩
      · have hKX' : ((K : Int) == X) = false := by rw [beq_eq_false_iff_ne]; omega
        by_cases hK0 : 0 < K
        · have hE5 := hide (show E = 5 by rw [hE, if_neg hKX, if_pos (.inl hK0)])
          have hK0' : (0 : Int) < K := by omega
          clear hKX hE hK0
          go_wp2_with fail
          go_ret2
          obtain rfl : N = K := by rw [HN.out, hE5.out]; rfl
          obtain rfl := hE5.out
          first | exact ⟨A2, c2, rfl, o3.rd, ⟨A4, c4, hx3, o4, hne4, hB⟩, t4⟩ | exact ⟨A2, ⟨c2, rfl⟩, o3.rd, ⟨A4, c4, hx3, o4, hne4, hB⟩, t4⟩
        · have hK0' : ¬ (0 : Int) < K := by omega
          have hov := over_any b base kind L p (n - K) (bs.drop K) ended w4 ⟨A4, c4, hx3, o4, hne4, hB⟩
          rcases hob : overB kind L (n - K) ended with _ | _
          · have hE5 := hide (show E = 5 by rw [hE, if_neg hKX, if_pos (.inr hob)])
            have hK00 := hide (show K = 0 by omega)
            rw [hob] at hov
            clear hob hE hKX hK0
            go_wp2_with fail
            refine hov.mono ?_
            rintro e w5 ⟨rfl, rfl⟩
            go_wp2_with fail
            go_ret2
            obtain rfl : N = 0 := by rw [HN.out, hE5.out, hK00.out]; rfl
            obtain rfl := hE5.out
            first | exact ⟨A2, c2, rfl, Rd.nil_, ⟨A4, c4, hx3, o4, hne4, hB⟩, t4⟩ | exact ⟨A2, ⟨c2, rfl⟩, Rd.nil_, ⟨A4, c4, hx3, o4, hne4, hB⟩, t4⟩
          · have hE8 := hide (show E = 8 by rw [hE, if_neg hKX, if_neg (fun h => h.elim hK0 (fun h => by rw [hob] at h; cases h))])
            rw [hob] at hov
            clear hob hE hKX hK0
            go_wp2_with fail
            refine hov.mono ?_
            rintro e w5 ⟨rfl, rfl⟩
            go_wp2_with fail
            go_ret2
            obtain rfl : N = 0 := by rw [HN.out, hE8.out]; rfl
            obtain rfl := hE8.out
            first | exact ⟨none, 0, rfl, Rd.nil_, ⟨A4, c4, hx3, o4, hne4, hB⟩, t4⟩ | exact ⟨none, ⟨0, rfl⟩, Rd.nil_, ⟨A4, c4, hx3, o4, hne4, hB⟩, t4⟩
  · rw [if_neg hcK] at rc rc'
    simp only [Nat.mul_one] at rc rc'
    go_upto_region 9 with (at_builtin; refine wpl_append _ rfl _ _ _ rfl w2.heap.size 5 i0 _ 1 1 Tryd.underlying26 hi0 hz0 hz1 hz2 rfl (by omega) _ _ _ rfl _ _ _ _ _ rfl hn2 rc' (bcells_one _) (by simp [maxLen]; omega) (by omega) (by simp) ?_; intro v3 w3 ho3 b3 _; obtain ⟨A4, c4, rfl, -⟩ := own_shape ho3; have hx3' := hx2.below (ta2.trans b3); have k23 := hx3'.five.2.2.1; have f23 := hx3'.free5.2.2.1)
    rw [Nat.zero_add, List.nil_append] at ho3
    have hb3 := ta2.trans b3
    have hx3 := hx3'.set (k := 2) (x := .slice A4 (n - K) c4) (by simp)
    have hne4 : (Value.slice A4 (n - K) c4).ownBlock ≠ some b := fun e => by have := (ho3.lt b e).1; omega
    have o4 := ((Ow.of_row ho3).base_ (base' := base) (Nat.le_trans hbase (Nat.le_trans t1z hs2))).store_far (a := ⟨b, 2, none⟩) hne4 (.slice A4 (n - K) c4)
    have o3 := (o2.below hb3).store_far (a := ⟨b, 2, none⟩) hne2 (.slice A4 (n - K) c4)
    have t4 := (t2.trans (hb3.mono (Nat.le_trans hbase (Nat.le_trans t1z hs2)))).setCell (p := ⟨b, 2, none⟩) hB (.slice A4 (n - K) c4)
    simp only [List.set_cons_succ, List.set_cons_zero] at hx3
    have e0 : IntKind.i64.wrap ((0 : Int) + ((n : Int) - K)) = ((n - K : Nat) : Int) := by rw [IntKind.wrap_i64]; omega
    clear hx3' k23 f23 ho3 hb3 b3 rc rc' o2 hx2 hi2 k0 k1 k2 k3 k4 f0 f1 f2 f3 f4 hn2 ta2 t2
    generalize w3.setCell _ _ = w4 at hx3 o4 o3 t4 ⊢
    obtain ⟨k0, k1, k2, k3, k4⟩ := hx3.five
    obtain ⟨f0, f1, f2, f3, f4⟩ := hx3.free5
    by_cases h1 : kind = 1
    · subst h1
      obtain rfl := hkl rfl
      have e1 : IntKind.i64.wrap ((M : Int) - K) = (M : Int) - K := by rw [IntKind.wrap_i64]; omega
      obtain rfl : L = (M : Int) - K := HL.out
      have hx5 := hx3.set (k := 1) (x := .int .i64 ((M : Int) - K)) (by simp)
      simp only [List.set_cons_succ, List.set_cons_zero] at hx5
      have o5 := o4.store_far (a := ⟨b, 1, none⟩) hne4 (.int .i64 ((M : Int) - K))
      have o6 := o3.store_far (a := ⟨b, 1, none⟩) hne2 (.int .i64 ((M : Int) - K))
      have t5 := t4.setCell (p := ⟨b, 1, none⟩) hB (.int .i64 ((M : Int) - K))
      go_upto_region 11 with (fail)
      generalize w4.setCell _ _ = w5 at hx5 o5 o6 t5 ⊢
      clear hx3 o4 o3 t4 k0 k1 k2 k3 k4 f0 f1 f2 f3 f4
      by_cases hKX : K = X
      · have hE0 := hide (show E = 0 by rw [hE, if_pos hKX])
        have hKX' : ((K : Int) == X) = true := by rw [beq_iff_eq]; omega
        clear hKX hE
        go_wp2_with fail
        go_ret2
        obtain rfl : N = K := by rw [HN.out, hE0.out]; rfl
        obtain rfl := hE0.out
        first | exact ⟨A2, c2, rfl, o6.rd, ⟨A4, c4, hx5, o5, hne4, hB⟩, t5⟩ | exact ⟨A2, ⟨c2, rfl⟩, o6.rd, ⟨A4, c4, hx5, o5, hne4, hB⟩, t5⟩
      · have hKX' : ((K : Int) == X) = false := by rw [beq_eq_false_iff_ne]; omega
        by_cases hK0 : 0 < K
        · have hE5 := hide (show E = 5 by rw [hE, if_neg hKX, if_pos (.inl hK0)])
          have hK0' : (0 : Int) < K := by omega
          clear hKX hE hK0
          go_wp2_with fail
          go_ret2
          obtain rfl : N = K := by rw [HN.out, hE5.out]; rfl
          obtain rfl := hE5.out
          first | exact ⟨A2, c2, rfl, o6.rd, ⟨A4, c4, hx5, o5, hne4, hB⟩, t5⟩ | exact ⟨A2, ⟨c2, rfl⟩, o6.rd, ⟨A4, c4, hx5, o5, hne4, hB⟩, t5⟩
        · have hK0' : ¬ (0 : Int) < K := by omega
          have hov := over_any b base 1 ((M : Int) - K) p (n - K) (bs.drop K) ended w5 ⟨A4, c4, hx5, o5, hne4, hB⟩
          rcases hob : overB 1 ((M : Int) - K) (n - K) ended with _ | _
          · have hE5 := hide (show E = 5 by rw [hE, if_neg hKX, if_pos (.inr hob)])
            have hK00 := hide (show K = 0 by omega)
            rw [hob] at hov
            clear hob hE hKX hK0
            go_wp2_with fail
            refine hov.mono ?_
            rintro e w6 ⟨rfl, rfl⟩
            go_wp2_with fail
            go_ret2
            obtain rfl : N = 0 := by rw [HN.out, hE5.out, hK00.out]; rfl
            obtain rfl := hE5.out
            first | exact ⟨A2, c2, rfl, Rd.nil_, ⟨A4, c4, hx5, o5, hne4, hB⟩, t5⟩ | exact ⟨A2, ⟨c2, rfl⟩, Rd.nil_, ⟨A4, c4, hx5, o5, hne4, hB⟩, t5⟩
          · have hE8 := hide (show E = 8 by rw [hE, if_neg hKX, if_neg (fun h => h.elim hK0 (fun h => by rw [hob] at h; cases h))])
            rw [hob] at hov
            clear hob hE hKX hK0
            go_wp2_with fail
            refine hov.mono ?_
            rintro e w6 ⟨rfl, rfl⟩
            go_wp2_with fail
            go_ret2
            obtain rfl : N = 0 := by rw [HN.out, hE8.out]; rfl
            obtain rfl := hE8.out
            first | exact ⟨none, 0, rfl, Rd.nil_, ⟨A4, c4, hx5, o5, hne4, hB⟩, t5⟩ | exact ⟨none, ⟨0, rfl⟩, Rd.nil_, ⟨A4, c4, hx5, o5, hne4, hB⟩, t5⟩
    · have h1' : (kind == 1) = false := by simpa using h1
      obtain rfl : L = left := by rw [HL.out]; unfold takeLeft; rw [if_neg h1]
      clear h1
      by_cases hKX : K = X
      · have hE0 := hide (show E = 0 by rw [hE, if_pos hKX])
        have hKX' : ((K : Int) == X) = true := by rw [beq_iff_eq]; omega
        clear hKX hE
        go_wp2_with fail
        go_ret2
        obtain rfl : N = K := by rw [HN.out, hE0.out]; rfl
        obtain rfl := hE0.out
        first | exact ⟨A2, c2, rfl, o3.rd, ⟨A4, c4, hx3, o4, hne4, hB⟩, t4⟩ | exact ⟨A2, ⟨c2, rfl⟩, o3.rd, ⟨A4, c4, hx3, o4, hne4, hB⟩, t4⟩
      · have hKX' : ((K : Int) == X) = false := by rw [beq_eq_false_iff_ne]; omega
        by_cases hK0 : 0 < K
        · have hE5 := hide (show E = 5 by rw [hE, if_neg hKX, if_pos (.inl hK0)])
          have hK0' : (0 : Int) < K := by omega
          clear hKX hE hK0
          go_wp2_with fail
          go_ret2
          obtain rfl : N = K := by rw [HN.out, hE5.out]; rfl
          obtain rfl := hE5.out
          first | exact ⟨A2, c2, rfl, o3.rd, ⟨A4, c4, hx3, o4, hne4, hB⟩, t4⟩ | exact ⟨A2, ⟨c2, rfl⟩, o3.rd, ⟨A4, c4, hx3, o4, hne4, hB⟩, t4⟩
        · have hK0' : ¬ (0 : Int) < K := by omega
          have hov := over_any b base kind L p (n - K) (bs.drop K) ended w4 ⟨A4, c4, hx3, o4, hne4, hB⟩
          rcases hob : overB kind L (n - K) ended with _ | _
          · have hE5 := hide (show E = 5 by rw [hE, if_neg hKX, if_pos (.inr hob)])
            have hK00 := hide (show K = 0 by omega)
            rw [hob] at hov
            clear hob hE hKX hK0
            go_wp2_with fail
            refine hov.mono ?_
            rintro e w5 ⟨rfl, rfl⟩
            go_wp2_with fail
            go_ret2
            obtain rfl : N = 0 := by rw [HN.out, hE5.out, hK00.out]; rfl
            obtain rfl := hE5.out
            first | exact ⟨A2, c2, rfl, Rd.nil_, ⟨A4, c4, hx3, o4, hne4, hB⟩, t4⟩ | exact ⟨A2, ⟨c2, rfl⟩, Rd.nil_, ⟨A4, c4, hx3, o4, hne4, hB⟩, t4⟩
          · have hE8 := hide (show E = 8 by rw [hE, if_neg hKX, if_neg (fun h => h.elim hK0 (fun h => by rw [hob] at h; cases h))])
            rw [hob] at hov
            clear hob hE hKX hK0
            go_wp2_with fail
            refine hov.mono ?_
            rintro e w5 ⟨rfl, rfl⟩
            go_wp2_with fail
            go_ret2
            obtain rfl : N = 0 := by rw [HN.out, hE8.out]; rfl
            obtain rfl := hE8.out
            first | exact ⟨none, 0, rfl, Rd.nil_, ⟨A4, c4, hx3, o4, hne4, hB⟩, t4⟩ | exact ⟨none, ⟨0, rfl⟩, Rd.nil_, ⟨A4, c4, hx3, o4, hne4, hB⟩, t4⟩
end Go.Proofs.YtdpcncpfbaigeaaDoor
