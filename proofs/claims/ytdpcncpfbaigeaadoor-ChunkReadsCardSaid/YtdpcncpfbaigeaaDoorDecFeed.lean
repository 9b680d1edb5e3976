/- chunk.Decoder.Feed, Rest. -/
import Derived.Test.YtdpcncpfbaigeaaDoorDecTake
namespace Go.Proofs.YtdpcncpfbaigeaaDoor
open Go.RowKit
set_option linter.unusedVariables false
set_option linter.unusedSimpArgs false

set_option maxRecDepth 100000 in
set_option maxHeartbeats 3200000 in
/-- More bytes. -/
theorem decfeed_any (d base : Nat) (own : Option Nat) (S : DS) (w : World) (h : IsDec w d base own S) (A' : Option Addr) (m c' B : Nat) (ys : List UInt8)
    (hy : Rd w B 1 A' m (bcells ys)) (hsz : S.inp.length + m ≤ 1000000000) (hbase : base ≤ w.heap.size) :
    Calls Tryd.prog 10 #[.pointer (some ⟨d, 0, none⟩), .slice A' m c'] w fun e w' => e = .returned (.tuple #[]) ∧ ∃ own', IsDec w' d base own' { S with inp := S.inp ++ ys } ∧ (∀ g, own' = some g → g < w'.heap.size) ∧ Below base w w' := by
  obtain ⟨A, c, hx, ho, ⟨rfl, hne⟩, hB⟩ := h
  obtain ⟨k0, k1, k2, k3, k4⟩ := hx.five
  obtain ⟨i0, hi0, hz0, hz1, hz2⟩ := info_parts infoU8b
  obtain ⟨f0, f1, f2, f3, f4⟩ := hx.free5
  have hbl : d < w.heap.size := hx.1
  obtain ⟨n, hn⟩ : ∃ n, n = S.inp.length := ⟨_, rfl⟩
  rw [← hn] at ho k0 hx hne hsz
  have HN := hide hn
  clear hn
  go_enter Tryd.func10, Tryd.ntmps10
  go_wp2_with (at_builtin; refine wpl_append_ow _ rfl _ _ _ rfl base 5 i0 _ 1 1 Tryd.underlying26 hi0 hz0 hz1 hz2 rfl (by omega) _ _ _ rfl _ _ _ _ _ rfl ho hy (bcells_one _) (by simp [maxLen]; omega) (by omega) hbase ?_; intro v1 w1 ho1 b1 g1 hv1; obtain ⟨A2, c2', rfl, -⟩ := Ow.shape ho1; have hx1 := hx.grown g1 hne; have c2 := hx1.five.1; have f21 := hx1.free5.1)
  rw [bcells_append] at ho1
  have hne2 : (Value.slice A2 (n + m) c2').ownBlock ≠ some d := by
    rcases hv1 with e | e
    · rw [e]; exact hne
    · exact fun e' => by have := e d e'; omega
  have hl : (S.inp ++ ys).length = n + m := by have := hy.1; rw [List.length_append, HN.out]; simp [bcells] at this; omega
  have h0 := hx1.set (k := 0) (x := .slice A2 (n + m) c2') (by simp)
  have h1 := ho1.store_far (a := ⟨d, 0, none⟩) hne2 (.slice A2 (n + m) c2')
  simp only [List.set_cons_zero] at h0
  go_end0
  refine ⟨rfl, _, ⟨A2, c2', by rw [hl]; exact h0, by rw [hl]; exact h1, ⟨by rw [hl], hne2⟩, hB⟩, fun g e => (h1.lt g e).2, b1.setCell hB _⟩
set_option maxRecDepth 100000 in
set_option maxHeartbeats 3200000 in
/-- What stands behind the end. -/
theorem decrest_done (d base : Nat) (own : Option Nat) (S : DS) (w : World) (h : IsDec w d base own S) (he : S.er = 8) :
    Calls Tryd.prog 13 #[.pointer (some ⟨d, 0, none⟩)] w fun e w' => ∃ A c, e = .returned (.slice A S.inp.length c) ∧ Rd w' w'.heap.size 1 A S.inp.length (bcells S.inp) ∧ IsDec w' d base none { S with inp := [] } ∧ w.grownBy w' (some d) := by
  obtain ⟨A, c, hx, ho, ⟨rfl, hne⟩, hB⟩ := h
  obtain ⟨k0, k1, k2, k3, k4⟩ := hx.five
  obtain ⟨f0, f1, f2, f3, f4⟩ := hx.free5
  rw [he] at k4
  have h0 := hx.set (k := 0) (x := .slice none 0 0) (by simp)
  have h1 := ho.store_far (a := ⟨d, 0, none⟩) hne (.slice none 0 0)
  have h2 := h1.rd
  simp only [List.set_cons_zero] at h0
  obtain ⟨n, hn⟩ : ∃ n, n = S.inp.length := ⟨_, rfl⟩
  rw [← hn] at k0 h2 ⊢
  have HH := hide h2
  clear hx ho h1 hn h2
  go_enter Tryd.func13, Tryd.ntmps13
  go_wp2
  go_ret
  refine ⟨A, c, rfl, ?_, ⟨none, 0, h0, Ow.nil_, ⟨rfl, by simp⟩, hB⟩, grown_set (World.grownBy.refl _ _) 0 _⟩
  exact HH.out
theorem decrest_not (d base : Nat) (own : Option Nat) (S : DS) (w : World) (h : IsDec w d base own S) (he : S.er ≠ 8) :
    Calls Tryd.prog 13 #[.pointer (some ⟨d, 0, none⟩)] w fun e w' => e = .returned (.slice none 0 0) ∧ w' = w := by
  obtain ⟨k4, f4, hd⟩ := h.er_cell
  obtain ⟨er, her⟩ : ∃ e, e = S.er := ⟨_, rfl⟩
  rw [← her] at k4 he
  have i8 : ((er : Int) != 8) = true := by simp; omega
  have i8' : ((er : Int) == 8) = false := by rw [beq_eq_false_iff_ne]; omega
  clear her he h
  go_enter Tryd.func13, Tryd.ntmps13
  go_wp2
  go_ret
  exact ⟨rfl, rfl⟩
end Go.Proofs.YtdpcncpfbaigeaaDoor
