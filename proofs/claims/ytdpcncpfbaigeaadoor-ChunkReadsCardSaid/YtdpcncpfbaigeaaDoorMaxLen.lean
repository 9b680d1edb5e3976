/- The cell of internal/bytealg.MaxLen; the first feeding of a decoder. -/
import Derived.Test.YtdpcncpfbaigeaaDoorDecFeed
import Derived.Test.YtdpcncpfbaigeaaDoorFrame
namespace Go.Proofs.YtdpcncpfbaigeaaDoor
open Go.RowKit
set_option linter.unusedVariables false
set_option linter.unusedSimpArgs false

theorem maxLen_cell (w : World) (h : w.ShapedOpen Tryd.prog) : ∃ m, w.cell? ⟨1, 0, none⟩ = some (.int .i64 m) :=
  cell_of_shapedOpen_int (zero := #[.int .i64 0]) (t := 3) h (of_decide_eq_true (by kernel_rfl)) (by kernel_rfl) rfl (by kernel_rfl) (by kernel_rfl) Tryd.underlying3
theorem dec_new {w w' : World} (h : Box w' w.heap.size [.slice none 0 0, .int .i64 0, .int .i64 0, .int .i64 0, .int .i64 0]) (base : Nat) (hb : base ≤ w.heap.size) : IsDec w' w.heap.size base none ⟨[], 0, 0, 0, 0⟩ :=
  ⟨none, 0, h, Ow.nil_, ⟨rfl, by simp⟩, hb⟩
set_option maxRecDepth 100000 in
set_option maxHeartbeats 3200000 in
/-- The first bytes. -/
theorem decfeed0_any (d base : Nat) (S : DS) (w : World) (h : IsDec w d base none S) (hS : S.inp = []) (A' : Option Addr) (m c' B : Nat) (ys : List UInt8)
    (hy : Rd w B 1 A' m (bcells ys)) (hsz : m ≤ 1000000000) (hbase : base ≤ w.heap.size) :
    Calls Tryd.prog 10 #[.pointer (some ⟨d, 0, none⟩), .slice A' m c'] w fun e w' => e = .returned (.tuple #[]) ∧ ∃ own', IsDec w' d base own' { S with inp := ys } ∧ (∀ g, own' = some g → w.heap.size ≤ g ∧ g < w'.heap.size) ∧ w.grownBy w' (some d) := by
  obtain ⟨A, c, hx, ho, ⟨hrr, hne⟩, hB⟩ := h
  obtain ⟨k0, k1, k2, k3, k4⟩ := hx.five
  obtain ⟨i0, hi0, hz0, hz1, hz2⟩ := info_parts infoU8b
  obtain ⟨f0, f1, f2, f3, f4⟩ := hx.free5
  have hbl : d < w.heap.size := hx.1
  have hA : A = none := by
    cases A with
    | none => rfl
    | some a => cases hrr
  subst hA
  obtain ⟨rfl, hn0⟩ := ho.noneCap
  rw [hS] at ho k0 hx
  rw [List.length_nil] at ho k0 hx
  go_enter Tryd.func10, Tryd.ntmps10
  go_wp2_with (at_builtin; refine wpl_append_ow _ rfl _ _ _ rfl base 5 i0 _ 1 1 Tryd.underlying26 hi0 hz0 hz1 hz2 rfl (by omega) _ _ _ rfl _ _ _ _ _ rfl ho hy (bcells_one _) (by simp [maxLen]; omega) (by omega) hbase ?_; intro v1 w1 ho1 b1 g1 hv1; obtain ⟨A2, c2', rfl, -⟩ := Ow.shape ho1; have g2 : w.grownBy w1 none := g1; have hx1 := hx.grown g2 (by simp); have c2 := hx1.five.1; have f21 := hx1.free5.1)
  rw [bcells_append] at ho1
  have hne2 : (Value.slice A2 (0 + m) c2').ownBlock ≠ some d := by
    have hv2 : (Value.slice A2 (0 + m) c2').ownBlock = none ∨ ∀ g : Nat, (Value.slice A2 (0 + m) c2').ownBlock = some g → w.heap.size ≤ g := hv1
    rcases hv2 with e | e
    · rw [e]; simp
    · exact fun e' => by have := e d e'; omega
  have hlo : ∀ g : Nat, (Value.slice A2 (0 + m) c2').ownBlock = some g → w.heap.size ≤ g := by
    intro g e
    have hv2 : (Value.slice A2 (0 + m) c2').ownBlock = none ∨ ∀ g : Nat, (Value.slice A2 (0 + m) c2').ownBlock = some g → w.heap.size ≤ g := hv1
    rcases hv2 with e' | e'
    · rw [e'] at e; cases e
    · exact e' g e
  have hl : ys.length = m := by have := hy.1; simp [bcells] at this; omega
  have h0 := hx1.set (k := 0) (x := .slice A2 (0 + m) c2') (by simp)
  have h1 := ho1.store_far (a := ⟨d, 0, none⟩) hne2 (.slice A2 (0 + m) c2')
  simp only [List.set_cons_zero, Nat.zero_add] at h0 h1 hne2 hlo
  go_end0
  refine ⟨rfl, _, ⟨A2, c2', by rw [hl]; exact h0, by rw [hl]; exact h1, ⟨by rw [hl], hne2⟩, hB⟩, fun g e => ⟨hlo g e, (h1.lt g e).2⟩, grown_set (grown_far (World.grownBy.refl _ _) g2 (by intro r e; cases e)) 0 _⟩
end Go.Proofs.YtdpcncpfbaigeaaDoor
