/- gate.New of the least configuration. -/
import Derived.Test.YtijlaclngibekaaGreatDoorKBase
import Derived.Test.YtijlaclngibekaaGreatDoorKCalm
import Derived.Deep.DeepCutAuto
import Derived.OwnWalk
namespace Go.Proofs.YtijlaclngibekaaGreatDoor
open Go.RowKit
set_option linter.unusedVariables false
set_option linter.unusedSimpArgs false

set_option maxRecDepth 100000 in
set_option maxHeartbeats 1600000 in
theorem gatesound_one (w : World) : Calls Tryz.prog 12 #[.agg #[.slice none 0 0, .slice none 0 0, .int .i64 0, .int .i64 0, .int .i64 0, .int .i64 16384, .int .i64 1]] w fun e w' => e = .returned (.bool true) ∧ Below w.heap.size w w' := by
  obtain ⟨g, hg⟩ : ∃ g, w.heap.size = g := ⟨_, rfl⟩
  have bx := Box.new w #[.slice none 0 0, .slice none 0 0, .int .i64 0, .int .i64 0, .int .i64 0, .int .i64 16384, .int .i64 1] 25
  have t0 : Below g w (w.alloc (.cells #[.slice none 0 0, .slice none 0 0, .int .i64 0, .int .i64 0, .int .i64 0, .int .i64 16384, .int .i64 1] 25)) := (Below.refl _ _).alloc (Nat.le_of_eq hg.symm) _
  rw [hg] at bx
  go_enter Tryz.func12, Tryz.ntmps12
  go_upto_region 1 with (fail)
  generalize w.alloc _ = w1 at bx t0 ⊢
  obtain ⟨k0, -⟩ := bx.2 0 _ rfl
  obtain ⟨k1, -⟩ := bx.2 1 _ rfl
  obtain ⟨k2, -⟩ := bx.2 2 _ rfl
  obtain ⟨k3, -⟩ := bx.2 3 _ rfl
  obtain ⟨k4, -⟩ := bx.2 4 _ rfl
  obtain ⟨k5, -⟩ := bx.2 5 _ rfl
  obtain ⟨k6, -⟩ := bx.2 6 _ rfl
  go_wp2_with fail
  go_loopw [8] (fun i W => i = .int .i64 0 ∧ W = w1) (fun _ _ => 0)
  case atStart => exact ⟨rfl, rfl⟩
  case round =>
    obtain ⟨rfl, rfl⟩ := hrel
    go_wp2_with fail
    go_ret
    rw [hg]
    exact ⟨rfl, t0⟩
/-- A gateway of the least configuration in block p, its connections in block b. -/
def IsGate (w : World) (p b : Nat) : Prop := ∃ A B, Box w p [.slice A 0 0, .slice B 0 0, .int .i64 0, .int .i64 0, .int .i64 0, .int .i64 16384, .int .i64 1, .map (some b)]
theorem IsGate.below {w w' : World} {p b : Nat} (h : IsGate w p b) (hb : Below w.heap.size w w') : IsGate w' p b := let ⟨A, B, h⟩ := h; ⟨A, B, h.below hb⟩
def NewPost (w w' : World) (p : Nat) : Prop := ∃ b, IsGate w' p b ∧ MapIs w' b #[] 0 ∧ w.heap.size ≤ p ∧ w.heap.size ≤ b ∧ p ≠ b
set_option maxRecDepth 100000 in
set_option maxHeartbeats 1600000 in
theorem gatenew_one (w : World) : Calls Tryz.prog 7 #[.agg #[.slice none 0 0, .slice none 0 0, .int .i64 0, .int .i64 0, .int .i64 0, .int .i64 16384, .int .i64 1]] w fun e w' => ∃ p, e = .returned (.tuple #[.pointer (some ⟨p, 0, none⟩), .int .i64 0]) ∧ NewPost w w' p ∧ Below w.heap.size w w' := by
  obtain ⟨g, hg⟩ : ∃ g, w.heap.size = g := ⟨_, rfl⟩
  have bx := Box.new w #[.slice none 0 0, .slice none 0 0, .int .i64 0, .int .i64 0, .int .i64 0, .int .i64 16384, .int .i64 1] 25
  have t0 : Below g w (w.alloc (.cells #[.slice none 0 0, .slice none 0 0, .int .i64 0, .int .i64 0, .int .i64 0, .int .i64 16384, .int .i64 1] 25)) := (Below.refl _ _).alloc (Nat.le_of_eq hg.symm) _
  rw [hg] at bx
  go_enter Tryz.func7, Tryz.ntmps7
  go_upto_region 1 with (fail)
  generalize w.alloc _ = w1 at bx t0 ⊢
  obtain ⟨k0, -⟩ := bx.2 0 _ rfl
  obtain ⟨k1, -⟩ := bx.2 1 _ rfl
  obtain ⟨k2, -⟩ := bx.2 2 _ rfl
  obtain ⟨k3, -⟩ := bx.2 3 _ rfl
  obtain ⟨k4, -⟩ := bx.2 4 _ rfl
  obtain ⟨k5, -⟩ := bx.2 5 _ rfl
  obtain ⟨k6, -⟩ := bx.2 6 _ rfl
  go_wp2_with fail
  refine (gatesound_one w1).mono ?_
  rintro e w2 ⟨rfl, b2⟩
  have bx2 := bx.below b2
  have t2 := t0.trans (b2.mono (hg ▸ t0.size))
  clear k0 k1 k2 k3 k4 k5 k6
  obtain ⟨k0, f0⟩ := bx2.2 0 _ rfl
  obtain ⟨k1, f1⟩ := bx2.2 1 _ rfl
  obtain ⟨k2, -⟩ := bx2.2 2 _ rfl
  obtain ⟨k3, -⟩ := bx2.2 3 _ rfl
  obtain ⟨k4, -⟩ := bx2.2 4 _ rfl
  obtain ⟨k5, -⟩ := bx2.2 5 _ rfl
  obtain ⟨k6, -⟩ := bx2.2 6 _ rfl
  have hgl := bx2.1
  have hs2 : (w2.setCell ⟨g, 0, none⟩ (.slice (some ⟨w2.heap.size, 0, none⟩) 0 0)).heap.size = w2.heap.size := by simp [World.setCell]
  have bx3 := (bx2.set (k := 0) (x := .slice (some ⟨w2.heap.size, 0, none⟩) 0 0) (by simp)).below ((Below.refl _ _).alloc (Nat.le_refl _) (.cells #[] 30))
  have t3 : Below g w ((w2.setCell ⟨g, 0, none⟩ (.slice (some ⟨w2.heap.size, 0, none⟩) 0 0)).alloc (.cells #[] 30)) := (t2.setCell (Nat.le_refl g) _).alloc (by rw [hs2]; exact Nat.le_of_lt hgl) _
  clear hs2
  obtain ⟨A, hA⟩ : ∃ A : Option Addr, A = some ⟨w2.heap.size, 0, none⟩ := ⟨_, rfl⟩
  go_upto_region 4 with (fail)
  rw [← hA] at bx3 t3 ⊢
  generalize (World.alloc _ _) = w3 at bx3 t3 ⊢
  clear k0 k1 k2 k3 k4 k5 k6 f0 f1 hgl hA
  obtain ⟨k0, f0⟩ := bx3.2 0 _ rfl
  obtain ⟨k1, f1⟩ := bx3.2 1 _ rfl
  obtain ⟨k2, -⟩ := bx3.2 2 _ rfl
  obtain ⟨k3, -⟩ := bx3.2 3 _ rfl
  obtain ⟨k4, -⟩ := bx3.2 4 _ rfl
  obtain ⟨k5, -⟩ := bx3.2 5 _ rfl
  obtain ⟨k6, -⟩ := bx3.2 6 _ rfl
  have hgl := bx3.1
  have hs3 : (w3.setCell ⟨g, 1, none⟩ (.slice (some ⟨w3.heap.size, 0, none⟩) 0 0)).heap.size = w3.heap.size := by simp [World.setCell]
  have bx4 := (bx3.set (k := 1) (x := .slice (some ⟨w3.heap.size, 0, none⟩) 0 0) (by simp)).below ((Below.refl _ _).alloc (Nat.le_refl _) (.cells #[] 9))
  have t4 : Below g w ((w3.setCell ⟨g, 1, none⟩ (.slice (some ⟨w3.heap.size, 0, none⟩) 0 0)).alloc (.cells #[] 9)) := (t3.setCell (Nat.le_refl g) _).alloc (by rw [hs3]; exact Nat.le_of_lt hgl) _
  clear hs3
  obtain ⟨B, hB⟩ : ∃ A : Option Addr, A = some ⟨w3.heap.size, 0, none⟩ := ⟨_, rfl⟩
  go_upto_region 5 with (fail)
  rw [← hB] at bx4 t4 ⊢
  generalize (World.alloc _ _) = w4 at bx4 t4 ⊢
  clear k0 k1 k2 k3 k4 k5 k6 f0 f1 hgl hB
  obtain ⟨k0, f0⟩ := bx4.2 0 _ rfl
  obtain ⟨k1, f1⟩ := bx4.2 1 _ rfl
  obtain ⟨k2, -⟩ := bx4.2 2 _ rfl
  obtain ⟨k3, -⟩ := bx4.2 3 _ rfl
  obtain ⟨k4, -⟩ := bx4.2 4 _ rfl
  obtain ⟨k5, -⟩ := bx4.2 5 _ rfl
  obtain ⟨k6, -⟩ := bx4.2 6 _ rfl
  have hgl := bx4.1
  have hmm := @run_makeMap Tryz.prog
  have hs5 : (w4.alloc (.map #[] 0)).heap.size = w4.heap.size + 1 := by simp
  have b5 : Below g w (w4.alloc (.map #[] 0)) := t4.alloc (Nat.le_of_lt hgl) _
  have m5 : MapIs (w4.alloc (.map #[] 0)) w4.heap.size #[] 0 := (MapKept.heap_alloc w4 _).1
  have bz := Box.new (w4.alloc (.map #[] 0)) #[.slice A 0 0, .slice B 0 0, .int .i64 0, .int .i64 0, .int .i64 0, .int .i64 16384, .int .i64 1, .map (some w4.heap.size)] 52
  have b6 : Below (w4.heap.size + 1) (w4.alloc (.map #[] 0)) ((w4.alloc (.map #[] 0)).alloc (.cells #[.slice A 0 0, .slice B 0 0, .int .i64 0, .int .i64 0, .int .i64 0, .int .i64 16384, .int .i64 1, .map (some w4.heap.size)] 52)) := (Below.refl _ _).alloc (Nat.le_of_eq hs5.symm) _
  have m6 := m5.below (by rw [hs5]; exact b6)
  rw [hs5] at bz
  have t6 := b5.trans (b6.mono (by omega))
  go_wp2_with fail
  go_ret2
  exact ⟨w4.heap.size + 1, rfl, ⟨w4.heap.size, ⟨A, B, bz⟩, m6, by omega, by omega, by omega⟩, t6⟩
end Go.Proofs.YtijlaclngibekaaGreatDoor
