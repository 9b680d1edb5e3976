/- frame.Body: Rest; what a nil body answers. -/
import Derived.Test.YtdpcncpfbaigeaaDoorBody2
namespace Go.Proofs.YtdpcncpfbaigeaaDoor
open Go.RowKit

theorem IsBody.grown {w w' : World} {b base r : Nat} {kind left : Int} {p : Value} {n : Nat} {bs : List UInt8} {ended : Bool} (h : IsBody w b base kind left p n bs ended) (hg : w.grownBy w' (some r)) (hr : r < base) : IsBody w' b base kind left p n bs ended := by
  obtain ⟨A, c, h1, h2, h3, h4⟩ := h
  refine ⟨A, c, h1.grown hg (fun e => by cases e; omega), h2.kept hg ?_, h3, h4⟩
  by_cases hn : (Value.slice A n c).ownBlock = none
  · exact .inl hn
  · exact .inr (fun e => by have := (h2.lt r e).1; omega)
set_option maxRecDepth 100000 in
set_option maxHeartbeats 3200000 in
/-- What stands behind a body that is over. -/
theorem bodyrest_over (b base : Nat) (kind left : Int) (p : Value) (n : Nat) (bs : List UInt8) (ended : Bool) (w : World) (h : IsBody w b base kind left p n bs ended) (hk : kind ≠ 2) (hov : overB kind left n ended = true) :
    Calls Tryd.prog 24 #[.pointer (some ⟨b, 0, none⟩)] w fun e w' => ∃ A c, e = .returned (.slice A n c) ∧ Ow w' base 1 (.slice A n c) n (bcells bs) ∧ IsBody w' b base kind left p 0 [] ended ∧ Below base w w' ∧ w.grownBy w' (some b) := by
  have ho := over_any b base kind left p n bs ended w h
  rw [hov] at ho
  obtain ⟨A, c, hx, hi, hne, hB⟩ := h
  have hk' : (kind == 2) = false := by simpa using hk
  obtain ⟨k0, k1, k2, k3, k4⟩ := hx.five
  obtain ⟨f0, f1, f2, f3, f4⟩ := hx.free5
  have hx2 := hx.set (k := 2) (x := .slice none 0 0) (by simp)
  simp only [List.set_cons_succ, List.set_cons_zero] at hx2
  have hi2 := hi.store_far (a := ⟨b, 2, none⟩) hne (.slice none 0 0)
  have t2 := (Below.refl base w).setCell (p := ⟨b, 2, none⟩) hB (.slice none 0 0)
  have g2 := grown_set (World.grownBy.refl w (some b)) 2 (.slice none 0 0)
  clear hk hov hx
  go_enter Tryd.func24, Tryd.ntmps24
  go_wp2_with fail
  refine ho.mono ?_
  rintro e w1 ⟨rfl, rfl⟩
  go_wp2_with fail
  go_ret
  exact ⟨A, c, rfl, hi2, ⟨none, 0, hx2, Ow.nil_, by simp [Value.ownBlock], hB⟩, t2, g2⟩
set_option maxHeartbeats 800000 in
theorem bfeedNil (x : Value) (w : World) : Calls Tryd.prog 20 #[.pointer none, x] w fun e w' => e = .returned (.tuple #[]) ∧ w = w' := by
  go_enter Tryd.func20, Tryd.ntmps20
  go_wp2
  go_end0
  exact ⟨rfl, rfl⟩
set_option maxHeartbeats 800000 in
theorem bendNil (w : World) : Calls Tryd.prog 21 #[.pointer none] w fun e w' => e = .returned (.tuple #[]) ∧ w = w' := by
  go_enter Tryd.func21, Tryd.ntmps21
  go_wp2
  go_end0
  exact ⟨rfl, rfl⟩
set_option maxHeartbeats 800000 in
theorem btakeNil (x : Value) (w : World) : Calls Tryd.prog 22 #[.pointer none, x] w fun e w' => e = .returned (.tuple #[.slice none 0 0, .int .i64 8]) ∧ w = w' := by
  go_enter Tryd.func22, Tryd.ntmps22
  go_wp2
  go_ret2
  exact ⟨rfl, rfl⟩
set_option maxHeartbeats 800000 in
theorem brestNil (w : World) : Calls Tryd.prog 24 #[.pointer none] w fun e w' => e = .returned (.slice none 0 0) ∧ w = w' := by
  go_enter Tryd.func24, Tryd.ntmps24
  go_wp2
  go_ret
  exact ⟨rfl, rfl⟩
end Go.Proofs.YtdpcncpfbaigeaaDoor
