/- FrameTells returns true, whatever its arguments. -/
import Derived.Test.YtgdjlmpfjmakkaaGreatDoorBox
import Derived.Test.YtgdjlmpfjmakkaaGreatDoorGets
import Derived.Deep.RegionHeld3
namespace Go.Proofs.YtgdjlmpfjmakkaaGreatDoor.FrameTellsP
open Go.RowKit
open FrameLengthsP (step_ rd_put rd_two)
open FrameSmugglesP (allocs allocs_size allocs_below allocs_cell allocs_rd)

theorem of_drew {P : Program} {f : FuncId} {args : Array Value} {W : World} {b : Bool} (h : Calls P f args W fun e w' => e = .returned (.bool b) ∧ ∃ k, w' = W.drewN k) :
    Calls P f args W fun e w' => e = .returned (.bool b) ∧ Below W.heap.size W w' := h.mono fun _ _ ⟨h1, _, h2⟩ => ⟨h1, by rw [h2]; exact below_drewN (Below.refl _ _)⟩
theorem cell_keep {w w' : World} {a : Addr} {u : Value} (h : w.cell? a = some u) (b : Below w.heap.size w w') : w'.cell? a = some u := (b.cell (World.block_lt_of_cell? w _ h)).trans h
theorem below_of_drew {w w1 : World} {B : Nat} (h : Below B w.drew w1) : Below B w w1 := ⟨h.os, h.tape, h.output, h.size, h.block⟩
theorem rd_four {w : World} {B g : Nat} {a b c d : Value} (h : Rd w B 4 (some ⟨g, 0, none⟩) 1 [a, b, c, d]) : w.cell? ⟨g, 0, none⟩ = some a ∧ w.cell? ⟨g, 1, none⟩ = some b ∧ w.cell? ⟨g, 2, none⟩ = some c ∧ w.cell? ⟨g, 3, none⟩ = some d := by
  obtain ⟨x, hx, _, hc⟩ := h.at_ (k := 0) (by omega)
  cases hx
  exact ⟨by have := hc 0 a rfl; rwa [Addr.add_lit] at this, by have := hc 1 b rfl; rwa [Addr.add_lit] at this, by have := hc 2 c rfl; rwa [Addr.add_lit] at this, by have := hc 3 d rfl; rwa [Addr.add_lit] at this⟩

end Go.Proofs.YtgdjlmpfjmakkaaGreatDoor.FrameTellsP
