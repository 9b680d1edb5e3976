/- ChunkNone returns true for any bytes and any number. -/
import Derived.Test.YtdpcncpfbaigeaaDoorChunk0
import Derived.Test.YtdpcncpfbaigeaaDoorLaid7
namespace Go.Proofs.YtdpcncpfbaigeaaDoor
open Go.RowKit
set_option maxHeartbeats 800000 in
theorem feedNil (x : Value) (w : World) : Calls Tryd.prog 10 #[.pointer none, x] w fun e w' => e = .returned (.tuple #[]) ∧ w = w' := by
  go_enter Tryd.func10, Tryd.ntmps10
  go_wp2
  go_end0
  exact ⟨rfl, rfl⟩
set_option maxHeartbeats 800000 in
theorem takeNil (x : Value) (w : World) : Calls Tryd.prog 11 #[.pointer none, x] w fun e w' => e = .returned (.tuple #[.slice none 0 0, .int .i64 8]) ∧ w = w' := by
  go_enter Tryd.func11, Tryd.ntmps11
  go_wp2
  go_ret2
  exact ⟨rfl, rfl⟩
set_option maxHeartbeats 800000 in
theorem restNil (w : World) : Calls Tryd.prog 13 #[.pointer none] w fun e w' => e = .returned (.slice none 0 0) ∧ w = w' := by
  go_enter Tryd.func13, Tryd.ntmps13
  go_wp2
  go_ret
  exact ⟨rfl, rfl⟩
end Go.Proofs.YtdpcncpfbaigeaaDoor
namespace Go.Proofs.YtdpcncpfbaigeaaDoor.ChunkNoneP
open Go.RowKit
set_option maxRecDepth 100000 in
set_option maxHeartbeats 3200000 in
theorem walk (A : Option Addr) (n c : Nat) (x : Int) (w : World) (_hx : (Lit.int .i64 x).wf = true) (hd : w.cell? ⟨3, 15, none⟩ = some (.int .u8 4)) :
    Calls Tryd.prog 4 #[.slice A n c, .int .i64 x] w fun e w' => e = .returned (.bool true) ∧ Below w.heap.size w w' := by
  have hdb : 3 < w.heap.size := World.block_lt_of_cell? w _ hd
  have an := ans18_any w hd
  have ch := fun (W : World) (bl : Below w.heap.size w W) => chunk_any none 0 0 0 [] W Rd.nil_ (Nat.zero_le _) (by omega) ((bl.cell (p := ⟨3, 15, none⟩) hdb).trans hd)
  clear hd
  go_enter Tryd.func4, Tryd.ntmps4
  go_wp2_with fail
  refine (feedNil _ w).mono ?_
  rintro e w1 ⟨rfl, rfl⟩
  go_wp2_with fail
  refine (takeNil _ w).mono ?_
  rintro e w1 ⟨rfl, rfl⟩
  go_wp2_with fail
  refine an.mono ?_
  rintro e w1 ⟨rfl, b1⟩
  have ch1 := ch w1 b1
  rw [show chunkL [] = [] from rfl] at ch1
  clear ch an
  go_wp2_with fail
  refine (restNil w1).mono ?_
  rintro e w2 ⟨rfl, rfl⟩
  go_wp2_with fail
  refine ch1.mono ?_
  rintro e w2 ⟨A2, c2, rfl, -, b2⟩
  have t2 := b1.trans (b2.mono b1.size)
  clear ch1
  go_wp2_with fail
  go_ret
  exact ⟨rfl, t2⟩
noncomputable def laidWorld (os : Os) : World := laidWorld7 os
end Go.Proofs.YtdpcncpfbaigeaaDoor.ChunkNoneP
