/- The answers of law 25. -/
import Derived.Test.YtfifoimnebbflaaGreatDoorLinkHead
import Derived.Lib.SlBytesConst
namespace Go.Proofs.YtfifoimnebbflaaGreatDoor
open Go.RowKit
set_option linter.unusedVariables false
set_option linter.unusedSimpArgs false

def ans25L : List UInt8 := [97, 13, 10, 13, 10, 98]
set_option maxRecDepth 100000 in
set_option maxHeartbeats 3200000 in
theorem ans25_any (w : World) (mx : Int) (hm : w.cell? ⟨0, 0, none⟩ = some (.int .i64 mx)) :
    Calls Tryz.prog 6 #[] w fun e w' => e = .returned (.bool true) ∧ Below w.heap.size w w' := by
  have hmb : 0 < w.heap.size := World.block_lt_of_cell? w _ hm
  have kc := fun (w : World) (C : Array Value) (n c : Nat) => Lib.run_convert_bytes_const (P := Tryz.prog) w 24 5 C n c Tryz.underlying24 Tryz.underlying5
  go_enter Tryz.func6, Tryz.ntmps6
  go_wp2_with fail
  refine (linknew_any 0 w).mono ?_
  rintro e w1 ⟨s, r, rfl, h1, hs, hr, b1⟩
  have b2 : Below w1.heap.size w1 (w1.alloc (.cells (bcells ans25L).toArray 5 (6, 7))) := (Below.refl _ _).alloc (Nat.le_refl _) _
  have ro : Rd (w1.alloc (.cells (bcells ans25L).toArray 5 (6, 7))) (w1.heap.size + 1) 1 (some ⟨w1.heap.size, 0, none⟩) 6 (bcells ans25L) :=
    ⟨by decide, .inr ⟨_, rfl, Nat.lt_succ_self _, fun j u hu => by rw [Addr.add_lit, cell_of_row _ w1.heap.size _ _ _ (6, 7) (heap_alloc_new w1 _)]; simpa using hu⟩⟩
  have q1 := linkfeed_any s r (bufN 0) none [] (some ⟨w1.heap.size, 0, none⟩) 6 6 _ ans25L _ (h1.below b2) ro (by simp) (by decide) (by decide)
  have e6 : min 6 (bufN 0 - ([] : List UInt8).length) = 6 := by decide
  rw [e6, show ([] : List UInt8) ++ ans25L.take 6 = ans25L by decide] at q1
  have t2 := b1.trans (b2.mono b1.size)
  have hz2 : w.heap.size ≤ (w1.alloc (.cells (bcells ans25L).toArray 5 (6, 7))).heap.size := t2.size
  clear ro h1
  go_wp2_with fail
  refine q1.mono ?_
  rintro e w3 ⟨rfl, d', h3, -, g3⟩
  have t3 := t2.grown g3 hz2 (by intro k ek; cases ek; exact hr)
  have q2 := linkhead_any s r (bufN 0) false d' ans25L mx w3 h3 ((t3.cell (p := ⟨0, 0, none⟩) hmb).trans hm)
  have x1 : hdE ans25L false = 0 := by decide
  have x2 : (hdO ans25L).length = 5 := by decide
  rw [x1, x2] at q2
  rw [show ans25L.drop 5 = [98] by decide] at q2
  clear q1 h3 b2 t2 hz2 g3
  go_wp2_with fail
  refine q2.mono ?_
  rintro e w4 ⟨A4, c4, rfl, -, h4, g4⟩
  have t4 := t3.grown g4 t3.size (by intro k ek; cases ek; exact hr)
  have q3 := linkheld_any s r (bufN 0) false d' [98] w4 h4
  clear q2 t3 g4 h4
  go_wp2_with fail
  refine q3.mono ?_
  rintro e w5 ⟨rfl, kq, rfl⟩
  go_wp2_with fail
  go_ret
  exact ⟨rfl, below_drewN t4⟩
end Go.Proofs.YtfifoimnebbflaaGreatDoor
