/- Bytes of strings; law 17's answers. -/
import Derived.Test.YtfifoimnebbflaaGreatDoorHeadReq
import Derived.Lib.SlBytesConst
namespace Go.Proofs.YtfifoimnebbflaaGreatDoor
open Go.RowKit

theorem maxLen_cell (w : World) (h : w.ShapedOpen Tryz.prog) : ∃ m, w.cell? ⟨0, 0, none⟩ = some (.int .i64 m) :=
  cell_of_shapedOpen_int (zero := #[.int .i64 0]) (t := 3) h (of_decide_eq_true (by kernel_rfl)) (by kernel_rfl) rfl (by kernel_rfl) (by kernel_rfl) Tryz.underlying3
theorem conv_bytes (W : World) (s : ByteArray) (hs : s.size ≤ 1000000) :
    ∃ A c w', (convert 9 24 (.string s)).run Tryz.prog W = .ok (.slice (some A) s.size c) w' ∧ Rd w' w'.heap.size 1 (some A) s.size (bcells s.data.toList) ∧ Below W.heap.size W w' := by
  have hcv := run_bytes_of_string (P := Tryz.prog) W 9 24 5 s Tryz.underlying9 Tryz.underlying24 Tryz.underlying5
  obtain ⟨c, hc⟩ : ∃ c, c = grownCap W s.size 0 5 := ⟨_, rfl⟩
  have hc1 : s.size ≤ c := by rw [hc]; exact grownCap_ge _ _ _ _
  have hc2 : c ≤ maxLen := by rw [hc]; exact grownCap_le_maxLen _ _ _ _ (by simp [maxLen]; omega)
  rw [← hc] at hcv
  have ho := ow_of_string W 5 s c hc1 hc2
  exact ⟨_, _, _, hcv, ho.rd, (Below.refl _ _).drew.alloc (Nat.le_refl _) _⟩

def ansB : List UInt8 := [71, 69, 84, 32, 47, 32, 72, 84, 84, 80, 47, 49, 46, 49, 13, 10, 72, 111, 115, 116, 58, 32, 97, 13, 10, 13, 10]
set_option maxRecDepth 100000 in
set_option maxHeartbeats 3200000 in
theorem ans17_any (w : World) (mx : Int) (hm : w.cell? ⟨0, 0, none⟩ = some (.int .i64 mx)) :
    Calls Tryz.prog 18 #[] w fun e w' => e = .returned (.bool true) ∧ Below w.heap.size w w' := by
  have hmb : 0 < w.heap.size := World.block_lt_of_cell? w _ hm
  have hq := fun (W : World) (A : Option Addr) (c : Nat) (b : Below w.heap.size w W) (r : Rd W W.heap.size 1 A 27 (bcells ansB)) => parsereq_any A 27 c W.heap.size ansB mx W r (Nat.le_refl _) (by omega) ((b.cell (p := ⟨0, 0, none⟩) hmb).trans hm)
  have r1 : reqE ansB = 0 := by decide
  have r2 : rM ansB = [71, 69, 84] := by decide
  have r3 : (rFs ansB).length = 1 := by decide
  simp only [r1, r2, r3] at hq
  have kc := fun (w : World) (C : Array Value) (n c : Nat) => Lib.run_convert_bytes_const (P := Tryz.prog) w 24 5 C n c Tryz.underlying24 Tryz.underlying5
  have ro : Rd (w.alloc (.cells (bcells ansB).toArray 5 (27, 28))) (w.heap.size + 1) 1 (some ⟨w.heap.size, 0, none⟩) 27 (bcells ansB) :=
    ⟨by decide, .inr ⟨_, rfl, Nat.lt_succ_self _, fun j u hu => by rw [Addr.add_lit, cell_of_row _ w.heap.size _ _ _ (27, 28) (heap_alloc_new w _)]; simpa using hu⟩⟩
  have hal : Below w.heap.size w (w.alloc (.cells (bcells ansB).toArray 5 (27, 28))) := (Below.refl _ _).alloc (Nat.le_refl _) _
  have hq' := hq _ _ 27 hal (ro.mono (by simp))
  clear hq r1 r2 r3
  go_enter Tryz.func18, Tryz.ntmps18
  go_wp2_with fail
  refine hq'.mono ?_
  rintro e w1 ⟨A1, c1, rfl, o1, T⟩
  have t := hal.trans (T.mono (by simp))
  clear hq' ro
  go_wp2_with fail
  go_ret
  exact ⟨rfl, t.alloc t.size _⟩
end Go.Proofs.YtfifoimnebbflaaGreatDoor
