/- The gateway's map of connections: looked up and stored into. -/
import Derived.Test.YtbplnglmjcmfiaaGreatDoorOwn
import Derived.Test.YtbplnglmjcmfiaaGreatDoorProg
import Derived.Maps.Own
namespace Go.Proofs.YtbplnglmjcmfiaaGreatDoor
open Go.RowKit Go.ChangeMaps Go.MapKept
open Go.Maps (Keyed int_keyed keyOf_int_mk)
set_option linter.unusedVariables false
set_option linter.unusedSimpArgs false

/-- Block b is a map of these entries. -/
def MapIs (w : World) (b : Nat) (es : Array MapEntry) (clk : Nat) : Prop := w.heap[b]? = some (.map es clk)
theorem MapIs.lt {w : World} {b clk : Nat} {es : Array MapEntry} (h : MapIs w b es clk) : b < w.heap.size := (Array.getElem?_eq_some_iff.1 h).1
theorem MapIs.below {w w' : World} {b clk : Nat} {es : Array MapEntry} (h : MapIs w b es clk) (hb : Below w.heap.size w w') : MapIs w' b es clk := (hb.block b h.lt).trans h
theorem MapIs.grown {w w' : World} {b clk : Nat} {es : Array MapEntry} {r : Option Nat} (h : MapIs w b es clk) (hb : w.grownBy w' r) (hr : some b ≠ r) : MapIs w' b es clk := (hb.block b h.lt hr).trans h
theorem zeroConn (w : World) : (zeroValue 38).run Tryz.prog w = .ok (.pointer none) w := by kernel_rfl
theorem undMap : Tryz.prog.underlying 43 = some (.map 3 38) := by kernel_rfl
theorem lawMap : Keyed Tryz.prog 3 := int_keyed Tryz.underlying3
theorem MapIs.no {w : World} {b clk : Nat} (h : MapIs w b #[] clk) (k : Int) (hk : (Lit.int .i64 k).wf = true) : (Instr.lookup 43 (.map (some b)) (.int .i64 k) false).run Tryz.prog w = .ok (.pointer none) w := by
  have hkey := keyOf_int_mk Tryz.underlying3 hk
  rcases lawMap.find w hkey ([] : List MapEntry) (by simp) with ⟨h1, h2⟩ | ⟨j, e0, h1, h2, h3⟩
  · simp [Instr.lookup, run_underlying undMap, MapKept.run_getObj_map h, lawMap.check w _ hkey, h1, zeroConn, Result.andThen]
  · simp at h2
theorem MapIs.one {w : World} {b clk : Nat} {k0 : Int} {v : Value} {bo : Nat} (h : MapIs w b #[⟨.int .i64 k0, v, bo⟩] clk) (h0 : (Lit.int .i64 k0).wf = true) (k : Int) (hk : (Lit.int .i64 k).wf = true) :
    (Instr.lookup 43 (.map (some b)) (.int .i64 k) false).run Tryz.prog w = .ok (if k = k0 then v else .pointer none) w := by
  have hkey := keyOf_int_mk Tryz.underlying3 hk
  have hkey0 := keyOf_int_mk Tryz.underlying3 h0
  rcases lawMap.find w hkey [(⟨.int .i64 k0, v, bo⟩ : MapEntry)] (by intro x hx; rw [List.mem_singleton.1 hx]; exact ⟨_, hkey0⟩) with ⟨h1, h2⟩ | ⟨j, e0, h1, h2, h3⟩
  · have hne : k ≠ k0 := by
      rintro rfl
      exact h2 _ (List.mem_singleton.2 rfl) rfl
    simp [Instr.lookup, run_underlying undMap, MapKept.run_getObj_map h, lawMap.check w _ hkey, h1, zeroConn, Result.andThen, hne]
  · have he : e0 = ⟨.int .i64 k0, v, bo⟩ := List.mem_singleton.1 (List.mem_of_getElem? h2)
    subst he
    have hkk : k = k0 := by simpa using h3.symm
    subst hkk
    simp [Instr.lookup, run_underlying undMap, MapKept.run_getObj_map h, lawMap.check w _ hkey, h1, Result.andThen]
theorem MapIs.store {w : World} {b clk : Nat} (h : MapIs w b #[] clk) (k : Int) (v : Value) (hk : (Lit.int .i64 k).wf = true) :
    (Instr.mapUpdate 43 (.map (some b)) (.int .i64 k) v).run Tryz.prog w = .ok () (setBlock w b (.map #[⟨.int .i64 k, v, clk⟩] (clk + 1))) := by
  have hkey := keyOf_int_mk Tryz.underlying3 hk
  rcases lawMap.find w hkey ([] : List MapEntry) (by simp) with ⟨h1, h2⟩ | ⟨j, e0, h1, h2, h3⟩
  · simp [Instr.mapUpdate, run_underlying undMap, MapKept.run_getObj_map h, lawMap.check w _ hkey, h1, zeroConn, Result.andThen, MapKept.run_setObj_map _ h, setBlock]
  · simp at h2
end Go.Proofs.YtbplnglmjcmfiaaGreatDoor
