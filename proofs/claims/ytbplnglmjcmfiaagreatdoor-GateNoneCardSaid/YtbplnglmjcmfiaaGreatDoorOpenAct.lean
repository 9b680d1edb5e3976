/- An act as an argument, by its shape. -/
import Derived.Test.YtbplnglmjcmfiaaGreatDoorStructs
import Derived.Deep.Slices
namespace Go.Proofs.YtbplnglmjcmfiaaGreatDoor
open Go.RowKit Go.ChangeShapes Go.WideShapes Go.ChangeAt
open Go.Joins (open_agg4)
set_option linter.unusedVariables false

theorem maxLen_cell (w : World) (h : w.ShapedOpen Tryz.prog) : ∃ m, w.cell? ⟨0, 0, none⟩ = some (.int .i64 m) :=
  cell_of_shapedOpen_int (zero := #[.int .i64 0]) (t := 3) h (of_decide_eq_true (by kernel_rfl)) (by kernel_rfl) rfl (by kernel_rfl) (by kernel_rfl) Tryz.underlying3
set_option maxRecDepth 100000 in
theorem open_act26 {H : Type} {enc : TypeId × Value → H} {W : World} {r : Reach} {b0 : Nat} {v : Value} {d : DataW H} {p : List MemPlace} (hv : Value.okWide Tryz.prog W r b0 24 v) (h : DataW.Trod enc Tryz.prog W 0 (fun _ => true) true 24 v d p) :
    ∃ (k c n : Int) (A : Option Addr) (m q : Nat), v = .agg #[.int .i64 k, .int .i64 c, .int .i64 n, .slice A m q] := by
  obtain ⟨v0, v1, v2, v3, y0, y1, y2, y3, n, rfl, rfl, rfl, h0, h1, h2, h3⟩ := open_agg4 Tryz.underlying24 (by kernel_rfl) (by kernel_rfl) hv h
  obtain ⟨z0, e0, -, -⟩ := DataW.trod_int Tryz.underlying3 h0
  obtain ⟨z1, e1, -, -⟩ := DataW.trod_int Tryz.underlying3 h1
  obtain ⟨z2, e2, -, -⟩ := DataW.trod_int Tryz.underlying3 h2
  simp only [List.cons.injEq, and_true] at e0 e1 e2
  subst e0 e1 e2
  rcases Go.Deep.open_slice Tryz.underlying22 h3 with ⟨e3, _⟩ | ⟨a, len', cap', m, n', D, Pl', e3, _⟩
  · simp only [List.cons.injEq, and_true] at e3
    subst e3
    exact ⟨z0, z1, z2, none, 0, 0, rfl⟩
  · simp only [List.cons.injEq, and_true] at e3
    subst e3
    exact ⟨z0, z1, z2, some a, len', cap', rfl⟩
end Go.Proofs.YtbplnglmjcmfiaaGreatDoor
