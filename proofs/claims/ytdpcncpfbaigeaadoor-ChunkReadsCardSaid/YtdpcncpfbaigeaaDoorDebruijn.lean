/- What a row's condition says of the table math/bits.deBruijn64tab. -/
import Derived.Test.YtdpcncpfbaigeaaDoorRows
import Derived.Test.YtdpcncpfbaigeaaDoorFrame
import Derived.MakeChecks
import Derived.Lib.LaidU8
namespace Go.Proofs.YtdpcncpfbaigeaaDoor
open Go.RowKit

def tabZ64 : List Int := [0, 1, 56, 2, 57, 49, 28, 3, 61, 58, 42, 50, 38, 29, 17, 4, 62, 47, 59, 36, 45, 43, 51, 22, 53, 39, 33, 30, 24, 18, 12, 5, 63, 55, 48, 27, 60, 41, 37, 16, 46, 35, 44, 21, 52, 32, 23, 11, 54, 26, 40, 15, 34, 20, 31, 10, 25, 14, 19, 9, 13, 8, 7, 6]
theorem db_cell {W : World} {l : List (String × DataW Unit)} (h : laidMetH Tryd.prog l W) (hp : (l.all fun x => x.2.handleName?.isNone) = true) (hm : ("math/bits.deBruijn64tab", (Rows.laid_math_bits_deBruijn64tab : DataW Unit)) ∈ l) :
    W.cell? ⟨3, 15, none⟩ = some (.int .u8 4) := by
  rw [MakeChecks.laidMetH_plain _ _ _ hp] at h
  obtain ⟨g, t, cs, fuel, p, h1, h2, h3, h4⟩ := Lib.laidMet.reads h hm
  have hg : Tryd.prog.globalNamed "math/bits.deBruijn64tab" = some 3 := by kernel_rfl
  obtain rfl := Option.some.inj (hg.symm.trans h1)
  obtain rfl := Option.some.inj ((show (Tryd.prog.globals[3]?).map (·.type) = some 124 by kernel_rfl).symm.trans h2)
  have hc := Lib.cells_of_tab (zs := tabZ64) Tryd.underlying124 Tryd.underlying5 (by kernel_rfl) (by kernel_rfl) h4
  rw [World.var?_cell hg h3 15]
  have : cs[15]? = cs.toList[15]? := by simp
  rw [this, hc]
  rfl
end Go.Proofs.YtdpcncpfbaigeaaDoor
