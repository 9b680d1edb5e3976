/- What a row's condition says of the table internal/strconv.uint64pow10. -/
import Derived.Test.YtijlaclngibekaaGreatDoorRows
import Derived.Test.YtijlaclngibekaaGreatDoorKFrame
import Derived.MakeChecks
import Derived.Lib.LaidU8
import Derived.Lib.ItoaNum
import Derived.Lib.SmallJoins
import Derived.Lib.AppendIntMem
namespace Go.Proofs.YtijlaclngibekaaGreatDoor
open Go.RowKit

theorem pow_tab {W : World} {l : List (String × DataW Unit)} (h : laidMetH Tryz.prog l W) (hp : (l.all fun x => x.2.handleName?.isNone) = true) (hm : ("internal/strconv.uint64pow10", (Rows.laid_internal_strconv_uint64pow10 : DataW Unit)) ∈ l) :
    Lib.TabIs Tryz.prog W "internal/strconv.uint64pow10" .u64 Lib.pow10Tab := by
  rw [MakeChecks.laidMetH_plain _ _ _ hp] at h
  obtain ⟨g, t, cs, fuel, p, h1, h2, h3, h4⟩ := Lib.laidMet.reads h hm
  have hg : Tryz.prog.globalNamed "internal/strconv.uint64pow10" = some 2 := by kernel_rfl
  obtain rfl := Option.some.inj (hg.symm.trans h1)
  obtain rfl := Option.some.inj ((show (Tryz.prog.globals[2]?).map (·.type) = some 235 by kernel_rfl).symm.trans h2)
  unfold Lib.TabIs
  rw [h3, ← Lib.cells_of_tab (zs := Lib.pow10Tab) Tryz.underlying235 Tryz.underlying205 (by kernel_rfl) (by kernel_rfl) h4]
theorem pow_stays {W W' : World} (h : Lib.TabIs Tryz.prog W "internal/strconv.uint64pow10" .u64 Lib.pow10Tab) (hb : Below W.heap.size W W') : Lib.TabIs Tryz.prog W' "internal/strconv.uint64pow10" .u64 Lib.pow10Tab :=
  Lib.tabBelow_of_tabIs h W' hb
end Go.Proofs.YtijlaclngibekaaGreatDoor
