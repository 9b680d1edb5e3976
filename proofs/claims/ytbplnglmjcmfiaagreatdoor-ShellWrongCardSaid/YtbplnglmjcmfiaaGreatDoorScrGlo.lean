/- What the library's functions read of the package variables, from a row's condition. -/
import Derived.Test.YtbplnglmjcmfiaaGreatDoorScrRead
import Derived.Test.YtbplnglmjcmfiaaGreatDoorPow10
import Derived.Shelf.Vars
import Derived.LaidLaws
namespace Go.Proofs.YtbplnglmjcmfiaaGreatDoor
open Go.RowKit

theorem maxLen_at (w : World) (h : w.ShapedOpen Tryz.prog) : ∃ m, w.cell? ⟨0, 0, none⟩ = some (.int .i64 m) :=
  cell_of_shapedOpen_int (zero := #[.int .i64 0]) (t := 3) h (of_decide_eq_true (by kernel_rfl)) (by kernel_rfl) rfl (by kernel_rfl) (by kernel_rfl) Tryz.underlying3
theorem err_cell {W : World} {l : List (String × DataW Unit)} {x : String} {g : Nat} {d : DataW Unit} (h : laidMetH Tryz.prog l W) (hp : (l.all fun x => x.2.handleName?.isNone) = true) (hm : (x, DataW.iface "*errors.errorString" d) ∈ l)
    (hg : Tryz.prog.globalNamed x = some g) (ht : (Tryz.prog.globals[g]?).map (·.type) = some 130) : ∃ te pe, W.cell? ⟨g, 0, none⟩ = some (.iface te pe) := by
  rw [MakeChecks.laidMetH_plain _ _ _ hp] at h
  obtain ⟨g', t, cs, fuel, p, h1, h2, h3, h4⟩ := Lib.laidMet.reads h hm
  obtain rfl := Option.some.inj (hg.symm.trans h1)
  obtain rfl := Option.some.inj (ht.symm.trans h2)
  obtain ⟨_, u, v, hc, -, -⟩ := iface_of_trod Tryz.underlying130 h4
  refine ⟨u, v, ?_⟩
  unfold World.var? at h3
  rw [hg, Option.bind_some] at h3
  unfold World.cell?
  cases hh : W.heap[g]? with
  | none => rw [hh] at h3; simp at h3
  | some o =>
    rw [hh] at h3
    cases o <;> simp at h3
    rename_i ys _ _
    have hz : ys[0]? = some (Value.iface u v) := by rw [h3, ← Array.getElem?_toList, hc]; rfl
    simpa using hz
theorem cell_stays {W W' : World} {g : Nat} {v : Value} (h : W.cell? ⟨g, 0, none⟩ = some v) (hb : Below W.heap.size W W') : W'.cell? ⟨g, 0, none⟩ = some v := by
  rcases Nat.lt_or_ge g W.heap.size with hl | hl
  · exact (hb.cell (p := ⟨g, 0, none⟩) hl).trans h
  · rw [World.cell?] at h
    simp [Array.getElem?_eq_none hl] at h
theorem Glo.stays {W W' : World} (h : Glo W) (hb : Below W.heap.size W W') : Glo W' :=
  ⟨h.max.imp fun _ e => cell_stays e hb, h.syn.imp fun _ e => e.imp fun _ e => cell_stays e hb, h.rng.imp fun _ e => e.imp fun _ e => cell_stays e hb, pow_stays h.pow hb⟩
theorem glo_of {W : World} {l : List (String × DataW Unit)} (h : laidMetH Tryz.prog l W) (hp : (l.all fun x => x.2.handleName?.isNone) = true) (hs : W.ShapedOpen Tryz.prog)
    (h1 : ("internal/strconv.uint64pow10", (Rows.laid_internal_strconv_uint64pow10 : DataW Unit)) ∈ l) (h2 : ("strconv.ErrRange", (Rows.laid_strconv_ErrRange : DataW Unit)) ∈ l) (h3 : ("strconv.ErrSyntax", (Rows.laid_strconv_ErrSyntax : DataW Unit)) ∈ l) :
    ∀ W', Below W.heap.size W W' → Glo W' := fun _ hb =>
  (Glo.mk (maxLen_at W hs) (err_cell h hp h3 (by kernel_rfl) (by kernel_rfl)) (err_cell h hp h2 (by kernel_rfl) (by kernel_rfl)) (pow_tab h hp h1)).stays hb
#print axioms glo_of
end Go.Proofs.YtbplnglmjcmfiaaGreatDoor
