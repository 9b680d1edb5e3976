/- Boxes: structs that a call has laid; stored into and read between calls. -/
import Derived.Test.YtbplnglmjcmfiaaGreatDoorProg
import Derived.Test.YtbplnglmjcmfiaaGreatDoorAlloc
import Derived.Test.YtbplnglmjcmfiaaGreatDoorOwn
namespace Go.Proofs.YtbplnglmjcmfiaaGreatDoor
open Go.RowKit
open FrameSmugglesP (allocs allocs_size allocs_below allocs_cell allocs_rd)

def Box (w : World) (g : Nat) (cs : List Value) : Prop := g < w.heap.size ∧ ∀ j u, cs[j]? = some u → w.cell? ⟨g, j, none⟩ = some u ∧ w.frozen? ⟨g, j, none⟩ = false
section
variable {w w' : World} {g g' k : Nat} {cs : List Value} {x : Value}
theorem frozen_set (w : World) (g k : Nat) (x : Value) (a : Addr) : (w.setCell ⟨g, k, none⟩ x).frozen? a = w.frozen? a := by
  show (w.setCells g k [x]).frozen? a = _
  rw [World.frozen?_setCells]
theorem Box.below (h : Box w g cs) (b : Below w.heap.size w w') : Box w' g cs :=
  ⟨Nat.lt_of_lt_of_le h.1 b.size, fun j u hu => ⟨(b.cell (p := ⟨g, j, none⟩) h.1).trans (h.2 j u hu).1, (World.frozen?_of_block (a := ⟨g, j, none⟩) (b.block g h.1)).trans (h.2 j u hu).2⟩⟩
theorem Box.far (h : Box w g cs) (hne : g ≠ g') : Box (w.setCell ⟨g', k, none⟩ x) g cs :=
  ⟨by simpa [World.setCell] using h.1, fun j u hu => ⟨by rw [World.cell?_setCell_other _ _ _ _ (by intro e; exact hne (congrArg Addr.block e).symm)]; exact (h.2 j u hu).1, by rw [frozen_set]; exact (h.2 j u hu).2⟩⟩
theorem Box.set (h : Box w g cs) (hk : k < cs.length) : Box (w.setCell ⟨g, k, none⟩ x) g (cs.set k x) := by
  refine ⟨by simpa [World.setCell] using h.1, fun j u hu => ⟨?_, ?_⟩⟩
  · by_cases hjk : k = j
    · subst hjk
      rw [List.getElem?_set_self hk] at hu
      cases hu
      exact World.cell?_setCell_same' w _ _ (by rw [(h.2 k _ (List.getElem?_eq_getElem hk)).1]; rfl)
    · rw [List.getElem?_set_ne hjk] at hu
      rw [World.cell?_setCell_other _ _ _ _ (by intro e; have := congrArg Addr.off e; simp at this; omega)]
      exact (h.2 j u hu).1
  · rw [frozen_set]
    have hj : j < cs.length := by have := (List.getElem?_eq_some_iff.1 hu).1; simpa using this
    exact (h.2 j _ (List.getElem?_eq_getElem hj)).2
theorem Box.new (w : World) (cs : Array Value) (t : TypeId) : Box (w.alloc (.cells cs t)) w.heap.size cs.toList :=
  ⟨by simp, fun j u hu => ⟨by rw [World.cell?_alloc_new]; simpa using hu, by unfold World.frozen?; rw [heap_alloc_new]; simp⟩⟩
theorem box_allocs : ∀ (os : List Obj) (w : World) (i : Nat) (cs : Array Value) (t : TypeId), os[i]? = some (.cells cs t) → Box (allocs w os) (w.heap.size + i) cs.toList
  | o :: os, w, 0, cs, t, h => by
    simp only [List.getElem?_cons_zero, Option.some.injEq] at h
    subst h
    exact (Box.new w cs t).below (allocs_below os _)
  | o :: os, w, i + 1, cs, t, h => by
    have := box_allocs os (w.alloc o) i cs t (by simpa using h)
    have e : (w.alloc o).heap.size + i = w.heap.size + (i + 1) := by simp; omega
    rw [e] at this
    exact this
theorem Rd.far {B size n : Nat} {A : Option Addr} {xs : List Value} (h : Rd w B size A n xs) (hg : B ≤ g) : Rd (w.setCell ⟨g, k, none⟩ x) B size A n xs := h.below ((Below.refl _ _).setCell hg _)
theorem Box.two {a b : Value} (h : Box w g [a, b]) : w.cell? ⟨g, 0, none⟩ = some a ∧ w.cell? ⟨g, 1, none⟩ = some b := ⟨(h.2 0 a rfl).1, (h.2 1 b rfl).1⟩
theorem Box.free2 {a b : Value} (h : Box w g [a, b]) : w.frozen? ⟨g, 0, none⟩ = false ∧ w.frozen? ⟨g, 1, none⟩ = false := ⟨(h.2 0 a rfl).2, (h.2 1 b rfl).2⟩
theorem Box.three {a b c : Value} (h : Box w g [a, b, c]) : w.cell? ⟨g, 0, none⟩ = some a ∧ w.cell? ⟨g, 1, none⟩ = some b ∧ w.cell? ⟨g, 2, none⟩ = some c := ⟨(h.2 0 a rfl).1, (h.2 1 b rfl).1, (h.2 2 c rfl).1⟩
theorem Box.four {a b c d : Value} (h : Box w g [a, b, c, d]) : w.cell? ⟨g, 0, none⟩ = some a ∧ w.cell? ⟨g, 1, none⟩ = some b ∧ w.cell? ⟨g, 2, none⟩ = some c ∧ w.cell? ⟨g, 3, none⟩ = some d := ⟨(h.2 0 a rfl).1, (h.2 1 b rfl).1, (h.2 2 c rfl).1, (h.2 3 d rfl).1⟩
theorem Box.free4 {a b c d : Value} (h : Box w g [a, b, c, d]) : w.frozen? ⟨g, 0, none⟩ = false ∧ w.frozen? ⟨g, 1, none⟩ = false ∧ w.frozen? ⟨g, 2, none⟩ = false ∧ w.frozen? ⟨g, 3, none⟩ = false := ⟨(h.2 0 a rfl).2, (h.2 1 b rfl).2, (h.2 2 c rfl).2, (h.2 3 d rfl).2⟩
end
/-- A struct of four cells stored whole. -/
def fill4 (w : World) (g : Nat) (x0 x1 x2 x3 : Value) : World := (((w.setCell ⟨g, 0, none⟩ x0).setCell ⟨g, 1, none⟩ x1).setCell ⟨g, 2, none⟩ x2).setCell ⟨g, 3, none⟩ x3
theorem Box.fill4 {w : World} {g : Nat} {a b c d : Value} (h : Box w g [a, b, c, d]) (x0 x1 x2 x3 : Value) : Box (fill4 w g x0 x1 x2 x3) g [x0, x1, x2, x3] :=
  (((h.set (k := 0) (x := x0) (by simp)).set (k := 1) (x := x1) (by simp)).set (k := 2) (x := x2) (by simp)).set (k := 3) (x := x3) (by simp)
theorem Box.far4 {w : World} {g g' : Nat} {cs : List Value} (h : Box w g cs) (hne : g ≠ g') (x0 x1 x2 x3 : Value) : Box (Go.Proofs.YtbplnglmjcmfiaaGreatDoor.fill4 w g' x0 x1 x2 x3) g cs :=
  (((h.far hne).far hne).far hne).far hne
theorem Ow.far4 {w : World} {base size n g : Nat} {v : Value} {xs : List Value} (h : Ow w base size v n xs) (hg : v.ownBlock ≠ some g) (x0 x1 x2 x3 : Value) : Ow (fill4 w g x0 x1 x2 x3) base size v n xs :=
  (((h.store_far (a := ⟨g, 0, none⟩) hg x0).store_far (a := ⟨g, 1, none⟩) hg x1).store_far (a := ⟨g, 2, none⟩) hg x2).store_far (a := ⟨g, 3, none⟩) hg x3
theorem below_fill4 {w w' : World} {n g : Nat} (h : Below n w w') (hg : n ≤ g) (x0 x1 x2 x3 : Value) : Below n w (fill4 w' g x0 x1 x2 x3) :=
  (((h.setCell hg x0).setCell hg x1).setCell hg x2).setCell hg x3
theorem Rd.far4 {w : World} {B size n g : Nat} {A : Option Addr} {xs : List Value} (h : Rd w B size A n xs) (hg : B ≤ g) (x0 x1 x2 x3 : Value) : Rd (fill4 w g x0 x1 x2 x3) B size A n xs := h.below (below_fill4 (Below.refl _ _) hg _ _ _ _)
theorem size4 (w : World) (g : Nat) (x0 x1 x2 x3 : Value) : (fill4 w g x0 x1 x2 x3).heap.size = w.heap.size := by simp [fill4, World.setCell]
def fill2 (w : World) (g : Nat) (x0 x1 : Value) : World := (w.setCell ⟨g, 0, none⟩ x0).setCell ⟨g, 1, none⟩ x1
theorem Box.fill2 {w : World} {g : Nat} {a b : Value} (h : Box w g [a, b]) (x0 x1 : Value) : Box (fill2 w g x0 x1) g [x0, x1] := (h.set (k := 0) (x := x0) (by simp)).set (k := 1) (x := x1) (by simp)
theorem Box.far2 {w : World} {g g' : Nat} {cs : List Value} (h : Box w g cs) (hne : g ≠ g') (x0 x1 : Value) : Box (Go.Proofs.YtbplnglmjcmfiaaGreatDoor.fill2 w g' x0 x1) g cs := (h.far hne).far hne
theorem Ow.far2 {w : World} {base size n g : Nat} {v : Value} {xs : List Value} (h : Ow w base size v n xs) (hg : v.ownBlock ≠ some g) (x0 x1 : Value) : Ow (fill2 w g x0 x1) base size v n xs := (h.store_far (a := ⟨g, 0, none⟩) hg x0).store_far (a := ⟨g, 1, none⟩) hg x1
theorem below_fill2 {w w' : World} {n g : Nat} (h : Below n w w') (hg : n ≤ g) (x0 x1 : Value) : Below n w (fill2 w' g x0 x1) := (h.setCell hg x0).setCell hg x1
theorem size2 (w : World) (g : Nat) (x0 x1 : Value) : (fill2 w g x0 x1).heap.size = w.heap.size := by simp [fill2, World.setCell]
theorem ow_apart {w : World} {base size n g : Nat} {v : Value} {xs : List Value} (h : Ow w base size v n xs) (hg : g < base) : v.ownBlock ≠ some g := by
  intro e
  have := (h.lt _ e).1
  omega
/-- Results that are structs of four cells. -/
theorem results_rq {fn : Func} {p : Tmp} (h : fn.results = #[.cell p 55]) (tmps : Array Value) (w : World) (g : Nat) (a b c d : Value) (hb : Box w g [a, b, c, d]) (hp : tmps.getD p undef = .pointer (some ⟨g, 0, none⟩)) :
    (results fn tmps).run Tryz.prog w = .ok (.agg #[a, b, c, d]) w := by
  have hp' : tmps[p]?.getD undef = .pointer (some ⟨g, 0, none⟩) := by simpa using hp
  obtain ⟨k0, k1, k2, k3⟩ := hb.four
  simp [results, h, hp', go_sem, k0, k1, k2, k3]
theorem results_rs {fn : Func} {p : Tmp} (h : fn.results = #[.cell p 136]) (tmps : Array Value) (w : World) (g : Nat) (a b c d : Value) (hb : Box w g [a, b, c, d]) (hp : tmps.getD p undef = .pointer (some ⟨g, 0, none⟩)) :
    (results fn tmps).run Tryz.prog w = .ok (.agg #[a, b, c, d]) w := by
  have hp' : tmps[p]?.getD undef = .pointer (some ⟨g, 0, none⟩) := by simpa using hp
  obtain ⟨k0, k1, k2, k3⟩ := hb.four
  simp [results, h, hp', go_sem, k0, k1, k2, k3]
theorem results_rsf {fn : Func} {p q : Tmp} (h : fn.results = #[.cell p 136, .cell q 57]) (tmps : Array Value) (w : World) (g g' : Nat) (a b c d x y : Value) (hb : Box w g [a, b, c, d]) (hb' : Box w g' [x, y]) (hp : tmps.getD p undef = .pointer (some ⟨g, 0, none⟩)) (hq : tmps.getD q undef = .pointer (some ⟨g', 0, none⟩)) :
    (results fn tmps).run Tryz.prog w = .ok (.tuple #[.agg #[a, b, c, d], .agg #[x, y]]) w := by
  have hp' : tmps[p]?.getD undef = .pointer (some ⟨g, 0, none⟩) := by simpa using hp
  have hq' : tmps[q]?.getD undef = .pointer (some ⟨g', 0, none⟩) := by simpa using hq
  obtain ⟨k0, k1, k2, k3⟩ := hb.four
  obtain ⟨l0, l1⟩ := hb'.two
  simp [results, h, hp', hq', go_sem, k0, k1, k2, k3, l0, l1]
end Go.Proofs.YtbplnglmjcmfiaaGreatDoor
