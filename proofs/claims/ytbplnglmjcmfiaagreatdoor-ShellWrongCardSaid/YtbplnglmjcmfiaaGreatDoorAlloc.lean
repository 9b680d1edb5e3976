/- Rows and structs that were laid: read again. -/
import Derived.Test.YtbplnglmjcmfiaaGreatDoorOwn
namespace Go.Proofs.YtbplnglmjcmfiaaGreatDoor
open Go.RowKit
theorem rd_new (w : World) (cs : Array Value) (e : TypeId) (size n : Nat) (hl : cs.size = n * size) : Rd (w.alloc (.cells cs e)) (w.heap.size + 1) size (some ⟨w.heap.size, 0, none⟩) n cs.toList := by
  refine ⟨by simpa using hl, .inr ⟨_, rfl, by simp, fun j u hu => ?_⟩⟩
  rw [Addr.add_lit, Nat.zero_add, World.cell?_alloc_new]
  simpa using hu
end Go.Proofs.YtbplnglmjcmfiaaGreatDoor
namespace Go.Proofs.YtbplnglmjcmfiaaGreatDoor.FrameLengthsP
open Go.RowKit

theorem step_ {w w' : World} {s n : Nat} {A : Option Addr} {xs : List Value} (h : Rd w w.heap.size s A n xs) (hb : Below w.heap.size w w') : Rd w' w'.heap.size s A n xs := (h.below hb).mono hb.size
theorem rd_put (w : World) (cs : Array Value) (e : TypeId) (size n : Nat) (hl : cs.size = n * size) : Rd (w.alloc (.cells cs e)) (w.alloc (.cells cs e)).heap.size size (some ⟨w.heap.size, 0, none⟩) n cs.toList := (rd_new w cs e size n hl).mono (by simp)
theorem rd_two {w : World} {B g : Nat} {u v : Value} (h : Rd w B 2 (some ⟨g, 0, none⟩) 1 [u, v]) : w.cell? ⟨g, 0, none⟩ = some u ∧ w.cell? ⟨g, 1, none⟩ = some v := by
  obtain ⟨a, ha, _, hc⟩ := h.at_ (k := 0) (by omega)
  cases ha
  exact ⟨by have := hc 0 u rfl; rwa [Addr.add_lit] at this, by have := hc 1 v rfl; rwa [Addr.add_lit] at this⟩
end Go.Proofs.YtbplnglmjcmfiaaGreatDoor.FrameLengthsP
namespace Go.Proofs.YtbplnglmjcmfiaaGreatDoor.FrameSmugglesP
open Go.RowKit
open FrameLengthsP (step_ rd_put rd_two)
/-- Several objects laid, one behind the other. -/
def allocs : World → List Obj → World
  | w, [] => w
  | w, o :: os => allocs (w.alloc o) os
theorem allocs_size : ∀ (os : List Obj) (w : World), (allocs w os).heap.size = w.heap.size + os.length
  | [], w => rfl
  | o :: os, w => by
    show (allocs (w.alloc o) os).heap.size = _
    rw [allocs_size os]; simp; omega
theorem allocs_below : ∀ (os : List Obj) (w : World), Below w.heap.size w (allocs w os)
  | [], w => Below.refl _ _
  | o :: os, w => ((Below.refl _ w).alloc (Nat.le_refl _) o).trans ((allocs_below os (w.alloc o)).mono (by simp))
theorem allocs_cell : ∀ (os : List Obj) (w : World) (i j : Nat) (cs : Array Value) (e : TypeId), os[i]? = some (.cells cs e) → (allocs w os).cell? ⟨w.heap.size + i, j, none⟩ = cs[j]?
  | [], w, i, j, cs, e, h => by simp at h
  | o :: os, w, 0, j, cs, e, h => by
    simp only [List.getElem?_cons_zero, Option.some.injEq] at h
    subst h
    show (allocs (w.alloc _) os).cell? ⟨w.heap.size, j, none⟩ = _
    rw [(allocs_below os (w.alloc (.cells cs e))).cell (p := ⟨w.heap.size, j, none⟩) (by simp), World.cell?_alloc_new]
  | o :: os, w, i + 1, j, cs, e, h => by
    rw [List.getElem?_cons_succ] at h
    have := allocs_cell os (w.alloc o) i j cs e h
    have hs : (w.alloc o).heap.size = w.heap.size + 1 := by simp
    rw [hs, show w.heap.size + 1 + i = w.heap.size + (i + 1) by omega] at this
    exact this
theorem allocs_rd (os : List Obj) (w : World) (i n size : Nat) (cs : Array Value) (e : TypeId) (h : os[i]? = some (.cells cs e)) (hl : cs.size = n * size) :
    Rd (allocs w os) (allocs w os).heap.size size (some ⟨w.heap.size + i, 0, none⟩) n cs.toList := by
  have hi : i < os.length := (List.getElem?_eq_some_iff.1 h).1
  refine ⟨by simpa using hl, .inr ⟨_, rfl, by rw [allocs_size]; simp; omega, fun j u hu => ?_⟩⟩
  rw [Addr.add_lit, Nat.zero_add, allocs_cell os w i j cs e h]
  simpa using hu
end Go.Proofs.YtbplnglmjcmfiaaGreatDoor.FrameSmugglesP
