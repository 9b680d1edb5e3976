/- What it means that a block holds a ring; how that is kept. -/
import Derived.Test.YtbplnglmjcmfiaaGreatDoorProg
import Derived.Test.YtbplnglmjcmfiaaGreatDoorOwn
import Derived.Deep.QuietTactic
import Derived.BigQuiet
import Derived.Deep.DrawnRows
import Derived.BigRegion
import Derived.Deep.RegionLaw
namespace Go.Proofs.YtbplnglmjcmfiaaGreatDoor
open Go.RowKit

/-- Block r is a ring of n elements xs, with place for 'most'; its elements lie in block d. -/
def IsRing (w : World) (t size r n most : Nat) (d : Option Nat) (xs : List Value) : Prop :=
  ∃ A c, w.heap[r]? = some (.cells #[.slice A n c, .int .i64 (most : Int)] t (0, 0)) ∧ n ≤ most ∧ n ≤ c ∧ c ≤ maxLen ∧ Rd w w.heap.size size A n xs ∧ d = A.map (·.block) ∧ (∀ g, d = some g → g ≠ r ∧ g < w.heap.size)
theorem IsRing.cells {w : World} {t size r n most : Nat} {d : Option Nat} {xs : List Value} (h : IsRing w t size r n most d xs) :
    ∃ A c, n ≤ c ∧ c ≤ maxLen ∧ w.cell? ⟨r, 0, none⟩ = some (.slice A n c) ∧ w.cell? ⟨r, 1, none⟩ = some (.int .i64 (most : Int)) ∧ w.frozen? ⟨r, 0, none⟩ = false ∧ r < w.heap.size ∧ Rd w w.heap.size size A n xs ∧ d = A.map (·.block) := by
  obtain ⟨A, c, hb, hn, hnc, hcm, hr, hd, hA⟩ := h
  exact ⟨A, c, hnc, hcm, by rw [cell_of_row w r 0 _ _ _ hb]; rfl, by rw [cell_of_row w r 1 _ _ _ hb]; rfl, by simp [World.frozen?, hb], lt_of_block hb, hr, hd⟩
theorem IsRing.le {w : World} {t size r n most : Nat} {d : Option Nat} {xs : List Value} (h : IsRing w t size r n most d xs) : n ≤ most := by obtain ⟨_, _, _, h, _⟩ := h; exact h
theorem IsRing.lt {w : World} {t size r n most : Nat} {d : Option Nat} {xs : List Value} (h : IsRing w t size r n most d xs) : r < w.heap.size := by obtain ⟨_, _, h, _⟩ := h; exact lt_of_block h
theorem IsRing.far {w : World} {t size r n most : Nat} {d : Option Nat} {xs : List Value} (h : IsRing w t size r n most d xs) : ∀ g, d = some g → g ≠ r ∧ g < w.heap.size := by obtain ⟨_, _, _, _, _, _, _, _, h⟩ := h; exact h
theorem IsRing.length {w : World} {t size r n most : Nat} {d : Option Nat} {xs : List Value} (h : IsRing w t size r n most d xs) : xs.length = n * size := by obtain ⟨_, _, _, _, _, _, h, _⟩ := h; exact h.1
theorem IsRing.keep {w w' : World} {t size r n most : Nat} {d : Option Nat} {xs : List Value} (h : IsRing w t size r n most d xs) (hs : w.heap.size ≤ w'.heap.size) (hw : ∀ k, k < w.heap.size → (k = r ∨ d = some k) → w'.heap[k]? = w.heap[k]?) : IsRing w' t size r n most d xs := by
  obtain ⟨A, c, hb, hn, hnc, hcm, hr, hd, hA⟩ := h
  refine ⟨A, c, (hw r (lt_of_block hb) (.inl rfl)).trans hb, hn, hnc, hcm, ⟨hr.1, hr.2.imp id ?_⟩, hd, fun g hg => ⟨(hA g hg).1, Nat.lt_of_lt_of_le (hA g hg).2 hs⟩⟩
  rintro ⟨a, rfl, hlt, hcell⟩
  refine ⟨a, rfl, Nat.lt_of_lt_of_le hlt hs, fun j u hu => ?_⟩
  rw [World.cell?_of_block (w := w) (hw _ (by rw [addr_add_block]; exact hlt) (.inr (by rw [addr_add_block]; exact hd)))]
  exact hcell j u hu
theorem IsRing.below {w w' : World} {t size r n most : Nat} {d : Option Nat} {xs : List Value} (h : IsRing w t size r n most d xs) (hw : Below w.heap.size w w') : IsRing w' t size r n most d xs :=
  h.keep hw.size fun k hk _ => hw.block k hk
/-- A write to another block. -/
theorem IsRing.grown {w w' : World} {t size r n most : Nat} {d : Option Nat} {xs : List Value} {row : Option Nat} (h : IsRing w t size r n most d xs) (hg : w.grownBy w' row) (h1 : row ≠ some r) (h2 : row = none ∨ row ≠ d) : IsRing w' t size r n most d xs :=
  h.keep hg.size fun k hk hkk => hg.block k hk (by
    rcases hkk with rfl | rfl
    · exact fun e => h1 e.symm
    · rcases h2 with rfl | h2
      · simp
      · exact fun e => h2 e.symm)
theorem IsRing.drewN {w : World} {t size r n most : Nat} {d : Option Nat} {xs : List Value} (h : IsRing w t size r n most d xs) (k : Nat) : IsRing (w.drewN k) t size r n most d xs := h
theorem IsRing.set_ {w : World} {t size r n most n' c' : Nat} {d : Option Nat} {A' : Option Addr} {xs xs' : List Value} (h : IsRing w t size r n most d xs) (hn : n' ≤ most) (hc : n' ≤ c') (hm : c' ≤ maxLen) (hr : Rd w w.heap.size size A' n' xs') (hA : ∀ a, A' = some a → a.block ≠ r ∧ a.block < w.heap.size) :
    IsRing (w.setCell ⟨r, 0, none⟩ (.slice A' n' c')) t size r n' most (A'.map (·.block)) xs' := by
  obtain ⟨A, c, hb, _⟩ := h
  have hz : (w.setCell ⟨r, 0, none⟩ (.slice A' n' c')).heap.size = w.heap.size := by simp [World.setCell]
  refine ⟨A', c', ?_, hn, hc, hm, ?_, rfl, ?_⟩
  · simp [World.setCell, Array.getElem?_modify, hb]
  · rw [hz]
    refine ⟨hr.1, hr.2.imp id ?_⟩
    rintro ⟨a, rfl, hb, hcell⟩
    refine ⟨a, rfl, hb, fun j u hu => ?_⟩
    rw [World.cell?_setCell_other w _ _ _ (fun e => (hA a rfl).1 (by have := congrArg Addr.block e; rw [addr_add_block] at this; simpa using this.symm))]
    exact hcell j u hu
  · intro g hg
    obtain ⟨a, rfl, rfl⟩ := Option.map_eq_some_iff.1 hg
    rw [hz]
    exact hA a rfl
/-- A new one. -/
theorem IsRing.made (w : World) (t size most : Nat) : IsRing (w.alloc (.cells #[.slice none 0 0, .int .i64 (most : Int)] t)) t size w.heap.size 0 most none [] :=
  ⟨none, 0, heap_alloc_new w _, Nat.zero_le _, Nat.le_refl _, by simp [maxLen], Rd.nil_, rfl, fun a h => by cases h⟩

/-- How many there may be. -/
def most (n : Int) : Nat := (min (max n 0) 65536).toNat
theorem most_le (n : Int) : most n ≤ 65536 := by unfold most; omega
theorem bound_any (n : Int) (w : World) :
    Calls Tryz.prog 70 #[.int .i64 n] w fun e w' => e = .returned (.int .i64 (most n)) ∧ w = w' := by
  have h1 := most_le n
  have h2 : n ≤ 0 → (most n : Int) = 0 := by unfold most; omega
  have h3 : 0 ≤ n → n ≤ 65536 → (most n : Int) = n := by unfold most; omega
  have h4 : 65536 ≤ n → (most n : Int) = 65536 := by unfold most; omega
  go_enter Tryz.func70, Tryz.ntmps70
  clear h2 h3 h4
  go_wp2
  all_goals go_ret
  all_goals exact ⟨ret_int (by unfold most; omega), rfl⟩
end Go.Proofs.YtbplnglmjcmfiaaGreatDoor
