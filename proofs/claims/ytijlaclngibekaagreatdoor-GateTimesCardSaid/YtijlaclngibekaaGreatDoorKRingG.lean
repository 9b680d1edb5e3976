/- What it means that a block holds a ring; how that is kept. -/
import Derived.Test.YtijlaclngibekaaGreatDoorProg
import Derived.Test.YtijlaclngibekaaGreatDoorKBase
import Derived.Deep.QuietTactic
import Derived.BigQuiet
import Derived.Deep.DrawnRows
import Derived.BigRegion
import Derived.Deep.RegionLaw
namespace Go.Proofs.YtijlaclngibekaaGreatDoor
open Go.RowKit

/-- Block r is a ring of n elements xs, with place for 'most'; its elements lie in block d. -/
def IsRing (w : World) (t size r n most : Nat) (d : Option Nat) (xs : List Value) : Prop :=
  ∃ A c, w.heap[r]? = some (.cells #[.slice A n c, .int .i64 (most : Int)] t (0, 0)) ∧ n ≤ most ∧ n ≤ c ∧ c ≤ maxLen ∧ Rd w w.heap.size size A n xs ∧ d = A.map (·.block) ∧ (∀ g, d = some g → g ≠ r ∧ g < w.heap.size)
theorem IsRing.cells {w : World} {t size r n most : Nat} {d : Option Nat} {xs : List Value} (h : IsRing w t size r n most d xs) :
    ∃ A c, n ≤ c ∧ c ≤ maxLen ∧ w.cell? ⟨r, 0, none⟩ = some (.slice A n c) ∧ w.cell? ⟨r, 1, none⟩ = some (.int .i64 (most : Int)) ∧ w.frozen? ⟨r, 0, none⟩ = false ∧ r < w.heap.size ∧ Rd w w.heap.size size A n xs ∧ d = A.map (·.block) := by
  obtain ⟨A, c, hb, hn, hnc, hcm, hr, hd, hA⟩ := h
  exact ⟨A, c, hnc, hcm, by rw [cell_of_row w r 0 _ _ _ hb]; rfl, by rw [cell_of_row w r 1 _ _ _ hb]; rfl, by simp [World.frozen?, hb], lt_of_block hb, hr, hd⟩
theorem IsRing.le {w : World} {t size r n most : Nat} {d : Option Nat} {xs : List Value} (h : IsRing w t size r n most d xs) : n ≤ most := by obtain ⟨_, _, _, h, _⟩ := h; exact h
theorem IsRing.lt {w : World} {t size r n most : Nat} {d : Option Nat} {xs : List Value} (h : IsRing w t size r n most d xs) : r < w.heap.size := by obtain ⟨_, _, h, _⟩ := h; exact lt_of_block h
theorem IsRing.far {w : World} {t size r n most : Nat} {d : Option Nat} {xs : List Value} (h : IsRing w t size r n most d xs) : ∀ g, d = some g → g ≠ r ∧ g < w.heap.size := by obtain ⟨_, _, _, _, _, _, _, _, h⟩ := h; exact h
theorem IsRing.length {w : World} {t size r n most : Nat} {d : Option Nat} {xs : List Value} (h : IsRing w t size r n most d xs) : xs.length = n * size := by obtain ⟨_, _, _, _, _, _, h, _⟩ := h; exact h.1
theorem IsRing.keep {w w' : World} {t size r n most : Nat} {d : Option Nat} {xs : List Value} (h : IsRing w t size r n most d xs) (hs : w.heap.size ≤ w'.heap.size) (hw : ∀ k, k < w.heap.size → (k = r ∨ d = some k) → w'.heap[k]? = w.heap[k]?) : IsRing w' t size r n most d xs := by
  obtain ⟨A, c, hb, hn, hnc, hcm, hr, hd, hA⟩ := h
  refine ⟨A, c, (hw r (lt_of_block hb) (.inl rfl)).trans hb, hn, hnc, hcm, ⟨hr.1, hr.2.imp id ?_⟩, hd, fun g hg => ⟨(hA g hg).1, Nat.lt_of_lt_of_le (hA g hg).2 hs⟩⟩
  rintro ⟨a, rfl, hlt, hcell⟩
  refine ⟨a, rfl, Nat.lt_of_lt_of_le hlt hs, fun j u hu => ?_⟩
  rw [World.cell?_of_block (w := w) (hw _ (by rw [addr_add_block]; exact hlt) (.inr (by rw [addr_add_block]; exact hd)))]
  exact hcell j u hu
theorem IsRing.below {w w' : World} {t size r n most : Nat} {d : Option Nat} {xs : List Value} (h : IsRing w t size r n most d xs) (hw : Below w.heap.size w w') : IsRing w' t size r n most d xs :=
  h.keep hw.size fun k hk _ => hw.block k hk
/-- A write to another block. -/
theorem IsRing.grown {w w' : World} {t size r n most : Nat} {d : Option Nat} {xs : List Value} {row : Option Nat} (h : IsRing w t size r n most d xs) (hg : w.grownBy w' row) (h1 : row ≠ some r) (h2 : row = none ∨ row ≠ d) : IsRing w' t size r n most d xs :=
  h.keep hg.size fun k hk hkk => hg.block k hk (by
    rcases hkk with rfl | rfl
    · exact fun e => h1 e.symm
    · rcases h2 with rfl | h2
      · simp
      · exact fun e => h2 e.symm)
theorem IsRing.drewN {w : World} {t size r n most : Nat} {d : Option Nat} {xs : List Value} (h : IsRing w t size r n most d xs) (k : Nat) : IsRing (w.drewN k) t size r n most d xs := h
theorem IsRing.set_ {w : World} {t size r n most n' c' : Nat} {d : Option Nat} {A' : Option Addr} {xs xs' : List Value} (h : IsRing w t size r n most d xs) (hn : n' ≤ most) (hc : n' ≤ c') (hm : c' ≤ maxLen) (hr : Rd w w.heap.size size A' n' xs') (hA : ∀ a, A' = some a → a.block ≠ r ∧ a.block < w.heap.size) :
    IsRing (w.setCell ⟨r, 0, none⟩ (.slice A' n' c')) t size r n' most (A'.map (·.block)) xs' := by
  obtain ⟨A, c, hb, _⟩ := h
  have hz : (w.setCell ⟨r, 0, none⟩ (.slice A' n' c')).heap.size = w.heap.size := by simp [World.setCell]
  refine ⟨A', c', ?_, hn, hc, hm, ?_, rfl, ?_⟩
  · simp [World.setCell, Array.getElem?_modify, hb]
  · rw [hz]
    refine ⟨hr.1, hr.2.imp id ?_⟩
    rintro ⟨a, rfl, hb, hcell⟩
    refine ⟨a, rfl, hb, fun j u hu => ?_⟩
    rw [World.cell?_setCell_other w _ _ _ (fun e => (hA a rfl).1 (by have := congrArg Addr.block e; rw [addr_add_block] at this; simpa using this.symm))]
    exact hcell j u hu
  · intro g hg
    obtain ⟨a, rfl, rfl⟩ := Option.map_eq_some_iff.1 hg
    rw [hz]
    exact hA a rfl
/-- A new one. -/
theorem IsRing.made (w : World) (t size most : Nat) : IsRing (w.alloc (.cells #[.slice none 0 0, .int .i64 (most : Int)] t)) t size w.heap.size 0 most none [] :=
  ⟨none, 0, heap_alloc_new w _, Nat.zero_le _, Nat.le_refl _, by simp [maxLen], Rd.nil_, rfl, fun a h => by cases h⟩

/-- How many there may be. -/
def most (n : Int) : Nat := (min (max n 0) 65536).toNat
theorem most_le (n : Int) : most n ≤ 65536 := by unfold most; omega
theorem bound_any (n : Int) (w : World) :
    Calls Tryz.prog 48 #[.int .i64 n] w fun e w' => e = .returned (.int .i64 (most n)) ∧ w = w' := by
  have h1 := most_le n
  have h2 : n ≤ 0 → (most n : Int) = 0 := by unfold most; omega
  have h3 : 0 ≤ n → n ≤ 65536 → (most n : Int) = n := by unfold most; omega
  have h4 : 65536 ≤ n → (most n : Int) = 65536 := by unfold most; omega
  go_enter Tryz.func48, Tryz.ntmps48
  clear h2 h3 h4
  go_wp2
  all_goals go_ret
  all_goals exact ⟨ret_int (by unfold most; omega), rfl⟩
end Go.Proofs.YtijlaclngibekaaGreatDoor
/- The contracts of a ring of byte. -/
namespace Go.Proofs.YtijlaclngibekaaGreatDoor
open Go.RowKit

theorem infoRB : (Tryz.prog.info? 5).map (fun i => (i.zero, i.size, i.bytes)) = some (some (.int .u8 0), 1, 1) := by kernel_rfl

set_option maxRecDepth 100000 in
set_option maxHeartbeats 400000 in
theorem lenB (r n most : Nat) (d : Option Nat) (xs : List Value) (w : World) (h : IsRing w 103 1 r n most d xs) :
    Calls Tryz.prog 26 #[.pointer (some ⟨r, 0, none⟩)] w fun e w' => e = .returned (.int .i64 n) ∧ w = w' := by
  obtain ⟨A, c, -, -, h0, -⟩ := h.cells
  go_enter Tryz.func26, Tryz.ntmps26
  go_wp2
  go_ret
  exact ⟨rfl, rfl⟩
set_option maxRecDepth 100000 in
set_option maxHeartbeats 400000 in
theorem roomB (r n most : Nat) (d : Option Nat) (xs : List Value) (w : World) (h : IsRing w 103 1 r n most d xs) (hm : most ≤ 9223372036854775807) :
    Calls Tryz.prog 79 #[.pointer (some ⟨r, 0, none⟩)] w fun e w' => e = .returned (.int .i64 ((most : Int) - n)) ∧ ∃ k, w' = w.drewN k := by
  obtain ⟨A, c, -, -, h0, h1, -⟩ := h.cells
  have hn := h.le
  go_enter Tryz.func79, Tryz.ntmps79
  go_wp2
  go_quiet (fail)
  go_wp2
  go_ret
  exact ⟨rfl, _, rfl⟩
set_option maxRecDepth 100000 in
set_option maxHeartbeats 400000 in
theorem peekB_none (r n most : Nat) (d : Option Nat) (k : Int) (xs : List Value) (w : World) (h : IsRing w 103 1 r n most d xs) (hk : k < 1 ∨ n = 0) :
    Calls Tryz.prog 53 #[.pointer (some ⟨r, 0, none⟩), .int .i64 k] w fun e w' => e = .returned (.slice none 0 0) ∧ w = w' := by
  have hlt : (if (n : Int) < k then (n : Int) else k) < 1 := by split <;> omega
  go_enter Tryz.func53, Tryz.ntmps53
  go_wp2_with (go_at_call 26; refine (lenB r n most d xs _ h).mono ?_; rintro e w' ⟨rfl, rfl⟩)
  all_goals go_ret
  all_goals exact ⟨rfl, rfl⟩
set_option maxRecDepth 100000 in
set_option maxHeartbeats 800000 in
theorem peekB_some (r n most : Nat) (d : Option Nat) (k : Int) (m : Nat) (xs : List Value) (w : World) (h : IsRing w 103 1 r n most d xs) (hm : (if (n : Int) < k then (n : Int) else k) = m) (hm1 : 1 ≤ m) (hmost : most ≤ 1048576) (hone : ∀ u ∈ xs, u.oneCell' = true) :
    Calls Tryz.prog 53 #[.pointer (some ⟨r, 0, none⟩), .int .i64 k] w fun e w' => ∃ v, e = .returned v ∧ w'.ownsRow w.heap.size 5 1 v m (xs.take (m * 1)) ∧ Below w.heap.size w w' := by
  obtain ⟨i0, hi0, hz0, hz1, hz2⟩ := info_parts infoRB
  obtain ⟨A, c, hnc, hcm, h0, -, -, hrw, hr, -⟩ := h.cells
  have hn := h.le
  have h0' := cell_past w (.cells #[] 5) h0
  have hmn : m ≤ n := by revert hm; split <;> omega
  have hmc : (m : Int) ≤ (c : Int) := by omega
  have hlt : ¬ ((m : Int) < 1) := by omega
  have hr' : Rd (w.alloc (.cells #[] 5)) w.heap.size 1 A m (xs.take (m * 1)) := (hr.front hmn).alloc (Nat.le_refl _) (.cells #[] 5)
  have hone' : ∀ u ∈ xs.take (m * 1), u.oneCell' = true := fun u hu => hone u (List.mem_of_mem_take hu)
  have hb0 := own_new w #[] 5 1 0 rfl (by simp [maxLen]) w.heap.size (Nat.le_refl _)
  by_cases hnk : (n : Int) < k
  · rw [if_pos hnk] at hm
    obtain rfl : n = m := by omega
    clear hm
    go_enter Tryz.func53, Tryz.ntmps53
    go_wp2_with (first | (go_at_call 26; refine (lenB r n most d xs _ h).mono ?_; rintro e w' ⟨rfl, rfl⟩) | (at_builtin; refine wpl_append _ rfl _ _ _ rfl w.heap.size 5 i0 _ 1 1 Tryz.underlying35 hi0 hz0 hz1 hz2 rfl (by omega) _ _ _ rfl _ _ _ _ _ rfl hb0 hr' hone' (by simp [maxLen]; omega) (by omega) (by simp) ?_; intro v1 w1 hown1 hbel1 _))
    go_ret
    exact ⟨_, rfl, by simpa using hown1, ((Below.refl _ _).alloc (Nat.le_refl _) _).trans hbel1⟩
  · rw [if_neg hnk] at hm
    subst hm
    go_enter Tryz.func53, Tryz.ntmps53
    go_wp2_with (first | (go_at_call 26; refine (lenB r n most d xs _ h).mono ?_; rintro e w' ⟨rfl, rfl⟩) | (at_builtin; refine wpl_append _ rfl _ _ _ rfl w.heap.size 5 i0 _ 1 1 Tryz.underlying35 hi0 hz0 hz1 hz2 rfl (by omega) _ _ _ rfl _ _ _ _ _ rfl hb0 hr' hone' (by simp [maxLen]; omega) (by omega) (by simp) ?_; intro v1 w1 hown1 hbel1 _))
    go_ret
    exact ⟨_, rfl, by simpa using hown1, ((Below.refl _ _).alloc (Nat.le_refl _) _).trans hbel1⟩

/-- The first ones, in new memory. -/
theorem peekB (r n most : Nat) (d : Option Nat) (k : Int) (xs : List Value) (w : World) (h : IsRing w 103 1 r n most d xs) (hmost : most ≤ 1048576) (hone : ∀ u ∈ xs, u.oneCell' = true) (m : Nat) (hm : m = (min k n).toNat) :
    Calls Tryz.prog 53 #[.pointer (some ⟨r, 0, none⟩), .int .i64 k] w fun e w' => ∃ A c, e = .returned (.slice A m c) ∧ w'.ownsRow w.heap.size 5 1 (.slice A m c) m (xs.take (m * 1)) ∧ m ≤ c ∧ c ≤ maxLen ∧ Below w.heap.size w w' := by
  by_cases hk : k < 1 ∨ n = 0
  · obtain rfl : m = 0 := by omega
    refine (peekB_none r n most d k xs w h hk).mono ?_
    rintro e w' ⟨rfl, rfl⟩
    exact ⟨none, 0, rfl, World.ownsRow_nil _ _ _ _, Nat.le_refl _, Nat.zero_le _, Below.refl _ _⟩
  · refine (peekB_some r n most d k m xs w h (by split <;> omega) (by omega) hmost hone).mono ?_
    rintro e w' ⟨v, rfl, ho, hb⟩
    obtain ⟨A, c, rfl, hc1, hc2, -⟩ := own_shape ho
    exact ⟨A, c, rfl, ho, hc1, hc2, hb⟩
set_option maxRecDepth 100000 in
set_option maxHeartbeats 800000 in
theorem popB (r n most : Nat) (d : Option Nat) (k : Int) (xs : List Value) (w : World) (h : IsRing w 103 1 r n most d xs) (hmost : most ≤ 1048576) (hone : ∀ u ∈ xs, u.oneCell' = true) (m : Nat) (hm : m = (min k n).toNat) :
    Calls Tryz.prog 33 #[.pointer (some ⟨r, 0, none⟩), .int .i64 k] w fun e w' => ∃ A c, e = .returned (.slice A m c) ∧ w'.ownsRow w.heap.size 5 1 (.slice A m c) m (xs.take (m * 1)) ∧
      IsRing w' 103 1 r (n - m) most d (xs.drop (m * 1)) ∧ w.grownBy w' (some r) := by
  have hp := peekB r n most d k xs w h hmost hone m hm
  have hn := h.le
  have hmn : m ≤ n := by omega
  clear hm
  by_cases hm0 : m = 0
  · subst hm0
    go_enter Tryz.func33, Tryz.ntmps33
    go_wp2_with (go_at_call 53; refine hp.mono ?_; rintro e w1 ⟨A, c, rfl, ho, hc1, hc2, hb⟩)
    go_ret
    exact ⟨A, c, rfl, ho, by simpa using h.below hb, grown_of_below hb⟩
  · have hm1 : (0 : Int) < (m : Int) := by omega
    go_enter Tryz.func33, Tryz.ntmps33
    go_wp2_with fail
    refine hp.mono ?_
    rintro e w1 ⟨A, c, rfl, ho, hc1, hc2, hb⟩
    have h1 := h.below hb
    obtain ⟨A1, c3, hnc, hcm, h0, h01, hf, hrw, hr, hne⟩ := h1.cells
    clear hp
    have hcut := hr.cut (k := m) (m := n) (cap := c3) hmn (Nat.le_refl _) hnc
    have hx : (xs.drop (m * 1)).take ((n - m) * 1) = xs.drop (m * 1) :=
      List.take_of_length_le (by rw [List.length_drop, hr.1, Nat.sub_mul]; exact Nat.le_refl _)
    rw [hx] at hcut
    have hdd : (if c3 = m then A1 else A1.map (fun x => x.add (m * 1))).map (·.block) = d := by
      rw [hne]
      split
      · rfl
      · cases A1 <;> simp [addr_add_block]
    have hne' : ∀ a, (if c3 = m then A1 else A1.map (fun x => x.add (m * 1))) = some a → a.block ≠ r ∧ a.block < w1.heap.size := by
      intro a ha
      exact h1.far _ (by rw [← hdd, ha]; rfl)
    have hset := h1.set_ (n' := n - m) (c' := c3 - m) (by omega) (by omega) (by omega) hcut hne'
    have hr0 := h.lt
    have hgr : ∀ u, w.grownBy (w1.setCell ⟨r, 0, none⟩ u) (some r) := fun u => grown_set (grown_of_below hb) 0 u
    rw [hdd] at hset
    have HS := hide hset
    clear hset hcut hx hne hr hne' hdd
    go_wp2
    · have hcase : c3 = m := by assumption
      rw [if_pos hcase, hcase, Nat.sub_self] at HS
      go_ret
      exact ⟨A, c, rfl, by simpa using ownsRow_setCell_below ho hr0 _, by simpa using HS.out, hgr _⟩
    · have hcase : ¬ c3 = m := by assumption
      rw [if_neg hcase] at HS
      go_ret
      exact ⟨A, c, rfl, by simpa using ownsRow_setCell_below ho hr0 _, by simpa using HS.out, hgr _⟩

set_option maxRecDepth 100000 in
set_option maxHeartbeats 3200000 in
/-- As many more as there is place for. -/
theorem pushB_some (r n most : Nat) (d : Option Nat) (xs ys : List Value) (A' : Option Addr) (m c' B : Nat) (w : World) (h : IsRing w 103 1 r n most d xs) (hmost : most ≤ 1048576) (hone : ∀ u ∈ xs, u.oneCell' = true)
    (hy : Rd w B 1 A' m ys) (hmc : m ≤ c') (hm63 : m ≤ 9223372036854775807) (hone' : ∀ u ∈ ys, u.oneCell' = true) (hB : B ≤ w.heap.size) (p : Nat) (hp0 : 1 ≤ p) (hpm : p ≤ m)
    (hroom : Calls Tryz.prog 79 #[.pointer (some ⟨r, 0, none⟩)] w fun e w' => ∃ q : Int, e = .returned (.int .i64 q) ∧ p ≤ q ∧ q ≤ (most : Int) - n ∧ (p < q → p = m) ∧ ∃ k, w' = w.drewN k) :
    Calls Tryz.prog 51 #[.pointer (some ⟨r, 0, none⟩), .slice A' m c'] w fun e w' => e = .returned (.int .i64 p) ∧
      (∃ d', IsRing w' 103 1 r (n + p) most d' (xs ++ ys.take (p * 1)) ∧ (d' = d ∨ ∀ g, d' = some g → w.heap.size ≤ g)) ∧ w.grownBy w' (some r) := by
  obtain ⟨i0, hi0, hz0, hz1, hz2⟩ := info_parts infoRB
  obtain ⟨A, c, hnc, hcm, h0, h01, hf, hrw, hr, hne⟩ := h.cells
  have hn := h.le
  have hpc : (p : Int) ≤ (c' : Int) := by omega
  have hsum : IntKind.i64.wrap ((n : Int) + (p : Int)) = (n : Int) + (p : Int) ∨ 1048576 < p := by
    rcases Nat.lt_or_ge 1048576 p with h | h
    · exact .inr h
    · left; rw [IntKind.wrap_i64]; omega
  have hb0 : ∀ w : World, (w.alloc (.cells (madeCells #[.int .u8 0] (n + p)) 5)).ownsRow w.heap.size 5 1 (.slice (some ⟨w.heap.size, 0, none⟩) 0 (n + p)) 0 [] ∨ 1048576 < p := fun w => by
    rcases Nat.lt_or_ge 1048576 p with h | h
    · exact .inr h
    · left; exact World.ownsRow_made w _ _ (Nat.le_refl _) (by simp [maxLen]; omega) (by simp [madeCells])
  have hal : ∀ (kk : Nat) (o : Obj), ((w.drewN kk).alloc o).cell? ⟨r, 0, none⟩ = some (.slice A n c) := fun kk o => cell_past (w.drewN kk) o h0
  have hmk := fun h : p ≤ 1048576 => run_make_cap (P := Tryz.prog) 35 5 i0 _ 1 1 Tryz.underlying35 hi0 hz0 hz1 hz2 ((n : Int) + (p : Int)) (n + p) (by omega) (by omega) (by omega)
  have hlt1 : ¬ ((p : Int) < 1) := by omega
  have hend : ∀ (w2 : World) (A2 : Option Addr) (c4 : Nat), w2.ownsRow w.heap.size 5 1 (.slice A2 (0 + n + p) c4) (0 + n + p) ([] ++ xs ++ ys.take (p * 1)) → 0 + n + p ≤ c4 → c4 ≤ maxLen → (∀ a, A2 = some a → w.heap.size ≤ a.block) → Below w.heap.size w w2 → p ≤ most - n →
      (∃ d', IsRing (w2.setCell ⟨r, 0, none⟩ (.slice A2 (n + p) c4)) 103 1 r (n + p) most d' (xs ++ ys.take (p * 1)) ∧ (d' = d ∨ ∀ g, d' = some g → w.heap.size ≤ g)) ∧ w.grownBy (w2.setCell ⟨r, 0, none⟩ (.slice A2 (n + p) c4)) (some r) := by
    intro w2 A2 c4 ho h1 h2 h3 hb h4
    simp only [Nat.zero_add, List.nil_append] at ho h1
    refine ⟨?_, grown_set (grown_of_below hb) 0 _⟩
    rcases A2 with _ | a2
    · exact ⟨none, (h.below hb).set_ (by omega) h1 h2 (Rd.of_own ho) (fun a ha => by cases ha), .inr (fun g hg => by cases hg)⟩
    · have ha2 := h3 a2 rfl
      exact ⟨some a2.block, (h.below hb).set_ (by omega) h1 h2 (Rd.of_own ho) (fun a ha => by cases ha; exact ⟨by omega, (ho.lt a2.block rfl).2⟩), .inr (fun g hg => by cases hg; exact ha2)⟩
  have HE := hide hend
  have hyf : ∀ w', Below w.heap.size w w' → Rd w' B 1 A' p (ys.take (p * 1)) := fun w' hb => (hy.below (hb.mono hB)).front hpm
  have HY := hide hyf
  have hone2 : ∀ u ∈ ys.take (p * 1), u.oneCell' = true := fun u hu => hone' u (List.mem_of_mem_take hu)
  have HO := hide hone2
  have HNE := hide hne
  clear hend hyf hone2 hne h01
  go_enter Tryz.func51, Tryz.ntmps51
  go_wp2_with fail
  refine hroom.mono ?_
  rintro e w' ⟨q, rfl, hq1, hq2, hq3, kq, rfl⟩
  clear hroom
  have hp20 : p ≤ 1048576 := by omega
  replace hmk := hmk hp20
  replace hsum := hsum.resolve_right (by omega)
  replace hb0 := fun w => (hb0 w).resolve_right (by omega)
  have HQ := hide hq3
  have hmin : (if (q : Int) < (m : Int) then (q : Int) else (m : Int)) = (p : Int) := by
    have := HQ.out
    split <;> omega
  clear hq3
  by_cases hqm : q < (m : Int)
  · rw [if_pos hqm] at hmin
    subst hmin
    go_wp2
    go_region_law (first
      | (refine step_append _ (by rfl) (.tmp 21) (.tmp 25) _ (by rfl) w.heap.size 5 i0 _ 1 1 Tryz.underlying35 hi0 hz0 hz1 hz2 (by rfl) (by omega) _ _ _ (by rfl) _ _ _ _ _ (by rfl) (hb0 _) ((hr.drewN _).alloc (by simp) _) hone (by simp [maxLen]; omega) (by omega) (by simp) ?_; intro v1 w1 hown1 hbel1' hg1; have hbel1 := below_made hbel1'; clear hbel1'; have c1 := (hbel1.cell (p := ⟨r, 0, none⟩) hrw).trans h0; have f1 := (hbel1.frozen (p := ⟨r, 0, none⟩) hrw).trans hf)
      | (refine step_append _ (by rfl) (.tmp 26) (.tmp 29) _ (by rfl) w.heap.size 5 i0 _ 1 1 Tryz.underlying35 hi0 hz0 hz1 hz2 (by rfl) (by omega) _ _ _ (by rfl) _ _ _ _ _ (by rfl) hown1 (HY.out _ hbel1) HO.out (by simp [maxLen]; omega) (by omega) hbel1.size ?_; intro v2 w2 hown2 hbel2' hg2; have hbel2 := hbel1.trans hbel2'; clear hbel2' c1 f1; have c2 := (hbel2.cell (p := ⟨r, 0, none⟩) hrw).trans h0; have f2 := (hbel2.frozen (p := ⟨r, 0, none⟩) hrw).trans hf; obtain ⟨A2, c4, rfl, hc41, hc42, hc43⟩ := own_shape hown2))
    all_goals
      go_wp2
      go_ret
      exact ⟨rfl, HE.out w2 A2 c4 hown2 hc41 hc42 hc43 hbel2 (by omega)⟩
  · rw [if_neg hqm] at hmin
    obtain rfl : m = p := by omega
    clear hmin
    go_wp2
    go_region_law (first
      | (refine step_append _ (by rfl) (.tmp 21) (.tmp 25) _ (by rfl) w.heap.size 5 i0 _ 1 1 Tryz.underlying35 hi0 hz0 hz1 hz2 (by rfl) (by omega) _ _ _ (by rfl) _ _ _ _ _ (by rfl) (hb0 _) ((hr.drewN _).alloc (by simp) _) hone (by simp [maxLen]; omega) (by omega) (by simp) ?_; intro v1 w1 hown1 hbel1' hg1; have hbel1 := below_made hbel1'; clear hbel1'; have c1 := (hbel1.cell (p := ⟨r, 0, none⟩) hrw).trans h0; have f1 := (hbel1.frozen (p := ⟨r, 0, none⟩) hrw).trans hf)
      | (refine step_append _ (by rfl) (.tmp 26) (.tmp 29) _ (by rfl) w.heap.size 5 i0 _ 1 1 Tryz.underlying35 hi0 hz0 hz1 hz2 (by rfl) (by omega) _ _ _ (by rfl) _ _ _ _ _ (by rfl) hown1 (HY.out _ hbel1) HO.out (by simp [maxLen]; omega) (by omega) hbel1.size ?_; intro v2 w2 hown2 hbel2' hg2; have hbel2 := hbel1.trans hbel2'; clear hbel2' c1 f1; have c2 := (hbel2.cell (p := ⟨r, 0, none⟩) hrw).trans h0; have f2 := (hbel2.frozen (p := ⟨r, 0, none⟩) hrw).trans hf; obtain ⟨A2, c4, rfl, hc41, hc42, hc43⟩ := own_shape hown2))
    all_goals
      go_wp2
      go_ret
      exact ⟨rfl, HE.out w2 A2 c4 hown2 hc41 hc42 hc43 hbel2 (by omega)⟩
set_option maxRecDepth 100000 in
set_option maxHeartbeats 800000 in
theorem pushB_none (r n most : Nat) (d : Option Nat) (xs : List Value) (A' : Option Addr) (m c' : Nat) (w : World) (h : IsRing w 103 1 r n most d xs) (hmost : most ≤ 1048576)
    (hm63 : m ≤ 9223372036854775807) (hp : m = 0 ∨ n = most) :
    Calls Tryz.prog 51 #[.pointer (some ⟨r, 0, none⟩), .slice A' m c'] w fun e w' => e = .returned (.int .i64 0) ∧ ∃ k, w' = w.drewN k := by
  have hn := h.le
  have hlt : (if (most : Int) - n < m then (most : Int) - n else (m : Int)) < 1 := by split <;> omega
  go_enter Tryz.func51, Tryz.ntmps51
  go_wp2_with (go_at_call 79; refine (roomB r n most d xs _ h (by omega)).mono ?_; rintro e w' ⟨rfl, kq, rfl⟩)
  all_goals go_ret
  all_goals exact ⟨rfl, _, rfl⟩
/-- As many more as there is place for. -/
theorem pushB (r n most : Nat) (d : Option Nat) (xs ys : List Value) (A' : Option Addr) (m c' B : Nat) (w : World) (h : IsRing w 103 1 r n most d xs) (hmost : most ≤ 1048576) (hone : ∀ u ∈ xs, u.oneCell' = true)
    (hy : Rd w B 1 A' m ys) (hmc : m ≤ c') (hm63 : m ≤ 9223372036854775807) (hone' : ∀ u ∈ ys, u.oneCell' = true) (hB : B ≤ w.heap.size) (p : Nat) (hp : p = min m (most - n)) :
    Calls Tryz.prog 51 #[.pointer (some ⟨r, 0, none⟩), .slice A' m c'] w fun e w' => e = .returned (.int .i64 p) ∧
      (∃ d', IsRing w' 103 1 r (n + p) most d' (xs ++ ys.take (p * 1)) ∧ (d' = d ∨ ∀ g, d' = some g → w.heap.size ≤ g)) ∧ w.grownBy w' (some r) := by
  have hn := h.le
  by_cases hp0 : p < 1
  · obtain rfl : p = 0 := by omega
    refine (pushB_none r n most d xs A' m c' w h hmost hm63 (by omega)).mono ?_
    rintro e w' ⟨rfl, k, rfl⟩
    exact ⟨rfl, ⟨d, by simpa using h.drewN k, .inl rfl⟩, grown_of_below (below_drewN (Below.refl _ _))⟩
  · refine pushB_some r n most d xs ys A' m c' B w h hmost hone hy hmc hm63 hone' hB p (by omega) (by omega) ?_
    refine (roomB r n most d xs w h (by omega)).mono ?_
    rintro e w' ⟨rfl, k, rfl⟩
    exact ⟨_, rfl, by omega, by omega, by omega, k, rfl⟩
set_option maxRecDepth 100000 in
set_option maxHeartbeats 400000 in
/-- A new one, empty. -/
theorem newB (n : Int) (w : World) :
    Calls Tryz.prog 28 #[.int .i64 n] w fun e w' => e = .returned (.pointer (some ⟨w.heap.size, 0, none⟩)) ∧ IsRing w' 103 1 w.heap.size 0 (most n) none [] ∧ Below w.heap.size w w' := by
  go_enter Tryz.func28, Tryz.ntmps28
  go_wp2_with (go_at_call 48; refine (bound_any _ _).mono ?_; rintro e w' ⟨rfl, rfl⟩)
  go_ret
  exact ⟨rfl, IsRing.made _ _ _ _, (Below.refl _ _).alloc (Nat.le_refl _) _⟩
end Go.Proofs.YtijlaclngibekaaGreatDoor
