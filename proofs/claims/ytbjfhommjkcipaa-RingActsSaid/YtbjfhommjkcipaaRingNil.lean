/- A nil ring and a nil post; the answers of law 3. -/
import Derived.Test.YtbjfhommjkcipaaRingI
import Derived.Test.YtbjfhommjkcipaaRingS
namespace Go.Proofs.Ytbjfhommjkcipaa
open Go.RowKit

theorem Rd.lit {w : World} {B size n : Nat} {A : Option Addr} {xs : List Value} (h : Rd w B size A n xs) {k : Nat} (hk : k < n) (h0 : 0 < size) :
    ∃ b off, A = some ⟨b, off, none⟩ ∧ b < B ∧ ∀ j u, xs[j]? = some u → w.cell? ⟨b, off + j, none⟩ = some u := by
  obtain ⟨a, rfl, hb, hc⟩ := h.at_ hk
  obtain ⟨b, off, spot⟩ := a
  have hlen : 0 < xs.length := by rw [h.1]; exact Nat.mul_pos (by omega) h0
  have hs : spot = none := by
    have h00 := hc 0 _ (List.getElem?_eq_getElem hlen)
    simpa [Addr.add] using World.cell?_spot h00
  subst hs
  refine ⟨b, off, rfl, hb, fun j u hu => ?_⟩
  have := hc j u hu
  rwa [Addr.add_lit] at this

set_option maxHeartbeats 800000 in
theorem lenN (w : World) : Calls Try.prog 28 #[.pointer none] w fun e w' => e = .returned (.int .i64 0) ∧ w = w' := by
  go_enter Try.func28, Try.ntmps28
  go_wp2
  go_ret
  exact ⟨rfl, rfl⟩
set_option maxHeartbeats 800000 in
theorem roomN (w : World) : Calls Try.prog 29 #[.pointer none] w fun e w' => e = .returned (.int .i64 0) ∧ w = w' := by
  go_enter Try.func29, Try.ntmps29
  go_wp2
  go_ret
  exact ⟨rfl, rfl⟩
set_option maxHeartbeats 800000 in
theorem peekN (k : Int) (w : World) : Calls Try.prog 27 #[.pointer none, .int .i64 k] w fun e w' => e = .returned (.slice none 0 0) ∧ w = w' := by
  have hlt : (if (0 : Int) < k then (0 : Int) else k) < 1 := by split <;> omega
  go_enter Try.func27, Try.ntmps27
  go_wp2_with (go_at_call 28; refine (lenN _).mono ?_; rintro e w' ⟨rfl, rfl⟩)
  all_goals go_ret
  all_goals exact ⟨rfl, rfl⟩
set_option maxHeartbeats 800000 in
theorem popN (k : Int) (w : World) : Calls Try.prog 24 #[.pointer none, .int .i64 k] w fun e w' => e = .returned (.slice none 0 0) ∧ w = w' := by
  go_enter Try.func24, Try.ntmps24
  go_wp2_with (go_at_call 27; refine (peekN _ _).mono ?_; rintro e w' ⟨rfl, rfl⟩)
  go_ret
  exact ⟨rfl, rfl⟩
set_option maxHeartbeats 800000 in
theorem pushN (A : Option Addr) (m c : Nat) (w : World) (hm : m ≤ 9223372036854775807) : Calls Try.prog 22 #[.pointer none, .slice A m c] w fun e w' => e = .returned (.int .i64 0) ∧ w = w' := by
  have hlt : (if (0 : Int) < m then (0 : Int) else (m : Int)) < 1 := by split <;> omega
  go_enter Try.func22, Try.ntmps22
  go_wp2_with (go_at_call 29; refine (roomN _).mono ?_; rintro e w' ⟨rfl, rfl⟩)
  all_goals go_ret
  all_goals exact ⟨rfl, rfl⟩
set_option maxHeartbeats 800000 in
theorem sendN (k : Int) (w : World) : Calls Try.prog 30 #[.pointer none, .int .i64 k] w fun e w' => e = .returned (.bool false) ∧ w = w' := by
  go_enter Try.func30, Try.ntmps30
  go_wp2
  go_ret
  exact ⟨rfl, rfl⟩
set_option maxHeartbeats 800000 in
theorem plenN (w : World) : Calls Try.prog 31 #[.pointer none] w fun e w' => e = .returned (.int .i64 0) ∧ w = w' := by
  go_enter Try.func31, Try.ntmps31
  go_wp2
  go_ret
  exact ⟨rfl, rfl⟩
set_option maxHeartbeats 800000 in
theorem nextN (w : World) : Calls Try.prog 26 #[.pointer none] w fun e w' => e = .returned (.tuple #[.int .i64 0, .bool false]) ∧ w = w' := by
  go_enter Try.func26, Try.ntmps26
  go_wp2
  go_ret2
  exact ⟨rfl, rfl⟩

set_option maxRecDepth 100000 in
set_option maxHeartbeats 3200000 in
theorem answers_any (w : World) : Calls Try.prog 7 #[] w fun e w' => e = .returned (.bool true) ∧ Below w.heap.size w w' := by
  go_enter Try.func7, Try.ntmps7
  go_wp2_with fail
  refine (newI 2 _).mono ?_
  rintro e w1 ⟨rfl, hr1, hb1⟩
  go_wp2_with fail
  generalize hw2 : w1.alloc (Obj.cells #[Value.int IntKind.i64 7, Value.int IntKind.i64 8, Value.int IntKind.i64 9] 3) = w2
  have hb2 : Below w1.heap.size w1 w2 := by rw [← hw2]; exact (Below.refl _ _).alloc (Nat.le_refl _) _
  have ho := Rd.of_own (own_new w1 #[Value.int IntKind.i64 7, Value.int IntKind.i64 8, Value.int IntKind.i64 9] 3 1 3 rfl (by simp [maxLen]) 0 (Nat.zero_le _))
  rw [hw2] at ho
  have hr2 := hr1.below hb2
  have hone : ∀ u ∈ (#[Value.int IntKind.i64 7, Value.int IntKind.i64 8, Value.int IntKind.i64 9] : Array Value).toList, u.oneCell' = true := by simp [Value.oneCell']
  refine (pushI w.heap.size 0 (most 2) none [] _ _ 3 3 _ w2 hr2 (by decide) (by simp) ho (Nat.le_refl _) (by omega) hone (Nat.le_refl _) 2 (by decide)).mono ?_
  rintro e w3 ⟨rfl, ⟨d3, hr3, -⟩, hg3⟩
  have hb3 : Below w.heap.size w w3 := (hb1.trans (hb2.mono hb1.size)).grown hg3 (Nat.le_trans hb1.size hb2.size) (fun k hk => by cases hk; exact Nat.le_refl _)
  clear hw2
  go_wp2_with fail
  refine (peekI w.heap.size _ (most 2) _ 5 _ w3 hr3 (by decide) (by simp [Value.oneCell']) 2 (by decide)).mono ?_
  rintro e w4 ⟨A, c, rfl, ho4, hc1, hc2, hb4⟩
  have hbb := hb3.trans (hb4.mono hb3.size)
  have hr4 := Rd.of_own ho4
  obtain ⟨b, off, rfl, -, hcell⟩ := hr4.lit (k := 1) (by omega) (by omega)
  have hc := hcell 1 (.int .i64 8) (by simp)
  clear hcell ho4 hr4 hr3 ho hr2 hr1
  go_wp2
  go_ret
  exact ⟨rfl, hbb⟩
end Go.Proofs.Ytbjfhommjkcipaa
