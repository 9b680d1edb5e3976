/- concertinalaw19.answers returns true. -/
import Derived.Test.YtmijkefdnfmpiaaDoorOfReq
namespace Go.Proofs.YtmijkefdnfmpiaaDoor
open Go.RowKit

theorem frOf_one (nm v : List UInt8) (minor : Int) (o : Nat) (h1 : sameL nm nameTE = false) (h2 : sameL nm nameCL = true) : frOf [(nm, v)] minor o = if (numL v).2 = true then (1, (numL v).1, 0) else (0, 0, 2) := by
  unfold frOf getL
  simp [h1, h2, toldL]
theorem rd_new (w : World) (cs : Array Value) (e : TypeId) (size n : Nat) (hl : cs.size = n * size) : Rd (w.alloc (.cells cs e)) (w.heap.size + 1) size (some ⟨w.heap.size, 0, none⟩) n cs.toList := by
  refine ⟨by simpa using hl, .inr ⟨_, rfl, by simp, fun j u hu => ?_⟩⟩
  rw [Addr.add_lit, Nat.zero_add, World.cell?_alloc_new]
  simpa using hu
theorem num_5 : numL [53] = (5, true) := by decide
theorem nm_1 : sameL nameCL nameTE = false := by decide
theorem nm_2 : sameL nameCL nameCL = true := by decide
theorem fr_ans : frOf [(nameCL, [53])] 1 0 = (1, 5, 0) := by rw [frOf_one _ _ _ _ nm_1 nm_2, num_5]; rfl
set_option maxRecDepth 100000 in
set_option maxHeartbeats 3200000 in
theorem ans19_any (w : World) : Calls Tryd.prog 21 #[] w fun e w' => e = .returned (.bool true) ∧ Below w.heap.size w w' := by
  have hr := rd_new w #[.string ⟨#[99, 111, 110, 116, 101, 110, 116, 45, 108, 101, 110, 103, 116, 104]⟩, .string ⟨#[53]⟩] 37 2 1 rfl
  have q := ofreq_any ⟨#[]⟩ ⟨#[]⟩ 1 _ 1 1 _ [(nameCL, [53])] _ hr (by simp) (by omega) (by intro f hf; simp at hf; subst hf; decide)
  rw [fr_ans] at q
  simp only [frV] at q
  clear hr
  go_enter Tryd.func21, Tryd.ntmps21
  go_wp2_with fail
  refine q.mono ?_
  rintro e w3 ⟨rfl, b3⟩
  have t3 : Below w.heap.size w w3 := ((Below.refl _ w).alloc (Nat.le_refl _) _).trans (b3.mono (by simp))
  clear b3 q
  go_wp2
  go_ret
  exact ⟨rfl, t3.alloc t3.size _⟩
end Go.Proofs.YtmijkefdnfmpiaaDoor
