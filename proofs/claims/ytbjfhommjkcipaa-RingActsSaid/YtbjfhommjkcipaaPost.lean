/- The contracts of a post of string: each a select of one case with a default. -/
import Derived.Test.YtbjfhommjkcipaaRingWords
import Derived.Conc.LoneCalls
import Derived.Conc.LoneSelect
import Derived.Conc.LoneSelectN
import Derived.KernelRfl
namespace Go.Proofs.Ytbjfhommjkcipaa
open Go.Conc Go.RowKit
set_option linter.unusedVariables false
set_option linter.unusedSimpArgs false

/-- A post in block p over a channel in block c. -/
def IsPost (w : World) (p c mst : Nat) (buf : Array Value) : Prop :=
  p ≠ c ∧ p < w.heap.size ∧ w.cell? ⟨p, 0, none⟩ = some (.chan (some c)) ∧ ∃ s r, w.heap[c]? = some (.chan mst buf false s r false)
theorem grown_setChan (w : World) (c cap : Nat) (buf : Array Value) (cl : Bool) (s r : Nat) (tm : Bool) : w.grownBy (w.setChan c cap buf cl s r tm) (some c) :=
  ⟨rfl, rfl, rfl, by simp [World.setChan], fun k hk hne => by simp only [World.setChan]; rw [Array.getElem?_setIfInBounds_ne (by intro e; exact hne (by rw [e]))]⟩
theorem IsPost.put {w : World} {p c mst : Nat} {buf : Array Value} (h : IsPost w p c mst buf) (buf' : Array Value) (s r : Nat) : IsPost (w.setChan c mst buf' false s r false) p c mst buf' := by
  obtain ⟨h1, h2, h3, s0, r0, h4⟩ := h
  have hc : c < w.heap.size := lt_of_block h4
  refine ⟨h1, by rw [size_setChan]; exact h2, ?_, s, r, heap_setChan _ _ _ _ _ _ _ _ hc⟩
  rw [← h3]
  exact World.cell?_of_block (a := ⟨p, 0, none⟩) ((grown_setChan w c mst buf' false s r false).block p h2 (by intro e; exact h1 (Option.some.inj e)))
theorem IsPost.grown {w w' : World} {p c mst : Nat} {buf : Array Value} (h : IsPost w p c mst buf) (hb : Below w.heap.size w w') : IsPost w' p c mst buf := by
  obtain ⟨h1, h2, h3, s0, r0, h4⟩ := h
  exact ⟨h1, Nat.lt_of_lt_of_le h2 hb.size, (hb.cell (p := ⟨p, 0, none⟩) h2).trans h3, s0, r0, (hb.block c (lt_of_block h4)).trans h4⟩

set_option maxRecDepth 100000 in
theorem send_room (p c mst : Nat) (buf : Array Value) (x : ByteArray) (w : World) (h : IsPost w p c mst buf) (hr : buf.size < mst) :
    Calls Try.prog 16 #[.pointer (some ⟨p, 0, none⟩), .string x] w fun e w' => e = .returned (.bool true) ∧ IsPost w' p c mst (buf.push (.string x)) ∧ w.grownBy w' (some c) := by
  obtain ⟨s, r, hc⟩ := h.2.2.2
  have k0 := h.2.2.1
  refine calls_of_loneTo fun cs => ?_
  have e : Frame.enter Try.prog 16 #[.pointer (some ⟨p, 0, none⟩), .string x] .normal = (base 16).at ⟨#[.pointer (some ⟨p, 0, none⟩), .string x, undef, undef, undef, undef, undef, undef, undef, undef, undef, undef, undef, undef, undef], []⟩ [.code (Try.f16.body.getD .skip)] := by
    simp [Frame.enter, Frame.at, Try.func16, base, Try.f16]
  rw [e]
  refine LoneTo.goes (n := 60) ?_
  simp only [Try.f16, Option.getD_some]
  s_c stepG_seq
  s_reg
  s_op
  s_c stepG_region_end
  s_c stepG_seq
  s_c stepG_seq
  s_reg
  s_op
  s_op
  s_c stepG_region_end
  s_cond false
  s_c stepG_skip
  s_c stepG_seq
  s_c stepG_seq
  s_reg
  s_op
  s_op
  s_op
  s_op
  s_c stepG_region_end
  s_reg
  s_op
  s_c stepG_region_end
  s_c stepG_seq
  s_reg
  s_stop
  refine LoneTo.step (step_lone_select_send_room (c := c) (cap := mst) (buf := buf) (s := s) (r := r) (tm := false) (stepG_comm (cases := #[scase c (.string x) (.string ⟨#[]⟩)]) (blocking := false) (shape := .select) (w' := w) rfl rfl (by decide) (by simp [go_sem, execOp, scase, Act.eval])) hc hr) ?_
  rw [Frame.finish_at]
  walk_nrm
  refine LoneTo.goes (n := 40) ?_
  s_op
  s_op
  s_c stepG_region_end
  s_c stepG_block
  s_cond true
  s_c stepG_seq
  s_reg
  s_op
  s_c stepG_region_end
  s_c stepG_ret'
  s_stop
  refine LoneTo.done ⟨.returned (.bool true), _, rfl, ⟨rfl, h.put _ _ _, grown_setChan _ _ _ _ _ _ _ _⟩, rfl, rfl, rfl, rfl, _, Try.func16, by simp [results, Try.f16, Frame.at]⟩
set_option maxRecDepth 100000 in
theorem send_full (p c mst : Nat) (buf : Array Value) (x : ByteArray) (w : World) (h : IsPost w p c mst buf) (hr : mst ≤ buf.size) :
    Calls Try.prog 16 #[.pointer (some ⟨p, 0, none⟩), .string x] w fun e w' => e = .returned (.bool false) ∧ w = w' := by
  obtain ⟨s, r, hc⟩ := h.2.2.2
  have k0 := h.2.2.1
  refine calls_of_loneTo fun cs => ?_
  have e : Frame.enter Try.prog 16 #[.pointer (some ⟨p, 0, none⟩), .string x] .normal = (base 16).at ⟨#[.pointer (some ⟨p, 0, none⟩), .string x, undef, undef, undef, undef, undef, undef, undef, undef, undef, undef, undef, undef, undef], []⟩ [.code (Try.f16.body.getD .skip)] := by
    simp [Frame.enter, Frame.at, Try.func16, base, Try.f16]
  rw [e]
  refine LoneTo.goes (n := 60) ?_
  simp only [Try.f16, Option.getD_some]
  s_c stepG_seq
  s_reg
  s_op
  s_c stepG_region_end
  s_c stepG_seq
  s_c stepG_seq
  s_reg
  s_op
  s_op
  s_c stepG_region_end
  s_cond false
  s_c stepG_skip
  s_c stepG_seq
  s_c stepG_seq
  s_reg
  s_op
  s_op
  s_op
  s_op
  s_c stepG_region_end
  s_reg
  s_op
  s_c stepG_region_end
  s_c stepG_seq
  s_reg
  s_stop
  refine LoneTo.step (step_lone_select_send_full (c := c) (cap := mst) (buf := buf) (s := s) (r := r) (tm := false) (stepG_comm (cases := #[scase c (.string x) (.string ⟨#[]⟩)]) (blocking := false) (shape := .select) (w' := w) rfl rfl (by decide) (by simp [go_sem, execOp, scase, Act.eval])) hc hr) ?_
  rw [Frame.finish_at]
  walk_nrm
  refine LoneTo.goes (n := 40) ?_
  s_op
  s_op
  s_c stepG_region_end
  s_c stepG_block
  s_cond false
  s_c stepG_seq
  s_reg
  s_op
  s_c stepG_region_end
  s_c stepG_ret'
  s_stop
  refine LoneTo.done ⟨.returned (.bool false), _, rfl, ⟨rfl, rfl⟩, rfl, rfl, rfl, rfl, _, Try.func16, by simp [results, Try.f16, Frame.at]⟩
set_option maxRecDepth 100000 in
theorem next_some (p c mst : Nat) (buf : Array Value) (x : Value) (hx : buf.getD 0 undef = x) (w : World) (h : IsPost w p c mst buf) (hr : 0 < buf.size) :
    Calls Try.prog 18 #[.pointer (some ⟨p, 0, none⟩)] w fun e w' => e = .returned (.tuple #[x, .bool true]) ∧ IsPost w' p c mst (buf.extract 1 buf.size) ∧ w.grownBy w' (some c) := by
  obtain ⟨s, r, hc⟩ := h.2.2.2
  have k0 := h.2.2.1
  refine calls_of_loneTo fun cs => ?_
  have e : Frame.enter Try.prog 18 #[.pointer (some ⟨p, 0, none⟩)] .normal = (base 18).at ⟨#[.pointer (some ⟨p, 0, none⟩), undef, undef, undef, undef, undef, undef, undef, undef, undef, undef, undef, undef, undef, undef, undef, undef, undef, undef], []⟩ [.code (Try.f18.body.getD .skip)] := by
    simp [Frame.enter, Frame.at, Try.func18, base, Try.f18]
  rw [e]
  refine LoneTo.goes (n := 60) ?_
  simp only [Try.f18, Option.getD_some]
  s_c stepG_seq
  s_reg
  s_op
  s_op
  s_c stepG_region_end
  s_c stepG_seq
  s_reg
  s_op
  s_c stepG_region_end
  s_c stepG_seq
  s_c stepG_seq
  s_reg
  s_op
  s_op
  s_c stepG_region_end
  s_cond false
  s_c stepG_skip
  s_c stepG_seq
  s_reg
  s_op
  s_op
  s_op
  s_op
  s_c stepG_region_end
  s_c stepG_seq
  s_reg
  s_stop
  refine LoneTo.step (step_lone_select_recv_buf (c := c) (cap := mst) (buf := buf) (closed := false) (s := s) (r := r) (tm := false) (stepG_comm (cases := #[rcase c (.string ⟨#[]⟩)]) (blocking := false) (shape := .select) (w' := w) rfl rfl (by decide) (by simp [go_sem, execOp, rcase, Act.eval])) hc hr) ?_
  rw [hx]
  rw [Frame.finish_at]
  walk_nrm
  refine LoneTo.goes (n := 40) ?_
  s_op
  s_op
  s_c stepG_region_end
  s_c stepG_block
  s_cond true
  s_c stepG_seq
  s_reg
  s_op
  s_op
  s_c stepG_region_end
  s_c stepG_seq
  s_reg
  s_op
  s_op
  s_op
  s_c stepG_region_end
  s_c stepG_ret'
  s_stop
  refine LoneTo.done ⟨.returned (.tuple #[x, .bool true]), _, rfl, ⟨rfl, h.put _ _ _, grown_setChan _ _ _ _ _ _ _ _⟩, rfl, rfl, rfl, rfl, _, Try.func18, by simp [results, Try.f18, Frame.at]⟩
set_option maxRecDepth 100000 in
theorem next_none (p c mst : Nat) (buf : Array Value) (w : World) (h : IsPost w p c mst buf) (hr : buf.size = 0) :
    Calls Try.prog 18 #[.pointer (some ⟨p, 0, none⟩)] w fun e w' => e = .returned (.tuple #[.string ⟨#[]⟩, .bool false]) ∧ w = w' := by
  obtain ⟨s, r, hc⟩ := h.2.2.2
  have k0 := h.2.2.1
  refine calls_of_loneTo fun cs => ?_
  have e : Frame.enter Try.prog 18 #[.pointer (some ⟨p, 0, none⟩)] .normal = (base 18).at ⟨#[.pointer (some ⟨p, 0, none⟩), undef, undef, undef, undef, undef, undef, undef, undef, undef, undef, undef, undef, undef, undef, undef, undef, undef, undef], []⟩ [.code (Try.f18.body.getD .skip)] := by
    simp [Frame.enter, Frame.at, Try.func18, base, Try.f18]
  rw [e]
  refine LoneTo.goes (n := 60) ?_
  simp only [Try.f18, Option.getD_some]
  s_c stepG_seq
  s_reg
  s_op
  s_op
  s_c stepG_region_end
  s_c stepG_seq
  s_reg
  s_op
  s_c stepG_region_end
  s_c stepG_seq
  s_c stepG_seq
  s_reg
  s_op
  s_op
  s_c stepG_region_end
  s_cond false
  s_c stepG_skip
  s_c stepG_seq
  s_reg
  s_op
  s_op
  s_op
  s_op
  s_c stepG_region_end
  s_c stepG_seq
  s_reg
  s_stop
  obtain rfl : buf = #[] := Array.eq_empty_of_size_eq_zero hr
  refine LoneTo.step (step_lone_select_default (c := c) (cap := mst) (s := s) (r := r) (tm := false) (stepG_comm (cases := #[rcase c (.string ⟨#[]⟩)]) (blocking := false) (shape := .select) (w' := w) rfl rfl (by decide) (by simp [go_sem, execOp, rcase, Act.eval])) hc) ?_
  rw [Frame.finish_at]
  walk_nrm
  refine LoneTo.goes (n := 40) ?_
  s_op
  s_op
  s_c stepG_region_end
  s_c stepG_block
  s_cond false
  s_c stepG_seq
  s_reg
  s_op
  s_op
  s_op
  s_c stepG_region_end
  s_c stepG_ret'
  s_stop
  refine LoneTo.done ⟨.returned (.tuple #[.string ⟨#[]⟩, .bool false]), _, rfl, ⟨rfl, rfl⟩, rfl, rfl, rfl, rfl, _, Try.func18, by simp [results, Try.f18, Frame.at]⟩
set_option maxRecDepth 100000 in
theorem postLen (p c mst : Nat) (buf : Array Value) (w : World) (h : IsPost w p c mst buf) :
    Calls Try.prog 19 #[.pointer (some ⟨p, 0, none⟩)] w fun e w' => e = .returned (.int .i64 (buf.size : Nat)) ∧ w = w' := by
  obtain ⟨s, r, hc⟩ := h.2.2.2
  have k0 := h.2.2.1
  have hlen := fun ty => run_len_chan (P := Try.prog) 66 ty Try.underlying66 hc
  go_enter Try.func19, Try.ntmps19
  go_wp2
  go_ret
  exact ⟨rfl, rfl⟩
theorem info9 : ∃ i, Try.prog.info? 9 = some i ∧ i.bytes = 16 := by
  have h : (Try.prog.info? 9).map (·.bytes) = some 16 := by kernel_rfl
  obtain ⟨i, hi, hb⟩ := Option.map_eq_some_iff.1 h
  exact ⟨i, hi, hb⟩
set_option maxRecDepth 100000 in
theorem newPost (n : Int) (w : World) :
    Calls Try.prog 15 #[.int .i64 n] w fun e w' => e = .returned (.pointer (some ⟨w.heap.size + 1, 0, none⟩)) ∧ IsPost w' (w.heap.size + 1) w.heap.size (most n) #[] ∧ Below w.heap.size w w' := by
  have hm := most_le n
  obtain ⟨i9, hi9, hb9⟩ := info9
  have hmk := fun w => run_makeChan (P := Try.prog) (w := w) Try.underlying66 hi9 .i64 (most n) (by omega) (by rw [hb9]; omega)
  go_enter Try.func15, Try.ntmps15
  go_wp2_with (go_at_call 32; refine (bound_any _ _).mono ?_; rintro e w' ⟨rfl, rfl⟩)
  go_ret
  refine ⟨by simp, ⟨by omega, by simp, by rw [cell_of_row _ _ _ _ _ _ (by have := heap_alloc_new (w.alloc (.chan (most n) #[] false 0 0 false)) (.cells #[.chan (some w.heap.size)] 68); simpa using this)]; rfl, 0, 0, ?_⟩, ((Below.refl _ _).alloc (Nat.le_refl _) _).alloc (by simp) _⟩
  rw [Below.heap_alloc _ _ _ (by simp)]
  exact heap_alloc_new w _
end Go.Proofs.Ytbjfhommjkcipaa
