/- frame.Body of kinds that are not chunked: New, Feed, most, over, Take, Rest. -/
import Derived.Test.YtdpcncpfbaigeaaDoorBox
import Derived.Test.YtdpcncpfbaigeaaDoorOwn
import Derived.Deep.RegionHeld3
import Derived.Deep.DeepCutAuto
import Derived.Deep.CutBlock
import Derived.Deep.QuietTactic
import Derived.BigQuiet
namespace Go.Proofs.YtdpcncpfbaigeaaDoor
open Go.RowKit

theorem infoU8b : (Tryd.prog.info? 5).map (fun i => (i.zero, i.size, i.bytes)) = some (some (.int .u8 0), 1, 1) := by kernel_rfl
theorem Box.five {w : World} {g : Nat} {a b c d e : Value} (h : Box w g [a, b, c, d, e]) : w.cell? ⟨g, 0, none⟩ = some a ∧ w.cell? ⟨g, 1, none⟩ = some b ∧ w.cell? ⟨g, 2, none⟩ = some c ∧ w.cell? ⟨g, 3, none⟩ = some d ∧ w.cell? ⟨g, 4, none⟩ = some e := ⟨(h.2 0 a rfl).1, (h.2 1 b rfl).1, (h.2 2 c rfl).1, (h.2 3 d rfl).1, (h.2 4 e rfl).1⟩
theorem Box.free5 {w : World} {g : Nat} {a b c d e : Value} (h : Box w g [a, b, c, d, e]) : w.frozen? ⟨g, 0, none⟩ = false ∧ w.frozen? ⟨g, 1, none⟩ = false ∧ w.frozen? ⟨g, 2, none⟩ = false ∧ w.frozen? ⟨g, 3, none⟩ = false ∧ w.frozen? ⟨g, 4, none⟩ = false := ⟨(h.2 0 a rfl).2, (h.2 1 b rfl).2, (h.2 2 c rfl).2, (h.2 3 d rfl).2, (h.2 4 e rfl).2⟩
theorem Box.grown {w w' : World} {g : Nat} {cs : List Value} {row : Option Nat} (h : Box w g cs) (hg : w.grownBy w' row) (hne : row ≠ some g) : Box w' g cs := by
  have hb : w'.heap[g]? = w.heap[g]? := hg.block g h.1 (fun e => hne e.symm)
  exact ⟨Nat.lt_of_lt_of_le h.1 hg.size, fun j u hu => ⟨(World.cell?_of_block (a := ⟨g, j, none⟩) hb).trans (h.2 j u hu).1, (World.frozen?_of_block (a := ⟨g, j, none⟩) hb).trans (h.2 j u hu).2⟩⟩
/-- A body in block b, what waits in it in blocks from 'base' on. -/
def IsBody (w : World) (b base : Nat) (kind left : Int) (p : Value) (n : Nat) (bs : List UInt8) (ended : Bool) : Prop :=
  ∃ A c, Box w b [.int .i64 kind, .int .i64 left, .slice A n c, p, .bool ended] ∧ Ow w base 1 (.slice A n c) n (bcells bs) ∧ (Value.slice A n c).ownBlock ≠ some b ∧ base ≤ b
section
variable {w w' : World} {b base : Nat} {kind left : Int} {p : Value} {n : Nat} {bs : List UInt8} {ended : Bool}
theorem IsBody.below (h : IsBody w b base kind left p n bs ended) (hb : Below w.heap.size w w') : IsBody w' b base kind left p n bs ended := by
  obtain ⟨A, c, h1, h2, h3, h4⟩ := h
  exact ⟨A, c, h1.below hb, h2.below hb, h3, h4⟩
theorem IsBody.len (h : IsBody w b base kind left p n bs ended) : bs.length = n := by
  obtain ⟨A, c, -, h2, -, -⟩ := h
  have := h2.1; rw [bcells_length] at this; omega
end
set_option maxRecDepth 100000 in
set_option maxHeartbeats 3200000 in
theorem chunknew_any (w : World) : Calls Tryd.prog 9 #[] w fun e w' => e = .returned (.pointer (some ⟨w.heap.size, 0, none⟩)) ∧ Box w' w.heap.size [.slice none 0 0, .int .i64 0, .int .i64 0, .int .i64 0, .int .i64 0] ∧ Below w.heap.size w w' := by
  go_enter Tryd.func9, Tryd.ntmps9
  go_wp2
  go_ret
  exact ⟨rfl, Box.new w #[.slice none 0 0, .int .i64 0, .int .i64 0, .int .i64 0, .int .i64 0] 49, (Below.refl _ _).alloc (Nat.le_refl _) _⟩
set_option maxRecDepth 100000 in
set_option maxHeartbeats 3200000 in
theorem bodynew_any (kind left : Int) (w : World) : Calls Tryd.prog 23 #[.agg #[.int .i64 kind, .int .i64 left]] w fun e w' => ∃ b p, e = .returned (.pointer (some ⟨b, 0, none⟩)) ∧ IsBody w' b w.heap.size kind (max left 0) p 0 [] false ∧ Below w.heap.size w w' := by
  have bx := Box.new w #[.int .i64 kind, .int .i64 left] 46
  have t0 : Below w.heap.size w (w.alloc (.cells #[.int .i64 kind, .int .i64 left] 46)) := (Below.refl _ _).alloc (Nat.le_refl _) _
  obtain ⟨k0, k1⟩ := Box.two bx
  go_enter Tryd.func23, Tryd.ntmps23
  go_upto_region 1 with (fail)
  generalize w.alloc _ = w0 at k0 k1 t0 bx ⊢
  have ck : ∀ (W W' : World) (b o : Nat) (v : Value), W.cell? ⟨b, o, none⟩ = some v → Below W.heap.size W W' → W'.cell? ⟨b, o, none⟩ = some v := fun W W' b o v h hb =>
    (hb.cell (p := ⟨b, o, none⟩) (World.block_lt_of_cell? W _ h)).trans h
  go_region_held3 (fun w' => w'.cell? ⟨w.heap.size, 0, none⟩ = some (.int .i64 kind) ∧ w'.cell? ⟨w.heap.size, 1, none⟩ = some (.int .i64 left) ∧ Below w.heap.size w w')
    (first | exact ⟨k0, k1, below_drewN (k := 1) t0⟩ | exact ⟨ck w0.drew _ _ _ _ k0 k12, ck w0.drew _ _ _ _ k1 k12, (below_drewN (k := 1) t0).trans (k12.mono t0.size)⟩ | (have tt := (below_drewN (k := 1) t0).trans (k12.mono t0.size); exact ⟨cell_past _ _ (ck w0.drew _ _ _ _ k0 k12), cell_past _ _ (ck w0.drew _ _ _ _ k1 k12), tt.alloc tt.size _⟩) | assumption)
    (first | (go_at_call 9; refine (chunknew_any _).mono ?_; rintro e w12 ⟨rfl, -, k12⟩))
  all_goals
    have tt := (below_drewN (k := 1) t0).trans (k12.mono t0.size)
    go_wp2
    go_ret
    exact ⟨_, _, rfl, ⟨none, 0, Box.new w12 #[.int .i64 kind, .int .i64 (max left 0), .slice none 0 0, .pointer (some ⟨w0.heap.size, 0, none⟩), .bool false] 66, Ow.nil_, by simp [Value.ownBlock], tt.size⟩, tt.alloc tt.size _⟩

/-- How much there may be yet. -/
def mostB (kind left : Int) (n : Nat) : Int := if kind = 1 then left else if kind = 3 then n else 0
def overB (kind left : Int) (n : Nat) (ended : Bool) : Bool := if kind = 3 then ended && decide (n = 0) else decide (mostB kind left n = 0)
section
variable (b base : Nat) (kind left : Int) (p : Value) (n : Nat) (bs : List UInt8) (ended : Bool) (w : World) (h : IsBody w b base kind left p n bs ended)
include h
set_option maxRecDepth 100000 in
set_option maxHeartbeats 3200000 in
theorem most_any : Calls Tryd.prog 33 #[.pointer (some ⟨b, 0, none⟩)] w fun e w' => e = .returned (.int .i64 (mostB kind left n)) ∧ w = w' := by
  obtain ⟨A, c, hx, ho, hne, hB⟩ := h
  obtain ⟨k0, k1, k2, k3, k4⟩ := hx.five
  clear hx ho hne
  unfold mostB
  by_cases h1 : kind = 1
  · subst h1
    rw [if_pos rfl]
    go_enter Tryd.func33, Tryd.ntmps33
    go_wp2
    go_ret
    exact ⟨rfl, rfl⟩
  · rw [if_neg h1]
    by_cases h3 : kind = 3
    · subst h3
      rw [if_pos rfl]
      go_enter Tryd.func33, Tryd.ntmps33
      go_wp2
      go_ret
      exact ⟨rfl, rfl⟩
    · rw [if_neg h3]
      have h1' : (kind == 1) = false := by simpa using h1
      have h3' : (kind == 3) = false := by simpa using h3
      clear h1 h3
      go_enter Tryd.func33, Tryd.ntmps33
      go_wp2
      go_ret
      exact ⟨rfl, rfl⟩
set_option maxRecDepth 100000 in
set_option maxHeartbeats 3200000 in
theorem over_any : Calls Tryd.prog 34 #[.pointer (some ⟨b, 0, none⟩)] w fun e w' => e = .returned (.bool (overB kind left n ended)) ∧ w = w' := by
  have hm := most_any b base kind left p n bs ended w h
  obtain ⟨A, c, hx, ho, hne, hB⟩ := h
  obtain ⟨k0, k1, k2, k3, k4⟩ := hx.five
  clear hx ho hne
  unfold overB
  by_cases h3 : kind = 3
  · subst h3
    rw [if_pos rfl]
    clear hm
    rcases ended with _ | _
    · go_enter Tryd.func34, Tryd.ntmps34
      go_wp2
      go_ret
      exact ⟨rfl, rfl⟩
    · go_enter Tryd.func34, Tryd.ntmps34
      go_wp2
      go_ret
      exact ⟨ret_bool (by simp [Bool.beq_eq_decide_eq]), rfl⟩
  · rw [if_neg h3]
    have h3' : (kind == 3) = false := by simpa using h3
    obtain ⟨mb, hmb⟩ : ∃ m, m = mostB kind left n := ⟨_, rfl⟩
    rw [← hmb] at hm ⊢
    clear h3 hmb
    go_enter Tryd.func34, Tryd.ntmps34
    go_wp2_with fail
    refine hm.mono ?_
    rintro e w1 ⟨rfl, rfl⟩
    go_wp2
    go_ret
    exact ⟨ret_bool (by simp [Bool.beq_eq_decide_eq]), rfl⟩
end
set_option maxRecDepth 100000 in
set_option maxHeartbeats 3200000 in
/-- More bytes. -/
theorem bodyfeed_any (b base : Nat) (kind left : Int) (p : Value) (n : Nat) (bs : List UInt8) (w : World) (h : IsBody w b base kind left p n bs false) (hk : kind ≠ 2) (A' : Option Addr) (m c' B : Nat) (ys : List UInt8)
    (hy : Rd w B 1 A' m (bcells ys)) (hsz : n + m ≤ 1000000000) (hbase : base ≤ w.heap.size) :
    Calls Tryd.prog 20 #[.pointer (some ⟨b, 0, none⟩), .slice A' m c'] w fun e w' => e = .returned (.tuple #[]) ∧ IsBody w' b base kind left p (n + m) (bs ++ ys) false ∧ Below base w w' := by
  obtain ⟨A, c, hx, ho, hne, hB⟩ := h
  obtain ⟨k0, k1, k2, k3, k4⟩ := hx.five
  obtain ⟨i0, hi0, hz0, hz1, hz2⟩ := info_parts infoU8b
  have hk' : (kind == 2) = false := by simpa using hk
  obtain ⟨f0, f1, f2, f3, f4⟩ := hx.free5
  have hbl : b < w.heap.size := hx.1
  clear hk
  go_enter Tryd.func20, Tryd.ntmps20
  go_wp2_with (at_builtin; refine wpl_append_ow _ rfl _ _ _ rfl base 5 i0 _ 1 1 Tryd.underlying26 hi0 hz0 hz1 hz2 rfl (by omega) _ _ _ rfl _ _ _ _ _ rfl ho hy (bcells_one _) (by simp [maxLen]; omega) (by omega) hbase ?_; intro v1 w1 ho1 b1 g1 hv1; obtain ⟨A2, c2', rfl, -⟩ := Ow.shape ho1; have hx1 := hx.grown g1 hne; have c2 := hx1.five.2.2.1; have f21 := hx1.free5.2.2.1)
  rw [bcells_append] at ho1
  have hne2 : (Value.slice A2 (n + m) c2').ownBlock ≠ some b := by
    rcases hv1 with e | e
    · rw [e]; exact hne
    · exact fun e' => by have := e b e'; omega
  go_end0
  exact ⟨rfl, ⟨A2, c2', hx1.set (k := 2) (by simp), ho1.store_far hne2 _, hne2, hB⟩, b1.setCell hB _⟩
end Go.Proofs.YtdpcncpfbaigeaaDoor
