/- frame.Body of kinds that are not chunked: New, Feed, most, over, Take, Rest. -/
import Derived.Test.YtijlaclngibekaaGreatDoorKBoxG
import Derived.Test.YtijlaclngibekaaGreatDoorKBase
import Derived.Deep.RegionHeld3
import Derived.Deep.DeepCutAuto
import Derived.Deep.CutBlock
import Derived.Deep.QuietTactic
import Derived.BigQuiet
namespace Go.Proofs.YtijlaclngibekaaGreatDoor
open Go.RowKit

theorem infoU8b : (Tryz.prog.info? 5).map (fun i => (i.zero, i.size, i.bytes)) = some (some (.int .u8 0), 1, 1) := by kernel_rfl
theorem Box.five {w : World} {g : Nat} {a b c d e : Value} (h : Box w g [a, b, c, d, e]) : w.cell? ⟨g, 0, none⟩ = some a ∧ w.cell? ⟨g, 1, none⟩ = some b ∧ w.cell? ⟨g, 2, none⟩ = some c ∧ w.cell? ⟨g, 3, none⟩ = some d ∧ w.cell? ⟨g, 4, none⟩ = some e := ⟨(h.2 0 a rfl).1, (h.2 1 b rfl).1, (h.2 2 c rfl).1, (h.2 3 d rfl).1, (h.2 4 e rfl).1⟩
theorem Box.free5 {w : World} {g : Nat} {a b c d e : Value} (h : Box w g [a, b, c, d, e]) : w.frozen? ⟨g, 0, none⟩ = false ∧ w.frozen? ⟨g, 1, none⟩ = false ∧ w.frozen? ⟨g, 2, none⟩ = false ∧ w.frozen? ⟨g, 3, none⟩ = false ∧ w.frozen? ⟨g, 4, none⟩ = false := ⟨(h.2 0 a rfl).2, (h.2 1 b rfl).2, (h.2 2 c rfl).2, (h.2 3 d rfl).2, (h.2 4 e rfl).2⟩
theorem Box.grown {w w' : World} {g : Nat} {cs : List Value} {row : Option Nat} (h : Box w g cs) (hg : w.grownBy w' row) (hne : row ≠ some g) : Box w' g cs := by
  have hb : w'.heap[g]? = w.heap[g]? := hg.block g h.1 (fun e => hne e.symm)
  exact ⟨Nat.lt_of_lt_of_le h.1 hg.size, fun j u hu => ⟨(World.cell?_of_block (a := ⟨g, j, none⟩) hb).trans (h.2 j u hu).1, (World.frozen?_of_block (a := ⟨g, j, none⟩) hb).trans (h.2 j u hu).2⟩⟩
/-- A body in block b, what waits in it in blocks from 'base' on. -/
def IsBody (w : World) (b base : Nat) (kind left : Int) (p : Value) (n : Nat) (bs : List UInt8) (ended : Bool) : Prop :=
  ∃ A c, Box w b [.int .i64 kind, .int .i64 left, .slice A n c, p, .bool ended] ∧ Ow w base 1 (.slice A n c) n (bcells bs) ∧ (Value.slice A n c).ownBlock ≠ some b ∧ base ≤ b
section
variable {w w' : World} {b base : Nat} {kind left : Int} {p : Value} {n : Nat} {bs : List UInt8} {ended : Bool}
theorem IsBody.below (h : IsBody w b base kind left p n bs ended) (hb : Below w.heap.size w w') : IsBody w' b base kind left p n bs ended := by
  obtain ⟨A, c, h1, h2, h3, h4⟩ := h
  exact ⟨A, c, h1.below hb, h2.below hb, h3, h4⟩
theorem IsBody.len (h : IsBody w b base kind left p n bs ended) : bs.length = n := by
  obtain ⟨A, c, -, h2, -, -⟩ := h
  have := h2.1; rw [bcells_length] at this; omega
end
set_option maxRecDepth 100000 in
set_option maxHeartbeats 3200000 in
theorem chunknew_any (w : World) : Calls Tryz.prog 192 #[] w fun e w' => e = .returned (.pointer (some ⟨w.heap.size, 0, none⟩)) ∧ Box w' w.heap.size [.slice none 0 0, .int .i64 0, .int .i64 0, .int .i64 0, .int .i64 0] ∧ Below w.heap.size w w' := by
  go_enter Tryz.func192, Tryz.ntmps192
  go_wp2
  go_ret
  exact ⟨rfl, Box.new w #[.slice none 0 0, .int .i64 0, .int .i64 0, .int .i64 0, .int .i64 0] 146, (Below.refl _ _).alloc (Nat.le_refl _) _⟩
set_option maxRecDepth 100000 in
set_option maxHeartbeats 3200000 in
theorem bodynew_any (kind left : Int) (w : World) : Calls Tryz.prog 148 #[.agg #[.int .i64 kind, .int .i64 left]] w fun e w' => ∃ b p, e = .returned (.pointer (some ⟨b, 0, none⟩)) ∧ IsBody w' b w.heap.size kind (max left 0) p 0 [] false ∧ Below w.heap.size w w' := by
  have bx := Box.new w #[.int .i64 kind, .int .i64 left] 67
  have t0 : Below w.heap.size w (w.alloc (.cells #[.int .i64 kind, .int .i64 left] 67)) := (Below.refl _ _).alloc (Nat.le_refl _) _
  obtain ⟨k0, k1⟩ := Box.two bx
  go_enter Tryz.func148, Tryz.ntmps148
  go_upto_region 1 with (fail)
  generalize w.alloc _ = w0 at k0 k1 t0 bx ⊢
  have ck : ∀ (W W' : World) (b o : Nat) (v : Value), W.cell? ⟨b, o, none⟩ = some v → Below W.heap.size W W' → W'.cell? ⟨b, o, none⟩ = some v := fun W W' b o v h hb =>
    (hb.cell (p := ⟨b, o, none⟩) (World.block_lt_of_cell? W _ h)).trans h
  go_region_held3 (fun w' => w'.cell? ⟨w.heap.size, 0, none⟩ = some (.int .i64 kind) ∧ w'.cell? ⟨w.heap.size, 1, none⟩ = some (.int .i64 left) ∧ Below w.heap.size w w')
    (first | exact ⟨k0, k1, below_drewN (k := 1) t0⟩ | exact ⟨ck w0.drew _ _ _ _ k0 k12, ck w0.drew _ _ _ _ k1 k12, (below_drewN (k := 1) t0).trans (k12.mono t0.size)⟩ | (have tt := (below_drewN (k := 1) t0).trans (k12.mono t0.size); exact ⟨cell_past _ _ (ck w0.drew _ _ _ _ k0 k12), cell_past _ _ (ck w0.drew _ _ _ _ k1 k12), tt.alloc tt.size _⟩) | assumption)
    (first | (go_at_call 192; refine (chunknew_any _).mono ?_; rintro e w12 ⟨rfl, -, k12⟩))
  all_goals
    have tt := (below_drewN (k := 1) t0).trans (k12.mono t0.size)
    go_wp2
    go_ret
    exact ⟨_, _, rfl, ⟨none, 0, Box.new w12 #[.int .i64 kind, .int .i64 (max left 0), .slice none 0 0, .pointer (some ⟨w0.heap.size, 0, none⟩), .bool false] 132, Ow.nil_, by simp [Value.ownBlock], tt.size⟩, tt.alloc tt.size _⟩

/-- How much there may be yet. -/
def mostB (kind left : Int) (n : Nat) : Int := if kind = 1 then left else if kind = 3 then n else 0
def overB (kind left : Int) (n : Nat) (ended : Bool) : Bool := if kind = 3 then ended && decide (n = 0) else decide (mostB kind left n = 0)
section
variable (b base : Nat) (kind left : Int) (p : Value) (n : Nat) (bs : List UInt8) (ended : Bool) (w : World) (h : IsBody w b base kind left p n bs ended)
include h
set_option maxRecDepth 100000 in
set_option maxHeartbeats 3200000 in
theorem most_any : Calls Tryz.prog 152 #[.pointer (some ⟨b, 0, none⟩)] w fun e w' => e = .returned (.int .i64 (mostB kind left n)) ∧ w = w' := by
  obtain ⟨A, c, hx, ho, hne, hB⟩ := h
  obtain ⟨k0, k1, k2, k3, k4⟩ := hx.five
  clear hx ho hne
  unfold mostB
  by_cases h1 : kind = 1
  · subst h1
    rw [if_pos rfl]
    go_enter Tryz.func152, Tryz.ntmps152
    go_wp2
    go_ret
    exact ⟨rfl, rfl⟩
  · rw [if_neg h1]
    by_cases h3 : kind = 3
    · subst h3
      rw [if_pos rfl]
      go_enter Tryz.func152, Tryz.ntmps152
      go_wp2
      go_ret
      exact ⟨rfl, rfl⟩
    · rw [if_neg h3]
      have h1' : (kind == 1) = false := by simpa using h1
      have h3' : (kind == 3) = false := by simpa using h3
      clear h1 h3
      go_enter Tryz.func152, Tryz.ntmps152
      go_wp2
      go_ret
      exact ⟨rfl, rfl⟩
set_option maxRecDepth 100000 in
set_option maxHeartbeats 3200000 in
theorem over_any : Calls Tryz.prog 153 #[.pointer (some ⟨b, 0, none⟩)] w fun e w' => e = .returned (.bool (overB kind left n ended)) ∧ w = w' := by
  have hm := most_any b base kind left p n bs ended w h
  obtain ⟨A, c, hx, ho, hne, hB⟩ := h
  obtain ⟨k0, k1, k2, k3, k4⟩ := hx.five
  clear hx ho hne
  unfold overB
  by_cases h3 : kind = 3
  · subst h3
    rw [if_pos rfl]
    clear hm
    rcases ended with _ | _
    · go_enter Tryz.func153, Tryz.ntmps153
      go_wp2
      go_ret
      exact ⟨rfl, rfl⟩
    · go_enter Tryz.func153, Tryz.ntmps153
      go_wp2
      go_ret
      exact ⟨ret_bool (by simp [Bool.beq_eq_decide_eq]), rfl⟩
  · rw [if_neg h3]
    have h3' : (kind == 3) = false := by simpa using h3
    obtain ⟨mb, hmb⟩ : ∃ m, m = mostB kind left n := ⟨_, rfl⟩
    rw [← hmb] at hm ⊢
    clear h3 hmb
    go_enter Tryz.func153, Tryz.ntmps153
    go_wp2_with fail
    refine hm.mono ?_
    rintro e w1 ⟨rfl, rfl⟩
    go_wp2
    go_ret
    exact ⟨ret_bool (by simp [Bool.beq_eq_decide_eq]), rfl⟩
end
set_option maxRecDepth 100000 in
set_option maxHeartbeats 3200000 in
/-- More bytes. -/
theorem bodyfeed_any (b base : Nat) (kind left : Int) (p : Value) (n : Nat) (bs : List UInt8) (w : World) (h : IsBody w b base kind left p n bs false) (hk : kind ≠ 2) (A' : Option Addr) (m c' B : Nat) (ys : List UInt8)
    (hy : Rd w B 1 A' m (bcells ys)) (hsz : n + m ≤ 1000000000) (hbase : base ≤ w.heap.size) :
    Calls Tryz.prog 149 #[.pointer (some ⟨b, 0, none⟩), .slice A' m c'] w fun e w' => e = .returned (.tuple #[]) ∧ IsBody w' b base kind left p (n + m) (bs ++ ys) false ∧ Below base w w' := by
  obtain ⟨A, c, hx, ho, hne, hB⟩ := h
  obtain ⟨k0, k1, k2, k3, k4⟩ := hx.five
  obtain ⟨i0, hi0, hz0, hz1, hz2⟩ := info_parts infoU8b
  have hk' : (kind == 2) = false := by simpa using hk
  obtain ⟨f0, f1, f2, f3, f4⟩ := hx.free5
  have hbl : b < w.heap.size := hx.1
  clear hk
  go_enter Tryz.func149, Tryz.ntmps149
  go_wp2_with (at_builtin; refine wpl_append_ow _ rfl _ _ _ rfl base 5 i0 _ 1 1 Tryz.underlying35 hi0 hz0 hz1 hz2 rfl (by omega) _ _ _ rfl _ _ _ _ _ rfl ho hy (bcells_one _) (by simp [maxLen]; omega) (by omega) hbase ?_; intro v1 w1 ho1 b1 g1 hv1; obtain ⟨A2, c2', rfl, -⟩ := Ow.shape ho1; have hx1 := hx.grown g1 hne; have c2 := hx1.five.2.2.1; have f21 := hx1.free5.2.2.1)
  rw [bcells_append] at ho1
  have hne2 : (Value.slice A2 (n + m) c2').ownBlock ≠ some b := by
    rcases hv1 with e | e
    · rw [e]; exact hne
    · exact fun e' => by have := e b e'; omega
  go_end0
  exact ⟨rfl, ⟨A2, c2', hx1.set (k := 2) (by simp), ho1.store_far hne2 _, hne2, hB⟩, b1.setCell hB _⟩
end Go.Proofs.YtijlaclngibekaaGreatDoor

/- frame.Body of kinds that are not chunked: Take, Rest. -/
namespace Go.Proofs.YtijlaclngibekaaGreatDoor
open Go.RowKit

theorem IsBody.drewN {b base : Nat} {kind left : Int} {p : Value} {n : Nat} {bs : List UInt8} {ended : Bool} {w : World} (h : IsBody w b base kind left p n bs ended) (k : Nat) : IsBody (w.drewN k) b base kind left p n bs ended := h.below ((below_drewN (k := k) (Below.refl _ _)))
def takeN (kind left : Int) (n : Nat) (x : Int) : Nat := (min (max x 0) (min (mostB kind left n) n)).toNat
def takeLeft (kind left : Int) (k : Nat) : Int := if kind = 1 then left - k else left
def takeE (kind left : Int) (n : Nat) (x : Int) (ended : Bool) : Nat :=
  if (takeN kind left n x : Int) = max x 0 then 0 else
  if 0 < takeN kind left n x ∨ overB kind (takeLeft kind left (takeN kind left n x)) (n - takeN kind left n x) ended = false then 5 else 8
set_option maxRecDepth 100000 in
set_option maxHeartbeats 3200000 in
/-- The next bytes. -/
theorem bodytake_any (b base : Nat) (kind left : Int) (p : Value) (n : Nat) (bs : List UInt8) (ended : Bool) (x : Int) (w : World) (h : IsBody w b base kind left p n bs ended) (hk : kind ≠ 2) (hl : 0 ≤ left) (hl2 : left ≤ 9223372036854775807) (hsz : n ≤ 1000000000) (hbase : base ≤ w.heap.size) :
    Calls Tryz.prog 113 #[.pointer (some ⟨b, 0, none⟩), .int .i64 x] w fun e w' => ∃ A c, e = .returned (.tuple #[.slice A (if takeE kind left n x ended = 8 then 0 else takeN kind left n x) c, .int .i64 (takeE kind left n x ended)]) ∧
      Rd w' w'.heap.size 1 A (if takeE kind left n x ended = 8 then 0 else takeN kind left n x) (bcells (bs.take (if takeE kind left n x ended = 8 then 0 else takeN kind left n x))) ∧
      IsBody w' b base kind (takeLeft kind left (takeN kind left n x)) p (n - takeN kind left n x) (bs.drop (takeN kind left n x)) ended ∧ Below base w w' := by
  have hlen := h.len
  have hm := fun k => most_any b base kind left p n bs ended (w.drewN k) (h.drewN k)
  obtain ⟨X, hX⟩ : ∃ X : Nat, max x 0 = X := ⟨(max x 0).toNat, by omega⟩
  obtain ⟨M, hM⟩ : ∃ M : Nat, mostB kind left n = M := by
    have h0 : 0 ≤ mostB kind left n := by
      unfold mostB
      split
      · exact hl
      · split <;> omega
    exact ⟨(mostB kind left n).toNat, by omega⟩
  obtain ⟨K, hK⟩ : ∃ K : Nat, K = takeN kind left n x := ⟨_, rfl⟩
  have hK2 : K = min X (min M n) := by rw [hK]; unfold takeN; rw [hX, hM]; omega
  have hE : takeE kind left n x ended = if K = X then 0 else if 0 < K ∨ overB kind (takeLeft kind left K) (n - K) ended = false then 5 else 8 := by
    unfold takeE
    rw [← hK, hX]
    by_cases h : K = X
    · rw [if_pos h, if_pos (by omega)]
    · rw [if_neg h, if_neg (by omega)]
  obtain ⟨E, hEE⟩ : ∃ E, E = takeE kind left n x ended := ⟨_, rfl⟩
  rw [← hEE] at hE ⊢
  rw [← hK]
  obtain ⟨L, hL⟩ : ∃ L, L = takeLeft kind left K := ⟨_, rfl⟩
  rw [← hL] at hE ⊢
  have HL := hide hL
  clear hL
  obtain ⟨N, hN⟩ : ∃ N, N = if E = 8 then 0 else K := ⟨_, rfl⟩
  rw [← hN]
  have HN := hide hN
  clear hN
  simp only [hM] at hm
  have hkl : kind = 1 → left = M := fun e => by rw [← hM]; unfold mostB; rw [if_pos e]
  obtain ⟨A, c, hx, ho, hne, hB⟩ := h
  obtain ⟨k0, k1, k2, k3, k4⟩ := hx.five
  obtain ⟨i0, hi0, hz0, hz1, hz2⟩ := info_parts infoU8b
  have hk' : (kind == 2) = false := by simpa using hk
  have hbl : b < w.heap.size := hx.1
  have hif : (if (n : Int) < if M < X then (M : Int) else X then (n : Int) else if M < X then (M : Int) else X) = K := by
    rw [hK2]; split <;> split <;> omega
  have hnc : n ≤ c ∧ c ≤ maxLen := by obtain ⟨A', c', hv, h1, h2⟩ := ho.shape; cases hv; exact ⟨h1, h2⟩
  obtain ⟨hnc, hcm⟩ := hnc
  have hKn : K ≤ n := by omega
  have hKM : K ≤ M := by omega
  have hKc : (K : Int) ≤ (c : Int) := by omega
  clear hK hK2 hM hk hEE
  go_enter Tryz.func113, Tryz.ntmps113
  go_wp2_with fail
  go_quiet ((go_at_call 152; exact Calls.quiet_of_same ((hm _).mono fun _ _ h => ⟨h.1, h.2.symm⟩)))
  have hw : Below w.heap.size w (w.drewN nq) := below_drewN (Below.refl _ _)
  generalize w.drewN nq = w1 at hw ⊢
  have t1 : Below base w w1 := hw.mono hbase
  have hx1 := hx.below hw
  have ho1 := ho.below hw
  obtain ⟨k0', k1', k2', k3', k4'⟩ := hx1.five
  have hbl1 : b < w1.heap.size := hx1.1
  clear k0 k1 k2 k3 k4 hx ho hm hw hif
  have r1 := (ho1.rd.front hKn)
  rw [Nat.mul_one, bcells_take] at r1
  have hn1 := own_new w1 #[] 5 1 0 rfl (by simp [maxLen]) w1.heap.size (Nat.le_refl _)
  have ta1 : Below w1.heap.size w1 (w1.alloc (.cells #[] 5)) := (Below.refl _ _).alloc (Nat.le_refl _) _
  have r1' := r1.below ta1
  have t1z := t1.size
  go_upto_region 8 with (at_builtin; refine wpl_append _ rfl _ _ _ rfl w1.heap.size 5 i0 _ 1 1 Tryz.underlying35 hi0 hz0 hz1 hz2 rfl (by omega) _ _ _ rfl _ _ _ _ _ rfl hn1 r1' (bcells_one _) (by simp [maxLen]; omega) (by omega) (by simp) ?_; intro v2 w2 ho2 b2 _; obtain ⟨A2, c2, rfl, -⟩ := own_shape ho2)
  have hw2 := ta1.trans b2
  rw [Nat.zero_add, List.nil_append] at ho2
  have hx2 := hx1.below hw2
  have hi2 := ho1.below hw2
  have t2 := t1.trans (hw2.mono (Nat.le_trans hbase t1z))
  have o2 := Ow.of_row ho2
  have hne2 : (Value.slice A2 K c2).ownBlock ≠ some b := fun e => by have := (o2.lt b e).1; omega
  obtain ⟨k0, k1, k2, k3, k4⟩ := hx2.five
  obtain ⟨f0, f1, f2, f3, f4⟩ := hx2.free5
  have hbl2 := hx2.1
  have t2z := t2.size
  have hs2 := hw2.size
  clear k0' k1' k2' k3' k4' hx1 ho1 hn1 ta1 r1' r1 b2 hw2 ho2
  have rc := hi2.rd.cut (cap := c) hKn (Nat.le_refl _) hnc
  have hcut : ((bcells bs).drop (K * 1)).take ((n - K) * 1) = bcells (bs.drop K) := by
    rw [Nat.mul_one, Nat.mul_one, bcells_drop]; exact List.take_of_length_le (by rw [bcells_length, List.length_drop]; omega)
  rw [hcut] at rc
  have hn2 := own_new w2 #[] 5 1 0 rfl (by simp [maxLen]) w2.heap.size (Nat.le_refl _)
  have ta2 : Below w2.heap.size w2 (w2.alloc (.cells #[] 5)) := (Below.refl _ _).alloc (Nat.le_refl _) _
  have rc' := rc.below ta2
  by_cases hcK : c = K
  · rw [if_pos hcK] at rc rc'
    go_upto_region 9 with (at_builtin; refine wpl_append _ rfl _ _ _ rfl w2.heap.size 5 i0 _ 1 1 Tryz.underlying35 hi0 hz0 hz1 hz2 rfl (by omega) _ _ _ rfl _ _ _ _ _ rfl hn2 rc' (bcells_one _) (by simp [maxLen]; omega) (by omega) (by simp) ?_; intro v3 w3 ho3 b3 _; obtain ⟨A4, c4, rfl, -⟩ := own_shape ho3; have hx3' := hx2.below (ta2.trans b3); have k23 := hx3'.five.2.2.1; have f23 := hx3'.free5.2.2.1)
    rw [Nat.zero_add, List.nil_append] at ho3
    have hb3 := ta2.trans b3
    have hx3 := hx3'.set (k := 2) (x := .slice A4 (n - K) c4) (by simp)
    have hne4 : (Value.slice A4 (n - K) c4).ownBlock ≠ some b := fun e => by have := (ho3.lt b e).1; omega
    have o4 := ((Ow.of_row ho3).base_ (base' := base) (Nat.le_trans hbase (Nat.le_trans t1z hs2))).store_far (a := ⟨b, 2, none⟩) hne4 (.slice A4 (n - K) c4)
    have o3 := (o2.below hb3).store_far (a := ⟨b, 2, none⟩) hne2 (.slice A4 (n - K) c4)
    have t4 := (t2.trans (hb3.mono (Nat.le_trans hbase (Nat.le_trans t1z hs2)))).setCell (p := ⟨b, 2, none⟩) hB (.slice A4 (n - K) c4)
    simp only [List.set_cons_succ, List.set_cons_zero] at hx3
    have e0 : IntKind.i64.wrap ((0 : Int) + ((n : Int) - K)) = ((n - K : Nat) : Int) := by rw [IntKind.wrap_i64]; omega
    clear hx3' k23 f23 ho3 hb3 b3 rc rc' o2 hx2 hi2 k0 k1 k2 k3 k4 f0 f1 f2 f3 f4 hn2 ta2 t2
    generalize w3.setCell _ _ = w4 at hx3 o4 o3 t4 ⊢
    obtain ⟨k0, k1, k2, k3, k4⟩ := hx3.five
    obtain ⟨f0, f1, f2, f3, f4⟩ := hx3.free5
    by_cases h1 : kind = 1
    · subst h1
      obtain rfl := hkl rfl
      have e1 : IntKind.i64.wrap ((M : Int) - K) = (M : Int) - K := by rw [IntKind.wrap_i64]; omega
      obtain rfl : L = (M : Int) - K := HL.out
      have hx5 := hx3.set (k := 1) (x := .int .i64 ((M : Int) - K)) (by simp)
      simp only [List.set_cons_succ, List.set_cons_zero] at hx5
      have o5 := o4.store_far (a := ⟨b, 1, none⟩) hne4 (.int .i64 ((M : Int) - K))
      have o6 := o3.store_far (a := ⟨b, 1, none⟩) hne2 (.int .i64 ((M : Int) - K))
      have t5 := t4.setCell (p := ⟨b, 1, none⟩) hB (.int .i64 ((M : Int) - K))
      go_upto_region 11 with (fail)
      generalize w4.setCell _ _ = w5 at hx5 o5 o6 t5 ⊢
      clear hx3 o4 o3 t4 k0 k1 k2 k3 k4 f0 f1 f2 f3 f4
      by_cases hKX : K = X
      · have hE0 := hide (show E = 0 by rw [hE, if_pos hKX])
        have hKX' : ((K : Int) == X) = true := by rw [beq_iff_eq]; omega
        clear hKX hE
        go_wp2_with fail
        go_ret2
        obtain rfl : N = K := by rw [HN.out, hE0.out]; rfl
        obtain rfl := hE0.out
        first | exact ⟨A2, c2, rfl, o6.rd, ⟨A4, c4, hx5, o5, hne4, hB⟩, t5⟩ | exact ⟨A2, ⟨c2, rfl⟩, o6.rd, ⟨A4, c4, hx5, o5, hne4, hB⟩, t5⟩
      · have hKX' : ((K : Int) == X) = false := by rw [beq_eq_false_iff_ne]; omega
        by_cases hK0 : 0 < K
        · have hE5 := hide (show E = 5 by rw [hE, if_neg hKX, if_pos (.inl hK0)])
          have hK0' : (0 : Int) < K := by omega
          clear hKX hE hK0
          go_wp2_with fail
          go_ret2
          obtain rfl : N = K := by rw [HN.out, hE5.out]; rfl
          obtain rfl := hE5.out
          first | exact ⟨A2, c2, rfl, o6.rd, ⟨A4, c4, hx5, o5, hne4, hB⟩, t5⟩ | exact ⟨A2, ⟨c2, rfl⟩, o6.rd, ⟨A4, c4, hx5, o5, hne4, hB⟩, t5⟩
        · have hK0' : ¬ (0 : Int) < K := by omega
          have hov := over_any b base 1 ((M : Int) - K) p (n - K) (bs.drop K) ended w5 ⟨A4, c4, hx5, o5, hne4, hB⟩
          rcases hob : overB 1 ((M : Int) - K) (n - K) ended with _ | _
          · have hE5 := hide (show E = 5 by rw [hE, if_neg hKX, if_pos (.inr hob)])
            have hK00 := hide (show K = 0 by omega)
            rw [hob] at hov
            clear hob hE hKX hK0
            go_wp2_with fail
            refine hov.mono ?_
            rintro e w6 ⟨rfl, rfl⟩
            go_wp2_with fail
            go_ret2
            obtain rfl : N = 0 := by rw [HN.out, hE5.out, hK00.out]; rfl
            obtain rfl := hE5.out
            first | exact ⟨A2, c2, rfl, Rd.nil_, ⟨A4, c4, hx5, o5, hne4, hB⟩, t5⟩ | exact ⟨A2, ⟨c2, rfl⟩, Rd.nil_, ⟨A4, c4, hx5, o5, hne4, hB⟩, t5⟩
          · have hE8 := hide (show E = 8 by rw [hE, if_neg hKX, if_neg (fun h => h.elim hK0 (fun h => by rw [hob] at h; cases h))])
            rw [hob] at hov
            clear hob hE hKX hK0
            go_wp2_with fail
            refine hov.mono ?_
            rintro e w6 ⟨rfl, rfl⟩
            go_wp2_with fail
            go_ret2
            obtain rfl : N = 0 := by rw [HN.out, hE8.out]; rfl
            obtain rfl := hE8.out
            first | exact ⟨none, 0, rfl, Rd.nil_, ⟨A4, c4, hx5, o5, hne4, hB⟩, t5⟩ | exact ⟨none, ⟨0, rfl⟩, Rd.nil_, ⟨A4, c4, hx5, o5, hne4, hB⟩, t5⟩
    · have h1' : (kind == 1) = false := by simpa using h1
      obtain rfl : L = left := by rw [HL.out]; unfold takeLeft; rw [if_neg h1]
      clear h1
      by_cases hKX : K = X
      · have hE0 := hide (show E = 0 by rw [hE, if_pos hKX])
        have hKX' : ((K : Int) == X) = true := by rw [beq_iff_eq]; omega
        clear hKX hE
        go_wp2_with fail
        go_ret2
        obtain rfl : N = K := by rw [HN.out, hE0.out]; rfl
        obtain rfl := hE0.out
        first | exact ⟨A2, c2, rfl, o3.rd, ⟨A4, c4, hx3, o4, hne4, hB⟩, t4⟩ | exact ⟨A2, ⟨c2, rfl⟩, o3.rd, ⟨A4, c4, hx3, o4, hne4, hB⟩, t4⟩
      · have hKX' : ((K : Int) == X) = false := by rw [beq_eq_false_iff_ne]; omega
        by_cases hK0 : 0 < K
        · have hE5 := hide (show E = 5 by rw [hE, if_neg hKX, if_pos (.inl hK0)])
          have hK0' : (0 : Int) < K := by omega
          clear hKX hE hK0
          go_wp2_with fail
          go_ret2
          obtain rfl : N = K := by rw [HN.out, hE5.out]; rfl
          obtain rfl := hE5.out
          first | exact ⟨A2, c2, rfl, o3.rd, ⟨A4, c4, hx3, o4, hne4, hB⟩, t4⟩ | exact ⟨A2, ⟨c2, rfl⟩, o3.rd, ⟨A4, c4, hx3, o4, hne4, hB⟩, t4⟩
        · have hK0' : ¬ (0 : Int) < K := by omega
          have hov := over_any b base kind L p (n - K) (bs.drop K) ended w4 ⟨A4, c4, hx3, o4, hne4, hB⟩
          rcases hob : overB kind L (n - K) ended with _ | _
          · have hE5 := hide (show E = 5 by rw [hE, if_neg hKX, if_pos (.inr hob)])
            have hK00 := hide (show K = 0 by omega)
            rw [hob] at hov
            clear hob hE hKX hK0
            go_wp2_with fail
            refine hov.mono ?_
            rintro e w5 ⟨rfl, rfl⟩
            go_wp2_with fail
            go_ret2
            obtain rfl : N = 0 := by rw [HN.out, hE5.out, hK00.out]; rfl
            obtain rfl := hE5.out
            first | exact ⟨A2, c2, rfl, Rd.nil_, ⟨A4, c4, hx3, o4, hne4, hB⟩, t4⟩ | exact ⟨A2, ⟨c2, rfl⟩, Rd.nil_, ⟨A4, c4, hx3, o4, hne4, hB⟩, t4⟩
          · have hE8 := hide (show E = 8 by rw [hE, if_neg hKX, if_neg (fun h => h.elim hK0 (fun h => by rw [hob] at h; cases h))])
            rw [hob] at hov
            clear hob hE hKX hK0
            go_wp2_with fail
            refine hov.mono ?_
            rintro e w5 ⟨rfl, rfl⟩
            go_wp2_with fail
            go_ret2
            obtain rfl : N = 0 := by rw [HN.out, hE8.out]; rfl
            obtain rfl := hE8.out
            first | exact ⟨none, 0, rfl, Rd.nil_, ⟨A4, c4, hx3, o4, hne4, hB⟩, t4⟩ | exact ⟨none, ⟨0, rfl⟩, Rd.nil_, ⟨A4, c4, hx3, o4, hne4, hB⟩, t4⟩
  · rw [if_neg hcK] at rc rc'
    simp only [Nat.mul_one] at rc rc'
    go_upto_region 9 with (at_builtin; refine wpl_append _ rfl _ _ _ rfl w2.heap.size 5 i0 _ 1 1 Tryz.underlying35 hi0 hz0 hz1 hz2 rfl (by omega) _ _ _ rfl _ _ _ _ _ rfl hn2 rc' (bcells_one _) (by simp [maxLen]; omega) (by omega) (by simp) ?_; intro v3 w3 ho3 b3 _; obtain ⟨A4, c4, rfl, -⟩ := own_shape ho3; have hx3' := hx2.below (ta2.trans b3); have k23 := hx3'.five.2.2.1; have f23 := hx3'.free5.2.2.1)
    rw [Nat.zero_add, List.nil_append] at ho3
    have hb3 := ta2.trans b3
    have hx3 := hx3'.set (k := 2) (x := .slice A4 (n - K) c4) (by simp)
    have hne4 : (Value.slice A4 (n - K) c4).ownBlock ≠ some b := fun e => by have := (ho3.lt b e).1; omega
    have o4 := ((Ow.of_row ho3).base_ (base' := base) (Nat.le_trans hbase (Nat.le_trans t1z hs2))).store_far (a := ⟨b, 2, none⟩) hne4 (.slice A4 (n - K) c4)
    have o3 := (o2.below hb3).store_far (a := ⟨b, 2, none⟩) hne2 (.slice A4 (n - K) c4)
    have t4 := (t2.trans (hb3.mono (Nat.le_trans hbase (Nat.le_trans t1z hs2)))).setCell (p := ⟨b, 2, none⟩) hB (.slice A4 (n - K) c4)
    simp only [List.set_cons_succ, List.set_cons_zero] at hx3
    have e0 : IntKind.i64.wrap ((0 : Int) + ((n : Int) - K)) = ((n - K : Nat) : Int) := by rw [IntKind.wrap_i64]; omega
    clear hx3' k23 f23 ho3 hb3 b3 rc rc' o2 hx2 hi2 k0 k1 k2 k3 k4 f0 f1 f2 f3 f4 hn2 ta2 t2
    generalize w3.setCell _ _ = w4 at hx3 o4 o3 t4 ⊢
    obtain ⟨k0, k1, k2, k3, k4⟩ := hx3.five
    obtain ⟨f0, f1, f2, f3, f4⟩ := hx3.free5
    by_cases h1 : kind = 1
    · subst h1
      obtain rfl := hkl rfl
      have e1 : IntKind.i64.wrap ((M : Int) - K) = (M : Int) - K := by rw [IntKind.wrap_i64]; omega
      obtain rfl : L = (M : Int) - K := HL.out
      have hx5 := hx3.set (k := 1) (x := .int .i64 ((M : Int) - K)) (by simp)
      simp only [List.set_cons_succ, List.set_cons_zero] at hx5
      have o5 := o4.store_far (a := ⟨b, 1, none⟩) hne4 (.int .i64 ((M : Int) - K))
      have o6 := o3.store_far (a := ⟨b, 1, none⟩) hne2 (.int .i64 ((M : Int) - K))
      have t5 := t4.setCell (p := ⟨b, 1, none⟩) hB (.int .i64 ((M : Int) - K))
      go_upto_region 11 with (fail)
      generalize w4.setCell _ _ = w5 at hx5 o5 o6 t5 ⊢
      clear hx3 o4 o3 t4 k0 k1 k2 k3 k4 f0 f1 f2 f3 f4
      by_cases hKX : K = X
      · have hE0 := hide (show E = 0 by rw [hE, if_pos hKX])
        have hKX' : ((K : Int) == X) = true := by rw [beq_iff_eq]; omega
        clear hKX hE
        go_wp2_with fail
        go_ret2
        obtain rfl : N = K := by rw [HN.out, hE0.out]; rfl
        obtain rfl := hE0.out
        first | exact ⟨A2, c2, rfl, o6.rd, ⟨A4, c4, hx5, o5, hne4, hB⟩, t5⟩ | exact ⟨A2, ⟨c2, rfl⟩, o6.rd, ⟨A4, c4, hx5, o5, hne4, hB⟩, t5⟩
      · have hKX' : ((K : Int) == X) = false := by rw [beq_eq_false_iff_ne]; omega
        by_cases hK0 : 0 < K
        · have hE5 := hide (show E = 5 by rw [hE, if_neg hKX, if_pos (.inl hK0)])
          have hK0' : (0 : Int) < K := by omega
          clear hKX hE hK0
          go_wp2_with fail
          go_ret2
          obtain rfl : N = K := by rw [HN.out, hE5.out]; rfl
          obtain rfl := hE5.out
          first | exact ⟨A2, c2, rfl, o6.rd, ⟨A4, c4, hx5, o5, hne4, hB⟩, t5⟩ | exact ⟨A2, ⟨c2, rfl⟩, o6.rd, ⟨A4, c4, hx5, o5, hne4, hB⟩, t5⟩
        · have hK0' : ¬ (0 : Int) < K := by omega
          have hov := over_any b base 1 ((M : Int) - K) p (n - K) (bs.drop K) ended w5 ⟨A4, c4, hx5, o5, hne4, hB⟩
          rcases hob : overB 1 ((M : Int) - K) (n - K) ended with _ | _
          · have hE5 := hide (show E = 5 by rw [hE, if_neg hKX, if_pos (.inr hob)])
            have hK00 := hide (show K = 0 by omega)
            rw [hob] at hov
            clear hob hE hKX hK0
            go_wp2_with fail
            refine hov.mono ?_
            rintro e w6 ⟨rfl, rfl⟩
            go_wp2_with fail
            go_ret2
            obtain rfl : N = 0 := by rw [HN.out, hE5.out, hK00.out]; rfl
            obtain rfl := hE5.out
            first | exact ⟨A2, c2, rfl, Rd.nil_, ⟨A4, c4, hx5, o5, hne4, hB⟩, t5⟩ | exact ⟨A2, ⟨c2, rfl⟩, Rd.nil_, ⟨A4, c4, hx5, o5, hne4, hB⟩, t5⟩
          · have hE8 := hide (show E = 8 by rw [hE, if_neg hKX, if_neg (fun h => h.elim hK0 (fun h => by rw [hob] at h; cases h))])
            rw [hob] at hov
            clear hob hE hKX hK0
            go_wp2_with fail
            refine hov.mono ?_
            rintro e w6 ⟨rfl, rfl⟩
            go_wp2_with fail
            go_ret2
            obtain rfl : N = 0 := by rw [HN.out, hE8.out]; rfl
            obtain rfl := hE8.out
            first | exact ⟨none, 0, rfl, Rd.nil_, ⟨A4, c4, hx5, o5, hne4, hB⟩, t5⟩ | exact ⟨none, ⟨0, rfl⟩, Rd.nil_, ⟨A4, c4, hx5, o5, hne4, hB⟩, t5⟩
    · have h1' : (kind == 1) = false := by simpa using h1
      obtain rfl : L = left := by rw [HL.out]; unfold takeLeft; rw [if_neg h1]
      clear h1
      by_cases hKX : K = X
      · have hE0 := hide (show E = 0 by rw [hE, if_pos hKX])
        have hKX' : ((K : Int) == X) = true := by rw [beq_iff_eq]; omega
        clear hKX hE
        go_wp2_with fail
        go_ret2
        obtain rfl : N = K := by rw [HN.out, hE0.out]; rfl
        obtain rfl := hE0.out
        first | exact ⟨A2, c2, rfl, o3.rd, ⟨A4, c4, hx3, o4, hne4, hB⟩, t4⟩ | exact ⟨A2, ⟨c2, rfl⟩, o3.rd, ⟨A4, c4, hx3, o4, hne4, hB⟩, t4⟩
      · have hKX' : ((K : Int) == X) = false := by rw [beq_eq_false_iff_ne]; omega
        by_cases hK0 : 0 < K
        · have hE5 := hide (show E = 5 by rw [hE, if_neg hKX, if_pos (.inl hK0)])
          have hK0' : (0 : Int) < K := by omega
          clear hKX hE hK0
          go_wp2_with fail
          go_ret2
          obtain rfl : N = K := by rw [HN.out, hE5.out]; rfl
          obtain rfl := hE5.out
          first | exact ⟨A2, c2, rfl, o3.rd, ⟨A4, c4, hx3, o4, hne4, hB⟩, t4⟩ | exact ⟨A2, ⟨c2, rfl⟩, o3.rd, ⟨A4, c4, hx3, o4, hne4, hB⟩, t4⟩
        · have hK0' : ¬ (0 : Int) < K := by omega
          have hov := over_any b base kind L p (n - K) (bs.drop K) ended w4 ⟨A4, c4, hx3, o4, hne4, hB⟩
          rcases hob : overB kind L (n - K) ended with _ | _
          · have hE5 := hide (show E = 5 by rw [hE, if_neg hKX, if_pos (.inr hob)])
            have hK00 := hide (show K = 0 by omega)
            rw [hob] at hov
            clear hob hE hKX hK0
            go_wp2_with fail
            refine hov.mono ?_
            rintro e w5 ⟨rfl, rfl⟩
            go_wp2_with fail
            go_ret2
            obtain rfl : N = 0 := by rw [HN.out, hE5.out, hK00.out]; rfl
            obtain rfl := hE5.out
            first | exact ⟨A2, c2, rfl, Rd.nil_, ⟨A4, c4, hx3, o4, hne4, hB⟩, t4⟩ | exact ⟨A2, ⟨c2, rfl⟩, Rd.nil_, ⟨A4, c4, hx3, o4, hne4, hB⟩, t4⟩
          · have hE8 := hide (show E = 8 by rw [hE, if_neg hKX, if_neg (fun h => h.elim hK0 (fun h => by rw [hob] at h; cases h))])
            rw [hob] at hov
            clear hob hE hKX hK0
            go_wp2_with fail
            refine hov.mono ?_
            rintro e w5 ⟨rfl, rfl⟩
            go_wp2_with fail
            go_ret2
            obtain rfl : N = 0 := by rw [HN.out, hE8.out]; rfl
            obtain rfl := hE8.out
            first | exact ⟨none, 0, rfl, Rd.nil_, ⟨A4, c4, hx3, o4, hne4, hB⟩, t4⟩ | exact ⟨none, ⟨0, rfl⟩, Rd.nil_, ⟨A4, c4, hx3, o4, hne4, hB⟩, t4⟩
end Go.Proofs.YtijlaclngibekaaGreatDoor

/- frame.Body: Rest; what a nil body answers. -/
namespace Go.Proofs.YtijlaclngibekaaGreatDoor
open Go.RowKit

theorem IsBody.grown {w w' : World} {b base r : Nat} {kind left : Int} {p : Value} {n : Nat} {bs : List UInt8} {ended : Bool} (h : IsBody w b base kind left p n bs ended) (hg : w.grownBy w' (some r)) (hr : r < base) : IsBody w' b base kind left p n bs ended := by
  obtain ⟨A, c, h1, h2, h3, h4⟩ := h
  refine ⟨A, c, h1.grown hg (fun e => by cases e; omega), h2.kept hg ?_, h3, h4⟩
  by_cases hn : (Value.slice A n c).ownBlock = none
  · exact .inl hn
  · exact .inr (fun e => by have := (h2.lt r e).1; omega)
set_option maxRecDepth 100000 in
set_option maxHeartbeats 3200000 in
/-- What stands behind a body that is over. -/
theorem bodyrest_over (b base : Nat) (kind left : Int) (p : Value) (n : Nat) (bs : List UInt8) (ended : Bool) (w : World) (h : IsBody w b base kind left p n bs ended) (hk : kind ≠ 2) (hov : overB kind left n ended = true) :
    Calls Tryz.prog 154 #[.pointer (some ⟨b, 0, none⟩)] w fun e w' => ∃ A c, e = .returned (.slice A n c) ∧ Ow w' base 1 (.slice A n c) n (bcells bs) ∧ IsBody w' b base kind left p 0 [] ended ∧ Below base w w' ∧ w.grownBy w' (some b) := by
  have ho := over_any b base kind left p n bs ended w h
  rw [hov] at ho
  obtain ⟨A, c, hx, hi, hne, hB⟩ := h
  have hk' : (kind == 2) = false := by simpa using hk
  obtain ⟨k0, k1, k2, k3, k4⟩ := hx.five
  obtain ⟨f0, f1, f2, f3, f4⟩ := hx.free5
  have hx2 := hx.set (k := 2) (x := .slice none 0 0) (by simp)
  simp only [List.set_cons_succ, List.set_cons_zero] at hx2
  have hi2 := hi.store_far (a := ⟨b, 2, none⟩) hne (.slice none 0 0)
  have t2 := (Below.refl base w).setCell (p := ⟨b, 2, none⟩) hB (.slice none 0 0)
  have g2 := grown_set (World.grownBy.refl w (some b)) 2 (.slice none 0 0)
  clear hk hov hx
  go_enter Tryz.func154, Tryz.ntmps154
  go_wp2_with fail
  refine ho.mono ?_
  rintro e w1 ⟨rfl, rfl⟩
  go_wp2_with fail
  go_ret
  exact ⟨A, c, rfl, hi2, ⟨none, 0, hx2, Ow.nil_, by simp [Value.ownBlock], hB⟩, t2, g2⟩
set_option maxHeartbeats 800000 in
theorem bfeedNil (x : Value) (w : World) : Calls Tryz.prog 149 #[.pointer none, x] w fun e w' => e = .returned (.tuple #[]) ∧ w = w' := by
  go_enter Tryz.func149, Tryz.ntmps149
  go_wp2
  go_end0
  exact ⟨rfl, rfl⟩
set_option maxHeartbeats 800000 in
theorem bendNil (w : World) : Calls Tryz.prog 150 #[.pointer none] w fun e w' => e = .returned (.tuple #[]) ∧ w = w' := by
  go_enter Tryz.func150, Tryz.ntmps150
  go_wp2
  go_end0
  exact ⟨rfl, rfl⟩
set_option maxHeartbeats 800000 in
theorem btakeNil (x : Value) (w : World) : Calls Tryz.prog 113 #[.pointer none, x] w fun e w' => e = .returned (.tuple #[.slice none 0 0, .int .i64 8]) ∧ w = w' := by
  go_enter Tryz.func113, Tryz.ntmps113
  go_wp2
  go_ret2
  exact ⟨rfl, rfl⟩
set_option maxHeartbeats 800000 in
theorem brestNil (w : World) : Calls Tryz.prog 154 #[.pointer none] w fun e w' => e = .returned (.slice none 0 0) ∧ w = w' := by
  go_enter Tryz.func154, Tryz.ntmps154
  go_wp2
  go_ret
  exact ⟨rfl, rfl⟩
end Go.Proofs.YtijlaclngibekaaGreatDoor

/- frame.Body of kinds that are not chunked, its row's block told: what a call writes is that block, the body's own, and new ones. -/
namespace Go.Proofs.YtijlaclngibekaaGreatDoor
open Go.RowKit
set_option linter.unusedVariables false
set_option linter.unusedSimpArgs false

def IsBodyW (w : World) (b : Nat) (own : Option Nat) (kind left : Int) (p : Value) (n : Nat) (bs : List UInt8) (ended : Bool) : Prop :=
  ∃ A c, Box w b [.int .i64 kind, .int .i64 left, .slice A n c, p, .bool ended] ∧ Ow w 0 1 (.slice A n c) n (bcells bs) ∧ (Value.slice A n c).ownBlock = own ∧ own ≠ some b
theorem IsBodyW.plain {w : World} {b : Nat} {own : Option Nat} {kind left : Int} {p : Value} {n : Nat} {bs : List UInt8} {ended : Bool} (h : IsBodyW w b own kind left p n bs ended) : IsBody w b 0 kind left p n bs ended := by
  obtain ⟨A, c, h1, h2, h3, h4⟩ := h
  exact ⟨A, c, h1, h2, by rw [h3]; exact h4, Nat.zero_le _⟩
theorem IsBodyW.grown {w w' : World} {b : Nat} {own : Option Nat} {kind left : Int} {p : Value} {n : Nat} {bs : List UInt8} {ended : Bool} {row : Option Nat} (h : IsBodyW w b own kind left p n bs ended) (hg : w.grownBy w' row) (h1 : row ≠ some b) (h2 : own = none ∨ own ≠ row) : IsBodyW w' b own kind left p n bs ended := by
  obtain ⟨A, c, k1, k2, k3, k4⟩ := h
  exact ⟨A, c, k1.grown hg h1, k2.kept hg (by rw [k3]; exact h2), k3, k4⟩
theorem IsBodyW.lt {w : World} {b : Nat} {own : Option Nat} {kind left : Int} {p : Value} {n : Nat} {bs : List UInt8} {ended : Bool} (h : IsBodyW w b own kind left p n bs ended) : b < w.heap.size ∧ ∀ g, own = some g → g < w.heap.size := by
  obtain ⟨A, c, k1, k2, k3, k4⟩ := h
  exact ⟨k1.1, fun g e => (k2.lt g (k3.trans e)).2⟩
theorem bodynewW_any (kind left : Int) (w : World) : Calls Tryz.prog 148 #[.agg #[.int .i64 kind, .int .i64 left]] w fun e w' => ∃ b p own, e = .returned (.pointer (some ⟨b, 0, none⟩)) ∧ IsBodyW w' b own kind (max left 0) p 0 [] false ∧ w.heap.size ≤ b ∧ (∀ g, own = some g → w.heap.size ≤ g) ∧ Below w.heap.size w w' := by
  refine (bodynew_any kind left w).mono ?_
  rintro e w' ⟨b, p, rfl, ⟨A, c, h1, h2, h3, h4⟩, hb⟩
  exact ⟨b, p, _, rfl, ⟨A, c, h1, h2.base_ (Nat.zero_le _), rfl, h3⟩, h4, fun g e => (h2.lt g e).1, hb⟩
theorem bodyrestW_any (b : Nat) (own : Option Nat) (kind left : Int) (p : Value) (n : Nat) (bs : List UInt8) (ended : Bool) (w : World) (h : IsBodyW w b own kind left p n bs ended) (hk : kind ≠ 2) (hov : overB kind left n ended = true) :
    Calls Tryz.prog 154 #[.pointer (some ⟨b, 0, none⟩)] w fun e w' => ∃ A c, e = .returned (.slice A n c) ∧ Ow w' 0 1 (.slice A n c) n (bcells bs) ∧ w.grownBy w' (some b) := by
  refine (bodyrest_over b 0 kind left p n bs ended w h.plain hk hov).mono ?_
  rintro e w' ⟨A, c, rfl, ho, -, -, hg⟩
  exact ⟨A, c, rfl, ho, hg⟩
set_option maxRecDepth 100000 in
set_option maxHeartbeats 3200000 in
/-- More bytes. -/
theorem bodyfeedW_any (b : Nat) (own : Option Nat) (kind left : Int) (p : Value) (n : Nat) (bs : List UInt8) (w : World) (h : IsBodyW w b own kind left p n bs false) (hk : kind ≠ 2) (A' : Option Addr) (m c' B : Nat) (ys : List UInt8)
    (hy : Rd w B 1 A' m (bcells ys)) (hsz : n + m ≤ 1000000000) :
    Calls Tryz.prog 149 #[.pointer (some ⟨b, 0, none⟩), .slice A' m c'] w fun e w' => e = .returned (.tuple #[]) ∧ ∃ own', IsBodyW w' b own' kind left p (n + m) (bs ++ ys) false ∧ (own' = own ∨ ∀ g, own' = some g → w.heap.size ≤ g) ∧ ∃ w1, w.grownBy w1 own ∧ w1.grownBy w' (some b) := by
  obtain ⟨A, c, hx, ho, hown, hne⟩ := h
  obtain ⟨k0, k1, k2, k3, k4⟩ := hx.five
  obtain ⟨i0, hi0, hz0, hz1, hz2⟩ := info_parts infoU8b
  have hk' : (kind == 2) = false := by simpa using hk
  obtain ⟨f0, f1, f2, f3, f4⟩ := hx.free5
  have hbl : b < w.heap.size := hx.1
  subst hown
  clear hk
  go_enter Tryz.func149, Tryz.ntmps149
  go_wp2_with (at_builtin; refine wpl_append_ow _ rfl _ _ _ rfl 0 5 i0 _ 1 1 Tryz.underlying35 hi0 hz0 hz1 hz2 rfl (by omega) _ _ _ rfl _ _ _ _ _ rfl ho hy (bcells_one _) (by simp [maxLen]; omega) (by omega) (Nat.zero_le _) ?_; intro v1 w1 ho1 b1 g1 hv1; obtain ⟨A2, c2', rfl, -⟩ := Ow.shape ho1; have hx1 := hx.grown g1 hne; have c2 := hx1.five.2.2.1; have f21 := hx1.free5.2.2.1)
  rw [bcells_append] at ho1
  have hne2 : (Value.slice A2 (n + m) c2').ownBlock ≠ some b := by
    rcases hv1 with e | e
    · rw [e]; exact hne
    · exact fun e' => by have := e b e'; omega
  go_end0
  exact ⟨rfl, _, ⟨A2, c2', hx1.set (k := 2) (by simp), ho1.store_far hne2 _, rfl, hne2⟩, hv1, w1, g1, grown_set (World.grownBy.refl _ _) 2 _⟩
set_option maxRecDepth 100000 in
set_option maxHeartbeats 3200000 in
/-- The next bytes. -/
theorem bodytakeW_any (b base : Nat) (kind left : Int) (p : Value) (n : Nat) (bs : List UInt8) (ended : Bool) (x : Int) (w : World) (h : IsBody w b base kind left p n bs ended) (hk : kind ≠ 2) (hl : 0 ≤ left) (hl2 : left ≤ 9223372036854775807) (hsz : n ≤ 1000000000) (hbase : base ≤ w.heap.size) :
    Calls Tryz.prog 113 #[.pointer (some ⟨b, 0, none⟩), .int .i64 x] w fun e w' => ∃ A c, e = .returned (.tuple #[.slice A (if takeE kind left n x ended = 8 then 0 else takeN kind left n x) c, .int .i64 (takeE kind left n x ended)]) ∧
      Rd w' w'.heap.size 1 A (if takeE kind left n x ended = 8 then 0 else takeN kind left n x) (bcells (bs.take (if takeE kind left n x ended = 8 then 0 else takeN kind left n x))) ∧
      (∃ own', IsBodyW w' b own' kind (takeLeft kind left (takeN kind left n x)) p (n - takeN kind left n x) (bs.drop (takeN kind left n x)) ended ∧ (∀ g, own' = some g → w.heap.size ≤ g)) ∧ w.grownBy w' (some b) := by
  have hlen := h.len
  have hm := fun k => most_any b base kind left p n bs ended (w.drewN k) (h.drewN k)
  obtain ⟨X, hX⟩ : ∃ X : Nat, max x 0 = X := ⟨(max x 0).toNat, by omega⟩
  obtain ⟨M, hM⟩ : ∃ M : Nat, mostB kind left n = M := by
    have h0 : 0 ≤ mostB kind left n := by
      unfold mostB
      split
      · exact hl
      · split <;> omega
    exact ⟨(mostB kind left n).toNat, by omega⟩
  obtain ⟨K, hK⟩ : ∃ K : Nat, K = takeN kind left n x := ⟨_, rfl⟩
  have hK2 : K = min X (min M n) := by rw [hK]; unfold takeN; rw [hX, hM]; omega
  have hE : takeE kind left n x ended = if K = X then 0 else if 0 < K ∨ overB kind (takeLeft kind left K) (n - K) ended = false then 5 else 8 := by
    unfold takeE
    rw [← hK, hX]
    by_cases h : K = X
    · rw [if_pos h, if_pos (by omega)]
    · rw [if_neg h, if_neg (by omega)]
  obtain ⟨E, hEE⟩ : ∃ E, E = takeE kind left n x ended := ⟨_, rfl⟩
  rw [← hEE] at hE ⊢
  rw [← hK]
  obtain ⟨L, hL⟩ : ∃ L, L = takeLeft kind left K := ⟨_, rfl⟩
  rw [← hL] at hE ⊢
  have HL := hide hL
  clear hL
  obtain ⟨N, hN⟩ : ∃ N, N = if E = 8 then 0 else K := ⟨_, rfl⟩
  rw [← hN]
  have HN := hide hN
  clear hN
  simp only [hM] at hm
  have hkl : kind = 1 → left = M := fun e => by rw [← hM]; unfold mostB; rw [if_pos e]
  obtain ⟨A, c, hx, ho, hne, hB⟩ := h
  obtain ⟨k0, k1, k2, k3, k4⟩ := hx.five
  obtain ⟨i0, hi0, hz0, hz1, hz2⟩ := info_parts infoU8b
  have hk' : (kind == 2) = false := by simpa using hk
  have hbl : b < w.heap.size := hx.1
  have hif : (if (n : Int) < if M < X then (M : Int) else X then (n : Int) else if M < X then (M : Int) else X) = K := by
    rw [hK2]; split <;> split <;> omega
  have hnc : n ≤ c ∧ c ≤ maxLen := by obtain ⟨A', c', hv, h1, h2⟩ := ho.shape; cases hv; exact ⟨h1, h2⟩
  obtain ⟨hnc, hcm⟩ := hnc
  have hKn : K ≤ n := by omega
  have hKM : K ≤ M := by omega
  have hKc : (K : Int) ≤ (c : Int) := by omega
  clear hK hK2 hM hk hEE
  go_enter Tryz.func113, Tryz.ntmps113
  go_wp2_with fail
  go_quiet ((go_at_call 152; exact Calls.quiet_of_same ((hm _).mono fun _ _ h => ⟨h.1, h.2.symm⟩)))
  have hw : Below w.heap.size w (w.drewN nq) := below_drewN (Below.refl _ _)
  generalize w.drewN nq = w1 at hw ⊢
  have t1 : Below base w w1 := hw.mono hbase
  have hx1 := hx.below hw
  have ho1 := ho.below hw
  obtain ⟨k0', k1', k2', k3', k4'⟩ := hx1.five
  have hbl1 : b < w1.heap.size := hx1.1
  have hwk := hw
  clear k0 k1 k2 k3 k4 hx ho hm hw hif
  have r1 := (ho1.rd.front hKn)
  rw [Nat.mul_one, bcells_take] at r1
  have hn1 := own_new w1 #[] 5 1 0 rfl (by simp [maxLen]) w1.heap.size (Nat.le_refl _)
  have ta1 : Below w1.heap.size w1 (w1.alloc (.cells #[] 5)) := (Below.refl _ _).alloc (Nat.le_refl _) _
  have r1' := r1.below ta1
  have t1z := t1.size
  go_upto_region 8 with (at_builtin; refine wpl_append _ rfl _ _ _ rfl w1.heap.size 5 i0 _ 1 1 Tryz.underlying35 hi0 hz0 hz1 hz2 rfl (by omega) _ _ _ rfl _ _ _ _ _ rfl hn1 r1' (bcells_one _) (by simp [maxLen]; omega) (by omega) (by simp) ?_; intro v2 w2 ho2 b2 _; obtain ⟨A2, c2, rfl, -⟩ := own_shape ho2)
  have hw2 := ta1.trans b2
  rw [Nat.zero_add, List.nil_append] at ho2
  have hx2 := hx1.below hw2
  have hi2 := ho1.below hw2
  have t2 := t1.trans (hw2.mono (Nat.le_trans hbase t1z))
  have gg2 := grown_of_below (row := some b) (hwk.trans (hw2.mono hwk.size))
  have hzw := hwk.size
  have o2 := Ow.of_row ho2
  have hne2 : (Value.slice A2 K c2).ownBlock ≠ some b := fun e => by have := (o2.lt b e).1; omega
  obtain ⟨k0, k1, k2, k3, k4⟩ := hx2.five
  obtain ⟨f0, f1, f2, f3, f4⟩ := hx2.free5
  have hbl2 := hx2.1
  have t2z := t2.size
  have hs2 := hw2.size
  clear k0' k1' k2' k3' k4' hx1 ho1 hn1 ta1 r1' r1 b2 hw2 ho2
  have rc := hi2.rd.cut (cap := c) hKn (Nat.le_refl _) hnc
  have hcut : ((bcells bs).drop (K * 1)).take ((n - K) * 1) = bcells (bs.drop K) := by
    rw [Nat.mul_one, Nat.mul_one, bcells_drop]; exact List.take_of_length_le (by rw [bcells_length, List.length_drop]; omega)
  rw [hcut] at rc
  have hn2 := own_new w2 #[] 5 1 0 rfl (by simp [maxLen]) w2.heap.size (Nat.le_refl _)
  have ta2 : Below w2.heap.size w2 (w2.alloc (.cells #[] 5)) := (Below.refl _ _).alloc (Nat.le_refl _) _
  have rc' := rc.below ta2
  by_cases hcK : c = K
  · rw [if_pos hcK] at rc rc'
    go_upto_region 9 with (at_builtin; refine wpl_append _ rfl _ _ _ rfl w2.heap.size 5 i0 _ 1 1 Tryz.underlying35 hi0 hz0 hz1 hz2 rfl (by omega) _ _ _ rfl _ _ _ _ _ rfl hn2 rc' (bcells_one _) (by simp [maxLen]; omega) (by omega) (by simp) ?_; intro v3 w3 ho3 b3 _; obtain ⟨A4, c4, rfl, -⟩ := own_shape ho3; have hx3' := hx2.below (ta2.trans b3); have k23 := hx3'.five.2.2.1; have f23 := hx3'.free5.2.2.1)
    rw [Nat.zero_add, List.nil_append] at ho3
    have hb3 := ta2.trans b3
    have hx3 := hx3'.set (k := 2) (x := .slice A4 (n - K) c4) (by simp)
    have hne4 : (Value.slice A4 (n - K) c4).ownBlock ≠ some b := fun e => by have := (ho3.lt b e).1; omega
    have o4 := ((Ow.of_row ho3).base_ (base' := base) (Nat.le_trans hbase (Nat.le_trans t1z hs2))).store_far (a := ⟨b, 2, none⟩) hne4 (.slice A4 (n - K) c4)
    have o3 := (o2.below hb3).store_far (a := ⟨b, 2, none⟩) hne2 (.slice A4 (n - K) c4)
    have t4 := (t2.trans (hb3.mono (Nat.le_trans hbase (Nat.le_trans t1z hs2)))).setCell (p := ⟨b, 2, none⟩) hB (.slice A4 (n - K) c4)
    have gg4 := grown_set (grown_trans gg2 (grown_of_below hb3)) 2 (.slice A4 (n - K) c4)
    have hge4 : ∀ g, (Value.slice A4 (n - K) c4).ownBlock = some g → w.heap.size ≤ g := fun g e => by have := (ho3.lt g e).1; omega
    simp only [List.set_cons_succ, List.set_cons_zero] at hx3
    have e0 : IntKind.i64.wrap ((0 : Int) + ((n : Int) - K)) = ((n - K : Nat) : Int) := by rw [IntKind.wrap_i64]; omega
    clear hx3' k23 f23 ho3 hb3 b3 rc rc' o2 hx2 hi2 k0 k1 k2 k3 k4 f0 f1 f2 f3 f4 hn2 ta2 t2
    generalize w3.setCell _ _ = w4 at hx3 o4 o3 t4 gg4 ⊢
    obtain ⟨k0, k1, k2, k3, k4⟩ := hx3.five
    obtain ⟨f0, f1, f2, f3, f4⟩ := hx3.free5
    by_cases h1 : kind = 1
    · subst h1
      obtain rfl := hkl rfl
      have e1 : IntKind.i64.wrap ((M : Int) - K) = (M : Int) - K := by rw [IntKind.wrap_i64]; omega
      obtain rfl : L = (M : Int) - K := HL.out
      have hx5 := hx3.set (k := 1) (x := .int .i64 ((M : Int) - K)) (by simp)
      simp only [List.set_cons_succ, List.set_cons_zero] at hx5
      have o5 := o4.store_far (a := ⟨b, 1, none⟩) hne4 (.int .i64 ((M : Int) - K))
      have o6 := o3.store_far (a := ⟨b, 1, none⟩) hne2 (.int .i64 ((M : Int) - K))
      have t5 := t4.setCell (p := ⟨b, 1, none⟩) hB (.int .i64 ((M : Int) - K))
      have gg5 := grown_set gg4 1 (.int .i64 ((M : Int) - K))
      go_upto_region 11 with (fail)
      generalize w4.setCell _ _ = w5 at hx5 o5 o6 t5 gg5 ⊢
      clear hx3 o4 o3 t4 k0 k1 k2 k3 k4 f0 f1 f2 f3 f4
      by_cases hKX : K = X
      · have hE0 := hide (show E = 0 by rw [hE, if_pos hKX])
        have hKX' : ((K : Int) == X) = true := by rw [beq_iff_eq]; omega
        clear hKX hE
        go_wp2_with fail
        go_ret2
        obtain rfl : N = K := by rw [HN.out, hE0.out]; rfl
        obtain rfl := hE0.out
        first | exact ⟨A2, c2, rfl, o6.rd, ⟨_, ⟨A4, c4, hx5, o5.base_ (Nat.zero_le _), rfl, hne4⟩, hge4⟩, gg5⟩ | exact ⟨A2, ⟨c2, rfl⟩, o6.rd, ⟨_, ⟨A4, c4, hx5, o5.base_ (Nat.zero_le _), rfl, hne4⟩, hge4⟩, gg5⟩
      · have hKX' : ((K : Int) == X) = false := by rw [beq_eq_false_iff_ne]; omega
        by_cases hK0 : 0 < K
        · have hE5 := hide (show E = 5 by rw [hE, if_neg hKX, if_pos (.inl hK0)])
          have hK0' : (0 : Int) < K := by omega
          clear hKX hE hK0
          go_wp2_with fail
          go_ret2
          obtain rfl : N = K := by rw [HN.out, hE5.out]; rfl
          obtain rfl := hE5.out
          first | exact ⟨A2, c2, rfl, o6.rd, ⟨_, ⟨A4, c4, hx5, o5.base_ (Nat.zero_le _), rfl, hne4⟩, hge4⟩, gg5⟩ | exact ⟨A2, ⟨c2, rfl⟩, o6.rd, ⟨_, ⟨A4, c4, hx5, o5.base_ (Nat.zero_le _), rfl, hne4⟩, hge4⟩, gg5⟩
        · have hK0' : ¬ (0 : Int) < K := by omega
          have hov := over_any b base 1 ((M : Int) - K) p (n - K) (bs.drop K) ended w5 ⟨A4, c4, hx5, o5, hne4, hB⟩
          rcases hob : overB 1 ((M : Int) - K) (n - K) ended with _ | _
          · have hE5 := hide (show E = 5 by rw [hE, if_neg hKX, if_pos (.inr hob)])
            have hK00 := hide (show K = 0 by omega)
            rw [hob] at hov
            clear hob hE hKX hK0
            go_wp2_with fail
            refine hov.mono ?_
            rintro e w6 ⟨rfl, rfl⟩
            go_wp2_with fail
            go_ret2
            obtain rfl : N = 0 := by rw [HN.out, hE5.out, hK00.out]; rfl
            obtain rfl := hE5.out
            first | exact ⟨A2, c2, rfl, Rd.nil_, ⟨_, ⟨A4, c4, hx5, o5.base_ (Nat.zero_le _), rfl, hne4⟩, hge4⟩, gg5⟩ | exact ⟨A2, ⟨c2, rfl⟩, Rd.nil_, ⟨_, ⟨A4, c4, hx5, o5.base_ (Nat.zero_le _), rfl, hne4⟩, hge4⟩, gg5⟩
          · have hE8 := hide (show E = 8 by rw [hE, if_neg hKX, if_neg (fun h => h.elim hK0 (fun h => by rw [hob] at h; cases h))])
            rw [hob] at hov
            clear hob hE hKX hK0
            go_wp2_with fail
            refine hov.mono ?_
            rintro e w6 ⟨rfl, rfl⟩
            go_wp2_with fail
            go_ret2
            obtain rfl : N = 0 := by rw [HN.out, hE8.out]; rfl
            obtain rfl := hE8.out
            first | exact ⟨none, 0, rfl, Rd.nil_, ⟨_, ⟨A4, c4, hx5, o5.base_ (Nat.zero_le _), rfl, hne4⟩, hge4⟩, gg5⟩ | exact ⟨none, ⟨0, rfl⟩, Rd.nil_, ⟨_, ⟨A4, c4, hx5, o5.base_ (Nat.zero_le _), rfl, hne4⟩, hge4⟩, gg5⟩
    · have h1' : (kind == 1) = false := by simpa using h1
      obtain rfl : L = left := by rw [HL.out]; unfold takeLeft; rw [if_neg h1]
      clear h1
      by_cases hKX : K = X
      · have hE0 := hide (show E = 0 by rw [hE, if_pos hKX])
        have hKX' : ((K : Int) == X) = true := by rw [beq_iff_eq]; omega
        clear hKX hE
        go_wp2_with fail
        go_ret2
        obtain rfl : N = K := by rw [HN.out, hE0.out]; rfl
        obtain rfl := hE0.out
        first | exact ⟨A2, c2, rfl, o3.rd, ⟨_, ⟨A4, c4, hx3, o4.base_ (Nat.zero_le _), rfl, hne4⟩, hge4⟩, gg4⟩ | exact ⟨A2, ⟨c2, rfl⟩, o3.rd, ⟨_, ⟨A4, c4, hx3, o4.base_ (Nat.zero_le _), rfl, hne4⟩, hge4⟩, gg4⟩
      · have hKX' : ((K : Int) == X) = false := by rw [beq_eq_false_iff_ne]; omega
        by_cases hK0 : 0 < K
        · have hE5 := hide (show E = 5 by rw [hE, if_neg hKX, if_pos (.inl hK0)])
          have hK0' : (0 : Int) < K := by omega
          clear hKX hE hK0
          go_wp2_with fail
          go_ret2
          obtain rfl : N = K := by rw [HN.out, hE5.out]; rfl
          obtain rfl := hE5.out
          first | exact ⟨A2, c2, rfl, o3.rd, ⟨_, ⟨A4, c4, hx3, o4.base_ (Nat.zero_le _), rfl, hne4⟩, hge4⟩, gg4⟩ | exact ⟨A2, ⟨c2, rfl⟩, o3.rd, ⟨_, ⟨A4, c4, hx3, o4.base_ (Nat.zero_le _), rfl, hne4⟩, hge4⟩, gg4⟩
        · have hK0' : ¬ (0 : Int) < K := by omega
          have hov := over_any b base kind L p (n - K) (bs.drop K) ended w4 ⟨A4, c4, hx3, o4, hne4, hB⟩
          rcases hob : overB kind L (n - K) ended with _ | _
          · have hE5 := hide (show E = 5 by rw [hE, if_neg hKX, if_pos (.inr hob)])
            have hK00 := hide (show K = 0 by omega)
            rw [hob] at hov
            clear hob hE hKX hK0
            go_wp2_with fail
            refine hov.mono ?_
            rintro e w5 ⟨rfl, rfl⟩
            go_wp2_with fail
            go_ret2
            obtain rfl : N = 0 := by rw [HN.out, hE5.out, hK00.out]; rfl
            obtain rfl := hE5.out
            first | exact ⟨A2, c2, rfl, Rd.nil_, ⟨_, ⟨A4, c4, hx3, o4.base_ (Nat.zero_le _), rfl, hne4⟩, hge4⟩, gg4⟩ | exact ⟨A2, ⟨c2, rfl⟩, Rd.nil_, ⟨_, ⟨A4, c4, hx3, o4.base_ (Nat.zero_le _), rfl, hne4⟩, hge4⟩, gg4⟩
          · have hE8 := hide (show E = 8 by rw [hE, if_neg hKX, if_neg (fun h => h.elim hK0 (fun h => by rw [hob] at h; cases h))])
            rw [hob] at hov
            clear hob hE hKX hK0
            go_wp2_with fail
            refine hov.mono ?_
            rintro e w5 ⟨rfl, rfl⟩
            go_wp2_with fail
            go_ret2
            obtain rfl : N = 0 := by rw [HN.out, hE8.out]; rfl
            obtain rfl := hE8.out
            first | exact ⟨none, 0, rfl, Rd.nil_, ⟨_, ⟨A4, c4, hx3, o4.base_ (Nat.zero_le _), rfl, hne4⟩, hge4⟩, gg4⟩ | exact ⟨none, ⟨0, rfl⟩, Rd.nil_, ⟨_, ⟨A4, c4, hx3, o4.base_ (Nat.zero_le _), rfl, hne4⟩, hge4⟩, gg4⟩
  · rw [if_neg hcK] at rc rc'
    simp only [Nat.mul_one] at rc rc'
    go_upto_region 9 with (at_builtin; refine wpl_append _ rfl _ _ _ rfl w2.heap.size 5 i0 _ 1 1 Tryz.underlying35 hi0 hz0 hz1 hz2 rfl (by omega) _ _ _ rfl _ _ _ _ _ rfl hn2 rc' (bcells_one _) (by simp [maxLen]; omega) (by omega) (by simp) ?_; intro v3 w3 ho3 b3 _; obtain ⟨A4, c4, rfl, -⟩ := own_shape ho3; have hx3' := hx2.below (ta2.trans b3); have k23 := hx3'.five.2.2.1; have f23 := hx3'.free5.2.2.1)
    rw [Nat.zero_add, List.nil_append] at ho3
    have hb3 := ta2.trans b3
    have hx3 := hx3'.set (k := 2) (x := .slice A4 (n - K) c4) (by simp)
    have hne4 : (Value.slice A4 (n - K) c4).ownBlock ≠ some b := fun e => by have := (ho3.lt b e).1; omega
    have o4 := ((Ow.of_row ho3).base_ (base' := base) (Nat.le_trans hbase (Nat.le_trans t1z hs2))).store_far (a := ⟨b, 2, none⟩) hne4 (.slice A4 (n - K) c4)
    have o3 := (o2.below hb3).store_far (a := ⟨b, 2, none⟩) hne2 (.slice A4 (n - K) c4)
    have t4 := (t2.trans (hb3.mono (Nat.le_trans hbase (Nat.le_trans t1z hs2)))).setCell (p := ⟨b, 2, none⟩) hB (.slice A4 (n - K) c4)
    have gg4 := grown_set (grown_trans gg2 (grown_of_below hb3)) 2 (.slice A4 (n - K) c4)
    have hge4 : ∀ g, (Value.slice A4 (n - K) c4).ownBlock = some g → w.heap.size ≤ g := fun g e => by have := (ho3.lt g e).1; omega
    simp only [List.set_cons_succ, List.set_cons_zero] at hx3
    have e0 : IntKind.i64.wrap ((0 : Int) + ((n : Int) - K)) = ((n - K : Nat) : Int) := by rw [IntKind.wrap_i64]; omega
    clear hx3' k23 f23 ho3 hb3 b3 rc rc' o2 hx2 hi2 k0 k1 k2 k3 k4 f0 f1 f2 f3 f4 hn2 ta2 t2
    generalize w3.setCell _ _ = w4 at hx3 o4 o3 t4 gg4 ⊢
    obtain ⟨k0, k1, k2, k3, k4⟩ := hx3.five
    obtain ⟨f0, f1, f2, f3, f4⟩ := hx3.free5
    by_cases h1 : kind = 1
    · subst h1
      obtain rfl := hkl rfl
      have e1 : IntKind.i64.wrap ((M : Int) - K) = (M : Int) - K := by rw [IntKind.wrap_i64]; omega
      obtain rfl : L = (M : Int) - K := HL.out
      have hx5 := hx3.set (k := 1) (x := .int .i64 ((M : Int) - K)) (by simp)
      simp only [List.set_cons_succ, List.set_cons_zero] at hx5
      have o5 := o4.store_far (a := ⟨b, 1, none⟩) hne4 (.int .i64 ((M : Int) - K))
      have o6 := o3.store_far (a := ⟨b, 1, none⟩) hne2 (.int .i64 ((M : Int) - K))
      have t5 := t4.setCell (p := ⟨b, 1, none⟩) hB (.int .i64 ((M : Int) - K))
      have gg5 := grown_set gg4 1 (.int .i64 ((M : Int) - K))
      go_upto_region 11 with (fail)
      generalize w4.setCell _ _ = w5 at hx5 o5 o6 t5 gg5 ⊢
      clear hx3 o4 o3 t4 k0 k1 k2 k3 k4 f0 f1 f2 f3 f4
      by_cases hKX : K = X
      · have hE0 := hide (show E = 0 by rw [hE, if_pos hKX])
        have hKX' : ((K : Int) == X) = true := by rw [beq_iff_eq]; omega
        clear hKX hE
        go_wp2_with fail
        go_ret2
        obtain rfl : N = K := by rw [HN.out, hE0.out]; rfl
        obtain rfl := hE0.out
        first | exact ⟨A2, c2, rfl, o6.rd, ⟨_, ⟨A4, c4, hx5, o5.base_ (Nat.zero_le _), rfl, hne4⟩, hge4⟩, gg5⟩ | exact ⟨A2, ⟨c2, rfl⟩, o6.rd, ⟨_, ⟨A4, c4, hx5, o5.base_ (Nat.zero_le _), rfl, hne4⟩, hge4⟩, gg5⟩
      · have hKX' : ((K : Int) == X) = false := by rw [beq_eq_false_iff_ne]; omega
        by_cases hK0 : 0 < K
        · have hE5 := hide (show E = 5 by rw [hE, if_neg hKX, if_pos (.inl hK0)])
          have hK0' : (0 : Int) < K := by omega
          clear hKX hE hK0
          go_wp2_with fail
          go_ret2
          obtain rfl : N = K := by rw [HN.out, hE5.out]; rfl
          obtain rfl := hE5.out
          first | exact ⟨A2, c2, rfl, o6.rd, ⟨_, ⟨A4, c4, hx5, o5.base_ (Nat.zero_le _), rfl, hne4⟩, hge4⟩, gg5⟩ | exact ⟨A2, ⟨c2, rfl⟩, o6.rd, ⟨_, ⟨A4, c4, hx5, o5.base_ (Nat.zero_le _), rfl, hne4⟩, hge4⟩, gg5⟩
        · have hK0' : ¬ (0 : Int) < K := by omega
          have hov := over_any b base 1 ((M : Int) - K) p (n - K) (bs.drop K) ended w5 ⟨A4, c4, hx5, o5, hne4, hB⟩
          rcases hob : overB 1 ((M : Int) - K) (n - K) ended with _ | _
          · have hE5 := hide (show E = 5 by rw [hE, if_neg hKX, if_pos (.inr hob)])
            have hK00 := hide (show K = 0 by omega)
            rw [hob] at hov
            clear hob hE hKX hK0
            go_wp2_with fail
            refine hov.mono ?_
            rintro e w6 ⟨rfl, rfl⟩
            go_wp2_with fail
            go_ret2
            obtain rfl : N = 0 := by rw [HN.out, hE5.out, hK00.out]; rfl
            obtain rfl := hE5.out
            first | exact ⟨A2, c2, rfl, Rd.nil_, ⟨_, ⟨A4, c4, hx5, o5.base_ (Nat.zero_le _), rfl, hne4⟩, hge4⟩, gg5⟩ | exact ⟨A2, ⟨c2, rfl⟩, Rd.nil_, ⟨_, ⟨A4, c4, hx5, o5.base_ (Nat.zero_le _), rfl, hne4⟩, hge4⟩, gg5⟩
          · have hE8 := hide (show E = 8 by rw [hE, if_neg hKX, if_neg (fun h => h.elim hK0 (fun h => by rw [hob] at h; cases h))])
            rw [hob] at hov
            clear hob hE hKX hK0
            go_wp2_with fail
            refine hov.mono ?_
            rintro e w6 ⟨rfl, rfl⟩
            go_wp2_with fail
            go_ret2
            obtain rfl : N = 0 := by rw [HN.out, hE8.out]; rfl
            obtain rfl := hE8.out
            first | exact ⟨none, 0, rfl, Rd.nil_, ⟨_, ⟨A4, c4, hx5, o5.base_ (Nat.zero_le _), rfl, hne4⟩, hge4⟩, gg5⟩ | exact ⟨none, ⟨0, rfl⟩, Rd.nil_, ⟨_, ⟨A4, c4, hx5, o5.base_ (Nat.zero_le _), rfl, hne4⟩, hge4⟩, gg5⟩
    · have h1' : (kind == 1) = false := by simpa using h1
      obtain rfl : L = left := by rw [HL.out]; unfold takeLeft; rw [if_neg h1]
      clear h1
      by_cases hKX : K = X
      · have hE0 := hide (show E = 0 by rw [hE, if_pos hKX])
        have hKX' : ((K : Int) == X) = true := by rw [beq_iff_eq]; omega
        clear hKX hE
        go_wp2_with fail
        go_ret2
        obtain rfl : N = K := by rw [HN.out, hE0.out]; rfl
        obtain rfl := hE0.out
        first | exact ⟨A2, c2, rfl, o3.rd, ⟨_, ⟨A4, c4, hx3, o4.base_ (Nat.zero_le _), rfl, hne4⟩, hge4⟩, gg4⟩ | exact ⟨A2, ⟨c2, rfl⟩, o3.rd, ⟨_, ⟨A4, c4, hx3, o4.base_ (Nat.zero_le _), rfl, hne4⟩, hge4⟩, gg4⟩
      · have hKX' : ((K : Int) == X) = false := by rw [beq_eq_false_iff_ne]; omega
        by_cases hK0 : 0 < K
        · have hE5 := hide (show E = 5 by rw [hE, if_neg hKX, if_pos (.inl hK0)])
          have hK0' : (0 : Int) < K := by omega
          clear hKX hE hK0
          go_wp2_with fail
          go_ret2
          obtain rfl : N = K := by rw [HN.out, hE5.out]; rfl
          obtain rfl := hE5.out
          first | exact ⟨A2, c2, rfl, o3.rd, ⟨_, ⟨A4, c4, hx3, o4.base_ (Nat.zero_le _), rfl, hne4⟩, hge4⟩, gg4⟩ | exact ⟨A2, ⟨c2, rfl⟩, o3.rd, ⟨_, ⟨A4, c4, hx3, o4.base_ (Nat.zero_le _), rfl, hne4⟩, hge4⟩, gg4⟩
        · have hK0' : ¬ (0 : Int) < K := by omega
          have hov := over_any b base kind L p (n - K) (bs.drop K) ended w4 ⟨A4, c4, hx3, o4, hne4, hB⟩
          rcases hob : overB kind L (n - K) ended with _ | _
          · have hE5 := hide (show E = 5 by rw [hE, if_neg hKX, if_pos (.inr hob)])
            have hK00 := hide (show K = 0 by omega)
            rw [hob] at hov
            clear hob hE hKX hK0
            go_wp2_with fail
            refine hov.mono ?_
            rintro e w5 ⟨rfl, rfl⟩
            go_wp2_with fail
            go_ret2
            obtain rfl : N = 0 := by rw [HN.out, hE5.out, hK00.out]; rfl
            obtain rfl := hE5.out
            first | exact ⟨A2, c2, rfl, Rd.nil_, ⟨_, ⟨A4, c4, hx3, o4.base_ (Nat.zero_le _), rfl, hne4⟩, hge4⟩, gg4⟩ | exact ⟨A2, ⟨c2, rfl⟩, Rd.nil_, ⟨_, ⟨A4, c4, hx3, o4.base_ (Nat.zero_le _), rfl, hne4⟩, hge4⟩, gg4⟩
          · have hE8 := hide (show E = 8 by rw [hE, if_neg hKX, if_neg (fun h => h.elim hK0 (fun h => by rw [hob] at h; cases h))])
            rw [hob] at hov
            clear hob hE hKX hK0
            go_wp2_with fail
            refine hov.mono ?_
            rintro e w5 ⟨rfl, rfl⟩
            go_wp2_with fail
            go_ret2
            obtain rfl : N = 0 := by rw [HN.out, hE8.out]; rfl
            obtain rfl := hE8.out
            first | exact ⟨none, 0, rfl, Rd.nil_, ⟨_, ⟨A4, c4, hx3, o4.base_ (Nat.zero_le _), rfl, hne4⟩, hge4⟩, gg4⟩ | exact ⟨none, ⟨0, rfl⟩, Rd.nil_, ⟨_, ⟨A4, c4, hx3, o4.base_ (Nat.zero_le _), rfl, hne4⟩, hge4⟩, gg4⟩
end Go.Proofs.YtijlaclngibekaaGreatDoor
