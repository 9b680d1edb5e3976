/- RingPosts: the walk. -/
import Derived.Test.YtbjfhommjkcipaaRingNil
import Derived.Test.YtbjfhommjkcipaaPost
import Derived.Test.YtbjfhommjkcipaaUdec
import Derived.Test.YtbjfhommjkcipaaRingFrame
import Derived.Deep.DeepCutAuto
import Derived.Deep.CutBlock
namespace Go.Proofs.Ytbjfhommjkcipaa.RingPostsP
open Go.RowKit
set_option linter.unusedVariables false
set_option linter.unusedSimpArgs false

def txt (j : Nat) : Value := .string ⟨(udig j).toArray⟩
/-- What waits: the numerals from a to b, as texts. -/
def posts (a b : Nat) : Array Value := ((List.range' a (b - a)).map txt).toArray
theorem posts_size (a b : Nat) : (posts a b).size = b - a := by simp [posts]
theorem posts_push {a b : Nat} (h : a ≤ b) : (posts a b).push (txt b) = posts a (b + 1) := by
  unfold posts
  rw [show b + 1 - a = (b - a) + 1 by omega, List.range'_1_concat, List.map_append, show a + (b - a) = b by omega]
  simp
theorem posts_get {a b : Nat} (h : a < b) : (posts a b).getD 0 undef = txt a := by
  unfold posts
  rw [show b - a = (b - a - 1) + 1 by omega, List.range'_succ]
  simp
theorem posts_cut {a b : Nat} (h : a < b) : (posts a b).extract 1 (posts a b).size = posts (a + 1) b := by
  rw [posts_size]
  unfold posts
  rw [show b - a = (b - (a + 1)) + 1 by omega, List.range'_succ]
  simp
  exact List.take_of_length_le (by simp)
theorem boundL_any (n : Int) (w : World) :
    Calls Try.prog 8 #[.int .i64 n] w fun e w' => e = .returned (.int .i64 (most n)) ∧ w = w' := by
  have h2 : n < 0 → (0 : Int) = (most n : Int) := by unfold most; omega
  have h3 : ¬ n < 0 → 65536 < n → (65536 : Int) = (most n : Int) := by unfold most; omega
  have h4 : ¬ n < 0 → ¬ 65536 < n → n = (most n : Int) := by unfold most; omega
  have H2 := hide h2
  have H3 := hide h3
  have H4 := hide h4
  clear h2 h3 h4
  by_cases c1 : n < 0
  · go_enter Try.func8, Try.ntmps8
    go_wp2
    go_ret
    exact ⟨ret_int (H2.out c1), rfl⟩
  · by_cases c2 : 65536 < n
    · go_enter Try.func8, Try.ntmps8
      go_wp2
      go_ret
      exact ⟨ret_int (H3.out c1 c2), rfl⟩
    · go_enter Try.func8, Try.ntmps8
      go_wp2
      go_ret
      exact ⟨ret_int (H4.out c1 c2), rfl⟩
theorem len_posts (p g M a b : Nat) (w : World) (hab : a ≤ b) (h : IsPost w p g M (posts a b)) :
    Calls Try.prog 19 #[.pointer (some ⟨p, 0, none⟩)] w fun e w' => e = .returned (.int .i64 ((b : Int) - (a : Int))) ∧ w = w' := by
  have := postLen p g M _ w h
  rw [posts_size, show ((b - a : Nat) : Int) = (b : Int) - (a : Int) by omega] at this
  exact this
set_option maxRecDepth 100000 in
set_option maxHeartbeats 3200000 in
theorem walk (mst : Int) (A : Option Addr) (n c B : Nat) (bl : List Bool) (w : World) (_hwf : (Lit.int .i64 mst).wf = true) (h : Rd w B 1 A n (bl.map Value.bool)) (hB : B ≤ w.heap.size) (hn : n ≤ 9223372036854775807) :
    Calls Try.prog 4 #[.int .i64 mst, .slice A n c] w fun e w' => e = .returned (.bool true) ∧ Below w.heap.size w w' := by
  by_cases hbig : 5000 < mst
  · go_enter Try.func4, Try.ntmps4
    go_wp2_with fail
    refine (answers_any w).mono ?_
    rintro e w1 ⟨rfl, b1⟩
    go_wp2_with fail
    go_ret
    exact ⟨rfl, b1⟩
  obtain ⟨M, hM⟩ : ∃ M, M = most mst := ⟨_, rfl⟩
  have hM5 : M ≤ 5000 := by rw [hM]; unfold most; omega
  have qn := newPost mst w
  have qb := fun w => boundL_any mst w
  simp only [← hM] at qn qb
  clear hM
  go_enter Try.func4, Try.ntmps4
  go_wp2_with fail
  refine qn.mono ?_
  rintro e w1 ⟨rfl, p1, b1⟩
  go_wp2_with fail
  refine (answers_any w1).mono ?_
  rintro e w2 ⟨rfl, b2⟩
  have p2 := p1.grown b2
  have t2 := b1.trans (b2.mono b1.size)
  clear p1 b1 b2 qn
  go_wp2_with fail
  refine (qb w2).mono ?_
  rintro e w3 ⟨rfl, rfl⟩
  obtain ⟨g, hg⟩ : ∃ g, g = w.heap.size := ⟨_, rfl⟩
  obtain ⟨p, hp⟩ : ∃ p, p = g + 1 := ⟨_, rfl⟩
  rw [← hg, ← hp] at p2
  rw [← hg, ← hp]
  have hgw : w.heap.size ≤ g := by omega
  clear hg hp qb
  go_wp2_with fail
  go_loopw [6, 7, 8] (fun f nx i wr => ∃ (k a b : Nat), k ≤ n ∧ i = .int .i64 k ∧ f = .int .i64 a ∧ nx = .int .i64 b ∧ a ≤ b ∧ b ≤ k ∧ b - a ≤ M ∧ k ≤ 300 ∧ IsPost wr p g M (posts a b) ∧ Below w.heap.size w wr) (fun _ _ i _ => n - (intOf i).toNat)
  case atStart => exact ⟨0, 0, 0, by omega, rfl, rfl, rfl, by omega, by omega, by omega, by omega, p2, t2⟩
  case round =>
    obtain ⟨k, a, b, hk, rfl, rfl, rfl, hab, hbk, hbM, hk3, hp, hb⟩ := hrel
    by_cases hlt : k < n
    · by_cases h300 : k < 300
      · obtain ⟨ad, hA, hadB, hc⟩ := h.at_ (k := k) hlt
        have hbl : k < bl.length := by have := h.1; simp at this; omega
        have hcell := (hb.cell (p := ad.add k) (by rw [addr_add_block]; omega)).trans (hc k _ (by rw [List.getElem?_map, List.getElem?_eq_getElem hbl]; rfl))
        subst hA
        clear hc
        have hsz := posts_size a b
        have qd := fun (j : Nat) (hj : j ≤ 300) w => dec_any j (by omega) w
        obtain ⟨x, hx⟩ : ∃ x, x = bl[k] := ⟨_, rfl⟩
        rw [← hx] at hcell
        clear hx
        have hbz := hb.size
        cases x with
        | true =>
          have q1 := qd b (by omega) wr
          by_cases hr : b - a < M
          · have i1 : (b : Int) - (a : Int) < (M : Int) := by omega
            clear qd h
            go_wp2_with fail
            refine q1.mono ?_
            rintro e w5 ⟨rfl, b5⟩
            have p5 := hp.grown b5
            have t5 := hb.trans (b5.mono hbz)
            clear q1 b5 hp
            go_wp2_with fail
            refine (send_room p g M (posts a b) _ w5 p5 (by rw [hsz]; exact hr)).mono ?_
            rintro e w6 ⟨rfl, p6, g6⟩
            have p6' : IsPost w6 p g M (posts a (b + 1)) := by rw [← posts_push hab]; exact p6
            have t6 := t5.grown g6 t5.size (by intro k ek; cases ek; exact hgw)
            clear p6 g6 p5
            have q2 := len_posts p g M a (b + 1) w6 (by omega) p6'
            rw [show ((b + 1 : Nat) : Int) = (b : Int) + 1 by omega] at q2
            go_wp2_with fail
            refine q2.mono ?_
            rintro e w7 ⟨rfl, rfl⟩
            clear q2
            go_wp2_with fail
            go_roundw
            case rel => exact ⟨k + 1, a, b + 1, by omega, by go_num, rfl, by go_num, by omega, by omega, by omega, by omega, p6', t6⟩
            case measure => simp [intOf]; omega
          · have i1 : ¬ (b : Int) - (a : Int) < (M : Int) := by omega
            clear qd h
            go_wp2_with fail
            refine q1.mono ?_
            rintro e w5 ⟨rfl, b5⟩
            have p5 := hp.grown b5
            have t5 := hb.trans (b5.mono hbz)
            clear q1 b5 hp
            go_wp2_with fail
            refine (send_full p g M (posts a b) _ w5 p5 (by rw [hsz]; omega)).mono ?_
            rintro e w6 ⟨rfl, rfl⟩
            have q2 := len_posts p g M a b w5 (by omega) p5
            go_wp2_with fail
            refine q2.mono ?_
            rintro e w7 ⟨rfl, rfl⟩
            clear q2
            go_wp2_with fail
            go_roundw
            case rel => exact ⟨k + 1, a, b, by omega, by go_num, rfl, rfl, by omega, by omega, by omega, by omega, p5, t5⟩
            case measure => simp [intOf]; omega
        | false =>
          have q1 := qd a (by omega)
          by_cases hr : a < b
          · have i1 : (a : Int) < (b : Int) := by omega
            clear qd h
            go_wp2_with fail
            refine (next_some p g M (posts a b) (.string ⟨(udig a).toArray⟩) (posts_get hr) wr hp (by rw [hsz]; omega)).mono ?_
            rintro e w6 ⟨rfl, p6, g6⟩
            rw [posts_cut hr] at p6
            have t6 := hb.grown g6 hbz (by intro k ek; cases ek; exact hgw)
            clear g6 hp
            go_wp2_with fail
            refine (q1 w6).mono ?_
            rintro e w7 ⟨rfl, b7⟩
            have p7 := p6.grown b7
            have t7 := t6.trans (b7.mono t6.size)
            clear p6 b7
            have q2 := len_posts p g M (a + 1) b w7 (by omega) p7
            rw [show ((a + 1 : Nat) : Int) = (a : Int) + 1 by omega] at q2
            go_wp2_with fail
            refine q2.mono ?_
            rintro e w8 ⟨rfl, rfl⟩
            clear q2
            go_wp2_with fail
            go_roundw
            case rel => exact ⟨k + 1, a + 1, b, by omega, by go_num, by go_num, rfl, by omega, by omega, by omega, by omega, p7, t7⟩
            case measure => simp [intOf]; omega
          · have i1 : ¬ (a : Int) < (b : Int) := by omega
            clear qd h q1
            go_wp2_with fail
            refine (next_none p g M (posts a b) wr hp (by rw [hsz]; omega)).mono ?_
            rintro e w6 ⟨rfl, rfl⟩
            have q2 := len_posts p g M a b wr (by omega) hp
            go_wp2_with fail
            refine q2.mono ?_
            rintro e w7 ⟨rfl, rfl⟩
            clear q2
            go_wp2_with fail
            go_roundw
            case rel => exact ⟨k + 1, a, b, by omega, by go_num, rfl, rfl, by omega, by omega, by omega, by omega, hp, hb⟩
            case measure => simp [intOf]; omega
      · go_wp2_with fail
        go_ret
        exact ⟨rfl, hb⟩
    · go_wp2_with fail
      go_ret
      exact ⟨rfl, hb⟩
end Go.Proofs.Ytbjfhommjkcipaa.RingPostsP
