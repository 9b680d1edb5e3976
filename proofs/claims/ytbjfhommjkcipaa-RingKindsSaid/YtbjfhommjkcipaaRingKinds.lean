/- RingKinds: the walk. -/
import Derived.Test.YtbjfhommjkcipaaRingNil
import Derived.Test.YtbjfhommjkcipaaRingP
import Derived.Test.YtbjfhommjkcipaaOwn
import Derived.Test.YtbjfhommjkcipaaRingFrame
import Derived.Deep.QuietTactic
import Derived.BigQuiet
import Derived.Laws.StructEq
import Derived.Laws.Tables
import Derived.Laws.Cover2
import Derived.Deep.DeepCutAuto
import Derived.Deep.LoopGhost
import Derived.Deep.CutBlock
namespace Go.Proofs.Ytbjfhommjkcipaa.RingKindsP
open Go.RowKit

/-- The cells of the pairs (place, length). -/
def pcells : Nat → List (List UInt8) → List Value
  | _, [] => []
  | o, x :: l => .int .i64 o :: .int .i64 x.length :: pcells (o + 1) l
theorem pcells_length : ∀ (o : Nat) (l : List (List UInt8)), (pcells o l).length = l.length * 2
  | _, [] => rfl
  | o, x :: l => by simp [pcells, pcells_length (o + 1) l]; omega
theorem pcells_snoc : ∀ (o : Nat) (l : List (List UInt8)) (x : List UInt8), pcells o (l ++ [x]) = pcells o l ++ [.int .i64 (o + l.length : Nat), .int .i64 x.length]
  | o, [], x => by simp [pcells]
  | o, y :: l, x => by simp [pcells, pcells_snoc (o + 1) l x]; omega
theorem pcells_one : ∀ (o : Nat) (l : List (List UInt8)), ∀ u ∈ pcells o l, u.oneCell' = true
  | _, [], u, h => by simp [pcells] at h
  | o, x :: l, u, h => by
    simp only [pcells, List.mem_cons] at h
    rcases h with rfl | rfl | h
    · rfl
    · rfl
    · exact pcells_one (o + 1) l u h
theorem pcells_get : ∀ (o : Nat) (l : List (List UInt8)) (k : Nat) (h : k < l.length), (pcells o l)[k * 2]? = some (.int .i64 (o + k : Nat)) ∧ (pcells o l)[k * 2 + 1]? = some (.int .i64 l[k].length)
  | o, x :: l, 0, _ => ⟨rfl, rfl⟩
  | o, x :: l, k + 1, h => by
    have := pcells_get (o + 1) l k (by simpa using h)
    simp only [pcells, show (k + 1) * 2 = k * 2 + 1 + 1 by omega, List.getElem?_cons_succ, List.getElem_cons_succ]
    rw [show o + (k + 1) = o + 1 + k by omega]
    exact this
theorem pcells_take : ∀ (o : Nat) (l : List (List UInt8)) (k : Nat), (pcells o l).take (k * 2) = pcells o (l.take k)
  | _, [], k => by simp [pcells]
  | o, x :: l, 0 => by simp [pcells]
  | o, x :: l, k + 1 => by
    simp only [pcells, show (k + 1) * 2 = k * 2 + 1 + 1 by omega, List.take_succ_cons, pcells_take (o + 1) l k]

theorem list_take_snoc {α : Type} (l : List α) (k : Nat) (h : k < l.length) : l.take (k + 1) = l.take k ++ [l[k]] := by
  rw [List.take_add_one, List.getElem?_eq_getElem h]; rfl

theorem pair_eq (a b : Int) (w : World) : (Op.equalIn 10000 48 (.agg #[.int .i64 a, .int .i64 b]) (.agg #[.int .i64 a, .int .i64 b])).run Try.prog w = .ok true w := by
  have u3 := Try.underlying3
  have a3 := Try.isAgg3
  have z3 := Try.sizeOf3
  rw [show (10000 : Nat) = 9999 + 1 from rfl, Op.equalIn]
  simp only [Sem.run_bind, run_underlying Try.underlying48, Result.andThen_ok]
  simp only [Std.Legacy.Range.forIn_eq_forIn_range', Std.Legacy.Range.size, Nat.sub_zero, Nat.add_sub_cancel, Nat.div_one, List.range'_succ, List.range'_zero, List.forIn_cons, List.forIn_nil]
  go_simp

/-- The two rings, behind k rounds. -/
structure Two (w : World) (r s k : Nat) (ls : List (List UInt8)) (wr : World) : Prop where
  one : ∃ d, IsRing wr 72 1 r (min k 100) 100 d (scells (ls.take (min k 100))) ∧ d ≠ some s
  two : ∃ d, IsRing wr 74 2 s (min k 100) 100 d (pcells 0 (ls.take (min k 100))) ∧ d ≠ some r
  below : Below w.heap.size w wr

set_option maxRecDepth 100000 in
set_option maxHeartbeats 3200000 in
theorem walk (A : Option Addr) (n c : Nat) (ls : List (List UInt8)) (x : Int) (w : World) (h : Rd w w.heap.size 1 A n (scells ls)) (hnc : n ≤ c) (hcm : c ≤ maxLen) (_hx : (Lit.int .i64 x).wf = true) :
    Calls Try.prog 5 #[.slice A n c, .int .i64 x] w fun e w' => e = .returned (.bool true) ∧ Below w.heap.size w w' := by
  have hlen : ls.length = n := by have := h.1; simpa [scells] using this
  have hn : n ≤ maxLen := Nat.le_trans hnc hcm
  have HLEN := hide hlen

  have hnle : n ≤ 9223372036854775807 := by unfold maxLen at hn; omega
  clear hlen
  by_cases h200 : 200 < n
  · go_enter Try.func5, Try.ntmps5
    go_wp2_with (go_at_call 7; refine (answers_any _).mono ?_; rintro e w1 ⟨rfl, hb1⟩)
    go_ret
    exact ⟨rfl, hb1⟩
  go_enter Try.func5, Try.ntmps5
  go_wp2_with (first
    | (go_at_call 20; refine (newS 100 _).mono ?_; rintro e w1 ⟨rfl, hr1, hb1⟩)
    | (go_at_call 21; refine (newP 100 _).mono ?_; rintro e w2 ⟨rfl, hr2, hb2⟩))
  have hm : most 100 = 100 := by decide
  rw [hm] at hr1 hr2
  have hbw : Below w.heap.size w w2 := hb1.trans (hb2.mono hb1.size)
  have hr12 := hr1.below hb2
  have hlt1 := hr1.lt
  obtain ⟨r, hr⟩ : ∃ r, r = w.heap.size := ⟨_, rfl⟩
  obtain ⟨s, hs⟩ : ∃ s, s = w1.heap.size := ⟨_, rfl⟩
  have hrw : w.heap.size ≤ r := by omega
  have hrs : r < s := by omega
  have h0 : Two w r s 0 ls w2 := ⟨⟨none, by rw [hr]; simpa [scells] using hr12, by simp⟩, ⟨none, by rw [hs]; simpa [pcells] using hr2, by simp⟩, hbw⟩
  rw [← hr, ← hs]
  clear hr12 hr1 hr2 hm hbw hb1 hb2 hlt1 hr hs
  go_loopw [7] (fun i wr => ∃ k : Nat, k ≤ n ∧ i = .int .i64 k ∧ Two w r s k ls wr) (fun i _ => n - (intOf i).toNat)
  case atStart => exact ⟨0, Nat.zero_le _, rfl, h0⟩
  case round =>
    obtain ⟨k, hk, rfl, H2⟩ := hrel
    by_cases hlt : k < n
    · have hwr := h.below H2.below
      have hkl : k < ls.length := by rw [HLEN.out]; exact hlt
      obtain ⟨b, off, rfl, hbB, hc⟩ := hwr.lit hlt (by omega)
      have hck := hc k _ (scells_get ls k hkl)
      have hsk := list_take_snoc ls k hkl

      obtain ⟨y, hy⟩ : ∃ y, y = ls[k] := ⟨_, rfl⟩
      rw [← hy] at hck hsk
      have HSK := hide hsk
      have HC := hide hc

      have HY := hide hy
      clear hc hsk hy
      obtain ⟨⟨d1, hr1, hd1⟩, ⟨d2, hr2, hd2⟩, hbel⟩ := H2
      have hy1 : Rd wr w.heap.size 1 (some ⟨b, off + k, none⟩) 1 [.string ⟨y.toArray⟩] := ⟨rfl, .inr ⟨_, rfl, hbB, fun j u hu => by
        rcases j with _ | j
        · simp at hu; rw [← hu]; exact hck
        · simp at hu⟩⟩
      have hsr : s < wr.heap.size := hr2.lt
      go_wp2_with fail
      refine (pushS r _ 100 d1 _ _ _ 1 (c - k) w.heap.size wr hr1 (by omega) (scells_one _) hy1 (by omega) (by omega) (by simp [Value.oneCell']) hbel.size (min 1 (100 - min k 100)) rfl).mono ?_
      rintro e w3 ⟨rfl, ⟨d1', hr1', hd1'⟩, hg3⟩
      have hbel3 : Below w.heap.size w w3 := hbel.grown hg3 hbel.size (fun j hj => by cases hj; exact hrw)
      have hck3 := (hbel3.cell (p := ⟨b, off + k, none⟩) hbB).trans ((hbel.cell (p := ⟨b, off + k, none⟩) hbB).symm.trans hck)
      have hr23 := hr2.grown hg3 (by intro e; cases e; omega) (.inr (fun e => hd2 e.symm))
      have hd1s : d1' ≠ some s := by
        rcases hd1' with rfl | h1
        · exact hd1
        · rintro rfl; have := h1 s rfl; omega
      clear hd1' hr2 hr1 hck hy1
      have hbel4 : Below w3.heap.size w3 (w3.alloc (Obj.cells #[Value.int IntKind.i64 k, Value.int IntKind.i64 y.length] 48)) := (Below.refl _ _).alloc (Nat.le_refl _) _
      have ho4 := Rd.of_own (own_new w3 #[Value.int IntKind.i64 k, Value.int IntKind.i64 y.length] 48 2 1 rfl (by simp [maxLen]) 0 (Nat.zero_le _))
      generalize hw4 : w3.alloc (Obj.cells #[Value.int IntKind.i64 k, Value.int IntKind.i64 y.length] 48) = w4 at hbel4 ho4
      go_wp2_with fail
      have hr24 := hr23.below hbel4
      have hr14 := hr1'.below hbel4
      have hs4 : w3.heap.size ≤ w4.heap.size := hbel4.size
      have hs3 : wr.heap.size ≤ w3.heap.size := hg3.size
      refine (pushP s _ 100 d2 _ _ _ 1 1 w4.heap.size w4 hr24 (by omega) (pcells_one _ _) ho4 (Nat.le_refl _) (by omega) (by simp [Value.oneCell']) (Nat.le_refl _) (min 1 (100 - min k 100)) rfl).mono ?_
      rintro e w5 ⟨rfl, ⟨d2', hr2', hd2'⟩, hg5⟩
      have hbel5 : Below w.heap.size w w5 := (hbel3.trans (hbel4.mono hbel3.size)).grown hg5 (Nat.le_trans hbel3.size hs4) (fun j hj => by cases hj; omega)
      have hr15 := hr14.grown hg5 (by intro e; cases e; omega) (.inr (fun e => hd1s e.symm))
      have hd2r : d2' ≠ some r := by
        rcases hd2' with rfl | h1
        · exact hd2
        · rintro rfl; have := h1 r rfl; omega
      have hend : Two w r s (k + 1) ls w5 := by
        refine ⟨⟨d1', ?_, hd1s⟩, ⟨d2', ?_, hd2r⟩, hbel5⟩
        · by_cases hk100 : k < 100
          · have e1 : min k 100 = k := by omega
            have e2 : min (k + 1) 100 = k + 1 := by omega
            have e3 : min 1 (100 - k) = 1 := by omega
            rw [e1, e3] at hr15
            rw [e2, HSK.out, ← scells_append]
            simpa [scells] using hr15
          · have e1 : min k 100 = 100 := by omega
            have e2 : min (k + 1) 100 = 100 := by omega
            rw [e1] at hr15
            rw [e2]
            simpa using hr15
        · by_cases hk100 : k < 100
          · have e1 : min k 100 = k := by omega
            have e2 : min (k + 1) 100 = k + 1 := by omega
            have e3 : min 1 (100 - k) = 1 := by omega
            rw [e1, e3] at hr2'
            rw [e2, HSK.out, pcells_snoc, List.length_take, Nat.min_eq_left (by omega), Nat.zero_add]
            simpa using hr2'
          · have e1 : min k 100 = 100 := by omega
            have e2 : min (k + 1) 100 = 100 := by omega
            rw [e1] at hr2'
            rw [e2]
            simpa using hr2'
      clear hr15 hr2' hr14 hr24 hr1' hr23 ho4 hw4
      go_wp2
      go_roundw
      case rel => exact ⟨k + 1, by omega, by go_num, hend⟩
      case measure => simp [intOf]; omega
    · obtain rfl : k = n := by omega
      obtain ⟨⟨d1, hr1, hd1⟩, ⟨d2, hr2, hd2⟩, hbel⟩ := H2
      obtain ⟨q, hq⟩ : ∃ q, q = min k 100 := ⟨_, rfl⟩
      obtain ⟨m, hm⟩ : ∃ m, m = (min x (q : Int)).toNat := ⟨_, rfl⟩
      rw [← hq] at hr1 hr2
      have hmq : m ≤ q := by omega
      have hqk : q ≤ k := by omega
      have hq100 : q ≤ 100 := by omega
      have HM := hide hm
      clear hm hq
      go_wp2_with fail
      refine (popS r q 100 d1 x _ wr hr1 (by omega) (scells_one _) m HM.out).mono ?_
      rintro e w3 ⟨A3, c3, rfl, ho3, hr13, hg3⟩
      have hsr : s < wr.heap.size := hr2.lt
      have hbel3 : Below w.heap.size w w3 := hbel.grown hg3 hbel.size (fun j hj => by cases hj; exact hrw)
      have hr23 := hr2.grown hg3 (by intro e; cases e; omega) (.inr (fun e => hd2 e.symm))
      go_wp2_with fail
      refine (popP s q 100 d2 x _ w3 hr23 (by omega) (pcells_one _ _) m HM.out).mono ?_
      rintro e w4 ⟨A4, c4, rfl, ho4, hr24, hg4⟩
      have hbel4 : Below w.heap.size w w4 := hbel3.grown hg4 hbel3.size (fun j hj => by cases hj; omega)
      rw [Nat.mul_one, scells_take, List.take_take, Nat.min_eq_left hmq] at ho3
      rw [pcells_take, List.take_take, Nat.min_eq_left hmq] at ho4
      have hO3 := Ow.of_row ho3
      have hO4 := (Ow.of_row ho4).base_ hg3.size
      have hO34 := hO3.kept hg4 (.inr (fun e => by have := (hO3.lt s e).1; omega))
      clear hr1 hr2 hr13 hr23 hr24
      go_wp2_with fail
      refine (nextN w4).mono ?_
      rintro e w5 ⟨rfl, rfl⟩
      go_wp2_with fail
      refine (answers_any w4).mono ?_
      rintro e w6 ⟨rfl, hb6⟩
      have hr3 := (hO34.below hb6).rd
      have hr4 := (hO4.below hb6).rd
      have hbel6 := hbel4.trans (hb6.mono hbel4.size)
      clear ho3 ho4 hO3 hO4 hO34
      have hz : ((m : Int) != (m : Int)) = false := by simp
      go_wp2_with (first
        | (go_at_call 22; refine (pushN _ _ _ w6 hnle).mono ?_; rintro e w7 ⟨rfl, rfl⟩)
        | (go_at_call 24; refine (popN _ w6).mono ?_; rintro e w7 ⟨rfl, rfl⟩)
        | (go_at_call 27; refine (peekN _ w6).mono ?_; rintro e w7 ⟨rfl, rfl⟩)
        | (go_at_call 28; refine (lenN w6).mono ?_; rintro e w7 ⟨rfl, rfl⟩)
        | (go_at_call 29; refine (roomN w6).mono ?_; rintro e w7 ⟨rfl, rfl⟩)
        | (go_at_call 30; refine (sendN _ w6).mono ?_; rintro e w7 ⟨rfl, rfl⟩)
        | (go_at_call 31; refine (plenN w6).mono ?_; rintro e w7 ⟨rfl, rfl⟩))
      have hmk : m ≤ k := by omega
      have hmi : m ≤ 100 := by omega
      have hl6 := h.below hbel6
      clear hz
      go_loopw [14] (fun i wr => ∃ j : Nat, j ≤ m ∧ i = .int .i64 j ∧ ∃ z, wr = w6.drewN z) (fun i _ => m - (intOf i).toNat)
      case atStart => exact ⟨0, Nat.zero_le _, rfl, 0, rfl⟩
      case round =>
        obtain ⟨j, hj, rfl, z, rfl⟩ := hrel
        by_cases hjm : j < m
        · have hjl : j < ls.length := by rw [HLEN.out]; omega
          have hjt : j < (ls.take m).length := by rw [List.length_take]; omega
          obtain ⟨b, off, rfl, -, hc⟩ := hl6.lit (k := j) (by omega) (by omega)
          obtain ⟨g3, o3, rfl, -, hc3⟩ := hr3.lit hjm (by omega)
          obtain ⟨g4, o4, rfl, -, hc4⟩ := hr4.lit hjm (by omega)
          have e0 := hc j _ (scells_get ls j hjl)
          have e3 := hc3 j _ (scells_get (ls.take m) j hjt)
          have e4 := hc4 (j * 2) _ (pcells_get 0 (ls.take m) j hjt).1
          have e5 := hc4 (j * 2 + 1) _ (pcells_get 0 (ls.take m) j hjt).2
          rw [List.getElem_take] at e3 e5
          obtain ⟨y, hy⟩ : ∃ y, y = ls[j] := ⟨_, rfl⟩
          rw [← hy] at e0 e3 e5
          obtain ⟨sy, hsy⟩ : ∃ sy : ByteArray, sy = ⟨y.toArray⟩ := ⟨_, rfl⟩
          rw [← hsy] at e0 e3
          have hlen : sy.size = y.length := by rw [hsy, size_of]
          rw [← hlen] at e5
          rw [Nat.zero_add] at e4
          rw [← Nat.add_assoc] at e5
          clear hc hc3 hc4 hr3 hr4 hl6 hlen hsy hy
          have hjk : j < k := by omega
          have hq : (sy.toList != sy.toList) = false := by simp
          have hE : ∀ w, (Op.equalIn 10000 48 (.agg #[.int .i64 (j : Int), .int .i64 (sy.size : Int)]) (.agg #[.int .i64 (j : Int), .int .i64 (sy.size : Int)])).run Try.prog w = .ok true w := fun w => pair_eq _ _ _
          go_wp2
          go_quiet (fail)
          go_wp2
          go_roundw
          case rel => exact ⟨j + 1, by omega, by go_num, _, rfl⟩
          case measure => simp [intOf]; omega
        · go_wp2
          go_ret
          exact ⟨rfl, below_drewN hbel6⟩
end Go.Proofs.Ytbjfhommjkcipaa.RingKindsP
