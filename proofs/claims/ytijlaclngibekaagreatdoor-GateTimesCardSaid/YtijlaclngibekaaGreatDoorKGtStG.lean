/- The states of a gateway with one connection. -/
import Derived.Test.YtijlaclngibekaaGreatDoorKBase
import Derived.Test.YtijlaclngibekaaGreatDoorKLinkN
import Derived.Test.YtijlaclngibekaaGreatDoorKLinkHead
import Derived.Test.YtijlaclngibekaaGreatDoorKCalm
import Derived.Deep.QuietTactic
import Derived.Deep.LoopGhost
import Derived.OwnWalk
namespace Go.Proofs.YtijlaclngibekaaGreatDoor
open Go.RowKit
set_option linter.unusedVariables false
set_option linter.unusedSimpArgs false

theorem Box.low {w w' : World} {g B : Nat} {cs : List Value} (h : Box w g cs) (hb : Below B w w') (hg : g < B) : Box w' g cs :=
  ⟨Nat.lt_of_lt_of_le h.1 hb.size, fun j u hj => ⟨(hb.cell (p := ⟨g, j, none⟩) hg).trans (h.2 j u hj).1, (World.frozen?_of_block (a := ⟨g, j, none⟩) (hb.block g hg)).trans (h.2 j u hj).2⟩⟩
theorem Stay.size {w w' : World} {S : List (Option Nat)} (h : Stay w w' S) : w.heap.size ≤ w'.heap.size := h.2.2.2.1
theorem Stay.refl (w : World) (S : List (Option Nat)) : Stay w w S := ⟨rfl, rfl, rfl, Nat.le_refl _, fun _ _ _ => rfl⟩
theorem Stay.of_below {w w' : World} (S : List (Option Nat)) (h : Below w.heap.size w w') : Stay w w' S := ⟨h.os, h.tape, h.output, h.size, fun k hk _ => h.block k hk⟩
theorem Stay.drewN {w : World} (k : Nat) (S : List (Option Nat)) : Stay w (w.drewN k) S := Stay.of_below S (below_drewN (Below.refl _ _))
theorem Stay.set {w w' : World} {S : List (Option Nat)} (h : Stay w w' S) {g k : Nat} {v : Value} (hg : some g ∈ S) : Stay w (w'.setCell ⟨g, k, none⟩ v) S :=
  (h.trans (Stay.of_grown (grown_set (World.grownBy.refl w' (some g)) k v))).mono (fun j hj => by rcases List.mem_append.1 hj with hj | hj; exact hj; rw [List.mem_singleton.1 hj]; exact hg)
theorem ring_stay {w w' : World} {t r mo : Nat} {d : Option Nat} {S : List (Option Nat)} (h : IsRing w t 1 r 0 mo d []) (hs : Stay w w' S) (hn : some r ∉ S) : IsRing w' t 1 r 0 mo d [] :=
  ring_empty h (hs.2.2.2.2 r h.lt hn) hs.size
theorem ring_kept {w w' : World} {t r n mo : Nat} {d : Option Nat} {xs : List Value} {S : List (Option Nat)} (h : IsRing w t 1 r n mo d xs) (hs : Stay w w' S) (hn : some r ∉ S) (hd : ∀ g, d = some g → some g ∉ S) : IsRing w' t 1 r n mo d xs :=
  h.keep hs.size (fun k hk hkr => hs.2.2.2.2 k hk (by rcases hkr with rfl | e; exact hn; exact hd k e))
theorem side_stay {w w' : World} {s r mo : Nat} {d : Option Nat} {S : List (Option Nat)} (h : IsSide w s r mo false d []) (hs : Stay w w' S) (h1 : some s ∉ S) (h2 : some r ∉ S) : IsSide w' s r mo false d [] :=
  ⟨h.1.stay hs h1, ring_stay h.2.1 hs h2, h.2.2⟩
theorem side_kept {w w' : World} {s r mo : Nat} {d : Option Nat} {bs : List UInt8} {S : List (Option Nat)} (h : IsSide w s r mo false d bs) (hs : Stay w w' S) (h1 : some s ∉ S) (h2 : some r ∉ S) (hd : ∀ g, d = some g → some g ∉ S) : IsSide w' s r mo false d bs :=
  ⟨h.1.stay hs h1, ring_kept h.2.1 hs h2 hd, h.2.2⟩
theorem side0_stay {w w' : World} {s r mo b : Nat} {d : Option Nat} {S : List (Option Nat)} (h : IsSide0 w s r mo d b none) (hs : Stay w w' S) (h1 : some s ∉ S) (h2 : some r ∉ S) (h3 : some b ∉ S) : IsSide0 w' s r mo d b none := by
  obtain ⟨left, p, hx, hr, ⟨A, c, k1, k2, k3, k4⟩, n0⟩ := h
  refine ⟨left, p, hx.stay hs h1, ring_stay hr hs h2, ⟨A, c, k1.stay hs h3, ?_, k3, k4⟩, n0⟩
  have hA : A = none := by cases A with | none => rfl | some a => simp [Value.ownBlock] at k3
  subst hA
  have hc : c = 0 := by rcases k2.2 with ⟨h, -⟩ | ⟨_, _, _, h, -⟩ <;> simp at h; exact h
  subst hc
  exact Ow.nil_
/-- The gateway's own two blocks: its configuration, its connections. -/
structure GateC (w : World) (g0 p mb c Bf : Nat) (T : Int) : Prop where
  ex : ∃ A cR v1 v2 v3 v4, Box w p [.slice A 1 cR, v1, v2, v3, v4, .int .i64 (Bf : Int), .int .i64 T, .map (some mb)] ∧ Rd w g0 3 A 1 [.string ⟨#[]⟩, .string ⟨#[47]⟩, .int .i64 1]
  map : MapIs w mb #[⟨.int .i64 0, .pointer (some ⟨c, 0, none⟩), 0⟩] 1
  o1 : g0 ≤ mb
  o2 : mb < p
  o3 : p < c
  o4 : 16384 ≤ Bf ∧ Bf ≤ 32768
theorem GateC.below {w w' : World} {g0 p mb c Bf : Nat} {T : Int} (h : GateC w g0 p mb c Bf T) (hb : Below (p + 1) w w') : GateC w' g0 p mb c Bf T := by
  obtain ⟨⟨A, cR, v1, v2, v3, v4, bx, rd⟩, m, o1, o2, o3, o4⟩ := h
  exact ⟨⟨A, cR, v1, v2, v3, v4, bx.low hb (by omega), rd.below (hb.mono (by omega))⟩, (hb.block mb (by omega)).trans m, o1, o2, o3, o4⟩
theorem GateC.lt {w : World} {g0 p mb c Bf : Nat} {T : Int} (h : GateC w g0 p mb c Bf T) : p + 1 ≤ w.heap.size := by
  obtain ⟨⟨A, cR, v1, v2, v3, v4, bx, rd⟩, -⟩ := h
  exact bx.1
/-- A connection without an exchange. -/
structure ConnA (w : World) (p c s r1 r2 Bf : Nat) (bs os : List UInt8) (sh : Bool) (idle turn : Int) : Prop where
  box : Box w c [.pointer (some ⟨s, 0, none⟩), .pointer (some ⟨r2, 0, none⟩), .pointer none, .bool sh, .int .i64 idle, .int .i64 turn]
  side : ∃ d, IsSide w s r1 Bf false d bs ∧ ∀ g, d = some g → c < g
  ring : ∃ d, IsRing w 103 1 r2 os.length (Bf + 512) d (bcells os) ∧ ∀ g, d = some g → c < g
  o : p < s ∧ p < r1 ∧ s ≠ r1 ∧ s < r2 ∧ r1 < r2 ∧ r2 < c
/-- The client's side in an exchange: its body is over, or one of no bytes. -/
def SideS (w : World) (s r1 Bf : Nat) (sent : Bool) (b : Nat) : Prop := if sent then ∃ d, IsSide w s r1 Bf false d [] else ∃ d, IsSide0 w s r1 Bf d b none
/-- A connection in an exchange without a response yet. -/
structure ConnB (w : World) (p c s r1 r2 x s3 r3 r4 b Bf : Nat) (sent : Bool) (idle turn : Int) : Prop where
  box : Box w c [.pointer (some ⟨s, 0, none⟩), .pointer (some ⟨r2, 0, none⟩), .pointer (some ⟨x, 0, none⟩), .bool false, .int .i64 idle, .int .i64 turn]
  side : SideS w s r1 Bf sent b
  ring : ∃ d, IsRing w 103 1 r2 0 (Bf + 512) d [] ∧ ∀ g, d = some g → c < g
  ex : ∃ vf vk vl v12 v13, Box w x [.string ⟨#[71, 69, 84]⟩, .string ⟨#[47]⟩, .int .i64 1, vf, vk, .int .i64 1, .pointer (some ⟨s3, 0, none⟩), .pointer (some ⟨r4, 0, none⟩), .int .i64 0, vl, .bool sent, .pointer none, v12, v13, .bool false, .bool false]
  inn : ∃ d, IsSide w s3 r3 Bf false d []
  out : ∃ n d xs, IsRing w 103 1 r4 n Bf d xs ∧ n ≤ 1000 ∧ ∀ g, d = some g → x < g ∧ g ≠ b
  o : p < s ∧ p < r1 ∧ s ≠ r1 ∧ s < r2 ∧ r1 < r2 ∧ r2 < c
  o2 : c < s3 ∧ c < r3 ∧ s3 ≠ r3 ∧ s3 < r4 ∧ r3 < r4 ∧ r4 < x ∧ x < b
end Go.Proofs.YtijlaclngibekaaGreatDoor
/- gate.Gate.room, work (of stages), get, Open, of a gateway with one connection. -/
namespace Go.Proofs.YtijlaclngibekaaGreatDoor
open Go.RowKit
set_option linter.unusedVariables false
set_option linter.unusedSimpArgs false

set_option maxRecDepth 100000 in
set_option maxHeartbeats 1600000 in
theorem gtroom_any (p c r2 n Bf : Nat) (d : Option Nat) (xs : List Value) (w : World) (k5 : w.cell? ⟨p, 5, none⟩ = some (.int .i64 (Bf : Int))) (c1 : w.cell? ⟨c, 1, none⟩ = some (.pointer (some ⟨r2, 0, none⟩))) (hr : IsRing w 103 1 r2 n (Bf + 512) d xs) (hB : Bf ≤ 32768) :
    Calls Tryz.prog 80 #[.pointer (some ⟨p, 0, none⟩), .pointer (some ⟨c, 0, none⟩)] w fun e w' => e = .returned (.int .i64 ((Bf : Int) - n)) ∧ ∃ k, w' = w.drewN k := by
  have q := fun k => lenB r2 n (Bf + 512) d xs (w.drewN k) (hr.drewN k)
  have hn := hr.le
  have hw : IntKind.i64.wrap ((Bf : Int) - n) = (Bf : Int) - n := by rw [IntKind.wrap_i64]; omega
  go_enter Tryz.func80, Tryz.ntmps80
  go_upto_region 1 with (fail)
  go_quiet ((go_at_call 26; exact Calls.quiet_of_same ((q _).mono fun _ _ h => ⟨h.1, h.2.symm⟩)))
  go_wp2_with fail
  go_ret
  exact ⟨rfl, _, rfl⟩
set_option maxRecDepth 100000 in
set_option maxHeartbeats 3200000 in
/-- All connections do what they can: the one there is goes through stages, each lower than the one before. -/
theorem gtwork_st (St : Nat → World → Prop) (p mb c g0 Bf : Nat) (T : Int) (n : Nat) (w : World) (hg : ∀ i W, St i W → GateC W g0 p mb c Bf T)
    (hsh : ∀ i W, St i W → ∃ sh, W.cell? ⟨c, 3, none⟩ = some (.bool sh) ∧ (sh = true → i = 0) ∧ (sh = false → Calls Tryz.prog 34 #[.pointer (some ⟨p, 0, none⟩), .pointer (some ⟨c, 0, none⟩)] W fun e w' => ∃ j, e = .returned (.bool (decide (0 < i))) ∧ St j w' ∧ (0 < i → j < i) ∧ (i = 0 → j = 0) ∧ Below (p + 1) W w'))
    (h : St n w) :
    Calls Tryz.prog 16 #[.pointer (some ⟨p, 0, none⟩)] w fun e w' => e = .returned (.tuple #[]) ∧ St 0 w' ∧ Below (p + 1) w w' := by
  have wfi : ∀ z : Int, 0 ≤ z → z ≤ 64 → (Lit.int .i64 z).wf = true := fun z h1 h2 => by simp [Lit.wf, IntKind.min, IntKind.max, IntKind.signed, IntKind.bits]; omega
  have hw0 := wfi 0 (by omega) (by omega)
  have WF := hide wfi
  have HG := hide hg
  have HS := hide hsh
  clear wfi hg hsh
  go_enter Tryz.func16, Tryz.ntmps16
  go_wp2_with fail
  go_loopw [4] (fun i W => ∃ k : Nat, k ≤ 64 ∧ i = .int .i64 k ∧ (∃ m, St m W ∧ (0 < k → m = 0)) ∧ Below (p + 1) w W) (fun i _ => 64 - (intOf i).toNat)
  case atStart => exact ⟨0, by omega, rfl, ⟨n, h, by omega⟩, Below.refl _ _⟩
  case round =>
    obtain ⟨k, hk, rfl, ⟨m, hst, hm⟩, hb⟩ := hrel
    by_cases hlt : k < 64
    · have hlt' : (k : Int) < 64 := by omega
      have hG := HG.out m wr hst
      obtain ⟨A, cR, v1, v2, v3, v4, bx, -⟩ := hG.ex
      obtain ⟨k7, -⟩ := bx.2 7 _ rfl
      have hl := hG.map.one hw0 (k : Int) (WF.out k (by omega) (by omega))
      clear bx hG
      by_cases hkn : k = 0
      · subst hkn
        rw [if_pos (by rfl)] at hl
        have hl0 : (Instr.lookup 50 (.map (some mb)) (.int .i64 0) false).run Tryz.prog wr = .ok (.pointer (some ⟨c, 0, none⟩)) wr := hl
        clear hl
        go_wp2_with fail
        obtain ⟨wo, hwo⟩ : ∃ wo, wo = wr := ⟨_, rfl⟩
        subst hwo
        go_loopg [] m (fun gk W => St gk W ∧ Below (p + 1) w W)
        case atStart => exact ⟨hst, hb⟩
        case round =>
          obtain ⟨hst2, hb2⟩ := hrel
          obtain ⟨sh, c3, h1, h2⟩ := HS.out gk wr hst2
          rcases sh with _ | _
          · have q := h2 rfl
            clear h1 h2
            go_wp2_with fail
            refine q.mono ?_
            rintro e w2 ⟨j, rfl, hst3, hj, hj0, hb3⟩
            have hbt := hb2.trans hb3
            by_cases h0 : 0 < gk
            · have hj' := hj h0
              have hdt : decide (0 < gk) = true := decide_eq_true h0
              rw [hdt]
              clear hdt
              go_wp2_with fail
              go_roundg j
              case measure => exact hj'
              case rel => exact ⟨hst3, hbt⟩
            · have hdf : decide (0 < gk) = false := decide_eq_false h0
              have hj' := hj0 (by omega)
              subst hj'
              rw [hdf]
              clear hdf
              go_wp2_with fail
              exact ⟨⟨1, by omega, by go_num, ⟨0, hst3, fun _ => rfl⟩, hbt⟩, by simp [intOf]⟩
          · have hk0 := h1 rfl
            clear h1 h2
            subst hk0
            go_wp2_with fail
            exact ⟨⟨1, by omega, by go_num, ⟨0, hst2, fun _ => rfl⟩, hb2⟩, by simp [intOf]⟩
      · rw [if_neg (by omega)] at hl
        have hm0 := hm (by omega)
        subst hm0
        go_wp2_with fail
        go_roundw
        case rel => exact ⟨k + 1, by omega, by go_num, ⟨0, hst, fun _ => rfl⟩, hb⟩
        case measure => simp [intOf]; omega
    · have hlt' : ¬ (k : Int) < 64 := by omega
      have hm0 := hm (by omega)
      subst hm0
      go_wp2_with fail
      go_end0
      exact ⟨rfl, hst, hb⟩
set_option maxRecDepth 100000 in
set_option maxHeartbeats 1600000 in
theorem gtget_any (g0 p mb c Bf : Nat) (T : Int) (w : World) (h : GateC w g0 p mb c Bf T) :
    Calls Tryz.prog 17 #[.pointer (some ⟨p, 0, none⟩), .int .i64 0] w fun e w' => e = .returned (.pointer (some ⟨c, 0, none⟩)) ∧ w = w' := by
  have hwn : (Lit.int .i64 0).wf = true := by simp [Lit.wf, IntKind.min, IntKind.max, IntKind.signed, IntKind.bits]
  have hl := h.map.one hwn 0 hwn
  rw [if_pos rfl] at hl
  obtain ⟨A, cR, v1, v2, v3, v4, bx, -⟩ := h.ex
  obtain ⟨k7, -⟩ := bx.2 7 _ rfl
  go_enter Tryz.func17, Tryz.ntmps17
  go_wp2_with fail
  go_ret
  exact ⟨rfl, rfl⟩
set_option maxRecDepth 100000 in
set_option maxHeartbeats 1600000 in
theorem gtopened_any (g0 p mb c Bf : Nat) (T : Int) (sh : Bool) (w : World) (h : GateC w g0 p mb c Bf T) (c3 : w.cell? ⟨c, 3, none⟩ = some (.bool sh)) :
    Calls Tryz.prog 9 #[.pointer (some ⟨p, 0, none⟩), .int .i64 0] w fun e w' => e = .returned (.bool (!sh)) ∧ w = w' := by
  have q := gtget_any g0 p mb c Bf T w h
  go_enter Tryz.func9, Tryz.ntmps9
  go_wp2_with fail
  refine q.mono ?_
  rintro e w1 ⟨rfl, rfl⟩
  rcases sh with _ | _
  · go_wp2_with fail
    go_ret
    exact ⟨rfl, rfl⟩
  · go_wp2_with fail
    go_ret
    exact ⟨rfl, rfl⟩
end Go.Proofs.YtijlaclngibekaaGreatDoor
