/- gate.conn.own: the gateway's own answer 504; close; tick. -/
import Derived.Test.YtijlaclngibekaaGreatDoorKGtStG
import Derived.Test.YtijlaclngibekaaGreatDoorKRingG
import Derived.Test.YtijlaclngibekaaGreatDoorKRefG
import Derived.Test.YtijlaclngibekaaGreatDoorKCalm
import Derived.Deep.QuietTactic
import Derived.OwnWalk
namespace Go.Proofs.YtijlaclngibekaaGreatDoor
open Go.RowKit
set_option linter.unusedVariables false
set_option linter.unusedSimpArgs false

set_option maxRecDepth 100000 in
set_option maxHeartbeats 1600000 in
theorem gtclose_any (c : Nat) (v0 v1 v2 v3 v4 v5 : Value) (w : World) (h : Box w c [v0, v1, v2, v3, v4, v5]) :
    Calls Tryz.prog 30 #[.pointer (some ⟨c, 0, none⟩)] w fun e w' => e = .returned (.tuple #[]) ∧ Box w' c [v0, v1, .pointer none, .bool true, v4, v5] ∧ w.grownBy w' (some c) := by
  obtain ⟨k2, f2⟩ := h.2 2 _ rfl
  obtain ⟨k3, f3⟩ := h.2 3 _ rfl
  have hl := h.1
  have h2 := (h.set (k := 3) (x := .bool true) (by simp)).set (k := 2) (x := .pointer none) (by simp)
  have h2' := (h.set (k := 2) (x := .pointer none) (by simp)).set (k := 3) (x := .bool true) (by simp)
  simp only [List.set_cons_succ, List.set_cons_zero] at h2 h2'
  have g2 := grown_set (grown_set (World.grownBy.refl w (some c)) 3 (.bool true)) 2 (.pointer none)
  have g2' := grown_set (grown_set (World.grownBy.refl w (some c)) 2 (.pointer none)) 3 (.bool true)
  clear h
  go_enter Tryz.func30, Tryz.ntmps30
  go_wp2_with fail
  go_end0
  first | exact ⟨rfl, h2, g2⟩ | exact ⟨rfl, h2', g2'⟩
set_option maxRecDepth 100000 in
set_option maxHeartbeats 3200000 in
theorem gtown_504 (c s r2 mo : Nat) (vx : Value) (idle turn : Int) (d : Option Nat) (w : World) (h : Box w c [.pointer (some ⟨s, 0, none⟩), .pointer (some ⟨r2, 0, none⟩), vx, .bool false, .int .i64 idle, .int .i64 turn]) (hr : IsRing w 103 1 r2 0 mo d []) (hcr : c ≠ r2) (hdc : d ≠ some c) (hmo : 1000 ≤ mo ∧ mo ≤ 1048576) (ht : PowTab w) :
    Calls Tryz.prog 29 #[.pointer (some ⟨c, 0, none⟩), .int .i64 504, .string ⟨#[71, 69, 84]⟩, .bool false] w fun e w' => e = .returned (.tuple #[]) ∧ Box w' c [.pointer (some ⟨s, 0, none⟩), .pointer (some ⟨r2, 0, none⟩), .pointer none, .bool true, .int .i64 idle, .int .i64 turn] ∧ (∃ d', IsRing w' 103 1 r2 113 mo d' (bcells (h504 ++ b504)) ∧ (d' = d ∨ ∀ g, d' = some g → w.heap.size ≤ g)) ∧ Stay w w' [some c, some r2] := by
  obtain ⟨g, hg⟩ : ∃ g, w.heap.size = g := ⟨_, rfl⟩
  have q1 := answer_any 504 false w
  rw [pres504.2.2] at q1
  have hrl : (reasonL 504).length + 1 = 16 := by decide +kernel
  have hal : (ansF 504 false).length = 3 := by decide +kernel
  rw [hrl] at q1
  obtain ⟨F, hF⟩ : ∃ F, F = ansF 504 false := ⟨_, rfl⟩
  obtain ⟨R, hR⟩ : ∃ R : ByteArray, R = ⟨(reasonL 504).toArray⟩ := ⟨_, rfl⟩
  rw [← hF, ← hR] at q1
  go_enter Tryz.func29, Tryz.ntmps29
  go_wp2_with fail
  refine q1.mono ?_
  rintro e w1 ⟨A1, n1, c1, Ab, cb, rfl, r1, rb, b1⟩
  have hRl : R.data.toList = reasonL 504 := by rw [hR]
  have hn1 : n1 ≤ 1000 := by have h1 := r1.1; rw [fcells_length, hF, hal] at h1; omega
  have hFo : fsOk F := by rw [hF]; exact ansok
  have hRs : R.size ≤ 1000000 := by rw [size_of, hRl]; decide +kernel
  have hpe : presE 1 504 R.data.toList F = 0 ∧ presB 1 504 R.data.toList F = h504 := by rw [hRl, hF]; exact ⟨pres504.1, pres504.2.1⟩
  have bx := Box.new w1 #[.int .i64 1, .int .i64 504, .string R, .slice A1 n1 c1] 46
  have ta : Below w1.heap.size w1 (w1.alloc (.cells #[.int .i64 1, .int .i64 504, .string R, .slice A1 n1 c1] 46)) := (Below.refl _ _).alloc (Nat.le_refl _) _
  have r2' := (r1.below ta).mono ta.size
  have rb2 := (rb.below ta).mono ta.size
  have t2 : Below w.heap.size w _ := b1.trans (ta.mono b1.size)
  have ht2 := ht.on t2
  have hz1 := b1.size
  obtain ⟨g1, hg1⟩ : ∃ g, w1.heap.size = g := ⟨_, rfl⟩
  rw [hg1] at bx hz1
  clear q1 hR hF hal hrl ta r1 rb b1
  go_upto_region 1 with (fail)
  generalize w1.alloc (.cells #[.int .i64 1, .int .i64 504, .string R, .slice A1 n1 c1] 46) = w2 at bx r2' rb2 t2 ht2 ⊢
  clear hg1
  have q2 := printresp_own R 1 504 A1 n1 c1 w2.heap.size F w2 r2' (Nat.le_refl _) hn1 hFo hRs ht2
  rw [hpe.1, hpe.2, h504_len] at q2
  clear hpe hRl hFo hRs
  obtain ⟨k0, k1, k2, k3⟩ := bx.four
  go_wp2_with fail
  refine q2.mono ?_
  rintro e w3 ⟨A3, c3, rfl, -, hc3, ⟨-, o3⟩, b3⟩
  have rb3 := (rb2.below b3).mono b3.size
  have t3 := t2.trans (b3.mono t2.size)
  have zz : w.heap.size ≤ w2.heap.size := t2.size
  clear q2 k0 k1 k2 k3 bx r2' rb2 t2
  obtain ⟨i0, hi0, hz0, hz1, hz2⟩ := info_parts infoRB
  obtain ⟨ab, rfl, -, -⟩ := rb3.at_ (k := 0) (by omega)
  obtain ⟨a3, rfl⟩ : ∃ a, A3 = some a := by
    rcases o3.2 with ⟨hh, -⟩ | ⟨a, _, _, hh, -⟩ <;> simp at hh
    exact ⟨_, hh.1⟩
  go_upto_region 3 with (fail)
  go_upto_region 4 with (at_builtin; refine wpl_append _ rfl _ _ _ rfl w2.heap.size 5 i0 _ 1 1 Tryz.underlying35 hi0 hz0 hz1 hz2 rfl (by omega) _ _ _ rfl _ _ _ _ _ rfl o3 rb3 (bcells_one _) (by simp [maxLen]) (by omega) b3.size ?_; intro v4 w4 o4 b4 _)
  have t4 := t3.trans (b4.mono zz)
  clear o3 rb3 b3 t3 b4 hc3
  rw [bcells_append] at o4
  obtain ⟨A4, c4, rfl, hnc4, -⟩ := own_shape0 o4
  have r4 := Rd.of_own o4
  have h4 := h.below t4
  have hr4 := hr.below t4
  obtain ⟨c1, -⟩ := h4.2 1 _ rfl
  have q5 := pushB r2 0 mo d [] (bcells (h504 ++ b504)) A4 113 c4 w4.heap.size w4 hr4 (by omega) (by simp) r4 hnc4 (by omega) (bcells_one _) (Nat.le_refl _) 113 (by omega)
  rw [Nat.mul_one, List.nil_append, Nat.zero_add, show (bcells (h504 ++ b504)).take 113 = bcells (h504 ++ b504) from List.take_of_length_le (by rw [bcells_length, List.length_append, h504_len]; decide)] at q5
  go_wp2_with fail
  refine q5.mono ?_
  rintro e w5 ⟨rfl, ⟨d', hr5, hd5⟩, g5⟩
  have h5 := h4.grown_ g5 (fun e => hcr (Option.some.inj e).symm)
  obtain ⟨c2, f2⟩ := h5.2 2 _ rfl
  obtain ⟨c3', f3⟩ := h5.2 3 _ rfl
  have hl5 := h5.1
  have h6 := (h5.set (k := 2) (x := .pointer none) (by simp)).set (k := 3) (x := .bool true) (by simp)
  simp only [List.set_cons_succ, List.set_cons_zero] at h6
  have z4 := t4.size
  have hcl := h.1
  obtain ⟨wF, hwF⟩ : ∃ W, W = (w5.setCell ⟨c, 2, none⟩ (.pointer none)).setCell ⟨c, 3, none⟩ (.bool true) := ⟨_, rfl⟩
  have st5F : Stay w5 wF [some c] := by rw [hwF]; exact ((Stay.refl w5 [some c]).set (by simp)).set (by simp)
  rw [← hwF] at h6
  have stF : Stay w wF [some c, some r2] := ((Stay.of_below [] t4).trans ((Stay.of_grown g5).trans st5F)).mono (by intro k hk; simp at hk ⊢; rcases hk with h | h <;> simp [h])
  have hdc' : d' ≠ some c := fun e => by
    rcases hd5 with h | h
    · exact hdc (h ▸ e)
    · have := h c e; omega
  have hr6 := ring_kept hr5 st5F (by simp; exact fun e => hcr e.symm) (fun g hg e => by simp at e; exact hdc' (by rw [hg, e]))
  have FIN : Box wF c _ ∧ (∃ d', IsRing wF 103 1 r2 113 mo d' (bcells (h504 ++ b504)) ∧ (d' = d ∨ ∀ g, d' = some g → w.heap.size ≤ g)) ∧ Stay w wF [some c, some r2] :=
    ⟨h6, ⟨d', hr6, hd5.imp id (fun hh g e => Nat.le_trans z4 (hh g e))⟩, stF⟩
  have HF := hide FIN
  have HW := hide hwF
  clear FIN hwF stF st5F h6 hr6 hr5 q5 c1
  go_wp2_with fail
  go_end0
  exact ⟨rfl, by have h1 := HF.out; rw [HW.out] at h1; exact h1⟩
end Go.Proofs.YtijlaclngibekaaGreatDoor
/- gate.conn.tick. -/
namespace Go.Proofs.YtijlaclngibekaaGreatDoor
open Go.RowKit
set_option linter.unusedVariables false
set_option linter.unusedSimpArgs false

/-- A connection that is shut. -/
structure ConnC (w : World) (p c s r2 Bf : Nat) (os : List UInt8) (idle turn : Int) : Prop where
  box : Box w c [.pointer (some ⟨s, 0, none⟩), .pointer (some ⟨r2, 0, none⟩), .pointer none, .bool true, .int .i64 idle, .int .i64 turn]
  ring : ∃ d, IsRing w 103 1 r2 os.length (Bf + 512) d (bcells os) ∧ ∀ g, d = some g → c < g
  o : p < r2 ∧ r2 < c
theorem ConnA.shut {w : World} {p c s r1 r2 Bf : Nat} {bs os : List UInt8} {idle turn : Int} (h : ConnA w p c s r1 r2 Bf bs os true idle turn) : ConnC w p c s r2 Bf os idle turn := ⟨h.box, h.ring, by have := h.o; omega⟩
theorem ConnB.set_idle {w : World} {p c s r1 r2 x s3 r3 r4 b Bf : Nat} {idle turn : Int} (h : ConnB w p c s r1 r2 x s3 r3 r4 b Bf true idle turn) (n : Int) : ConnB (w.setCell ⟨c, 4, none⟩ (.int .i64 n)) p c s r1 r2 x s3 r3 r4 b Bf true n turn := by
  obtain ⟨hx, hside, ⟨d2, hr2, hd2⟩, ⟨vf, vk, vl, v12, v13, hex⟩, ⟨d3, hs3⟩, ⟨m, d4, xs, hr, hnn, hd4⟩, ho, ho2⟩ := h
  obtain ⟨d1, hs1⟩ : ∃ d, IsSide w s r1 Bf false d [] := by simpa [SideS] using hside
  have hs : Stay w (w.setCell ⟨c, 4, none⟩ (.int .i64 n)) [some c] := (Stay.refl w [some c]).set (by simp)
  have h6 := hx.set (k := 4) (x := .int .i64 n) (by simp)
  simp only [List.set_cons_succ, List.set_cons_zero] at h6
  refine ⟨h6, ?_, ⟨d2, ring_stay hr2 hs (by simp; omega), hd2⟩, ⟨vf, vk, vl, v12, v13, hex.stay hs (by simp; omega)⟩, ⟨d3, side_stay hs3 hs (by simp; omega) (by simp; omega)⟩, ⟨m, d4, xs, ring_kept hr hs (by simp; omega) (fun g hg => by have := hd4 g hg; simp; omega), hnn, hd4⟩, ho, ho2⟩
  exact ⟨d1, side_stay hs1 hs (by simp; omega) (by simp; omega)⟩
theorem ConnA.drewN {w : World} {p c s r1 r2 Bf : Nat} {bs os : List UInt8} {sh : Bool} {idle turn : Int} (h : ConnA w p c s r1 r2 Bf bs os sh idle turn) (k : Nat) : ConnA (w.drewN k) p c s r1 r2 Bf bs os sh idle turn := by
  obtain ⟨hx, ⟨d1, hs, hd1⟩, ⟨d2, hr, hd2⟩, ho⟩ := h
  exact ⟨hx.below (below_drewN (Below.refl _ _)), ⟨d1, hs.drewN k, hd1⟩, ⟨d2, hr.drewN k, hd2⟩, ho⟩
theorem ConnA.stayc {w w' : World} {p c s r1 r2 Bf : Nat} {bs os : List UInt8} {sh sh' : Bool} {idle turn idle' turn' : Int} (h : ConnA w p c s r1 r2 Bf bs os sh idle turn) (hs : Stay w w' [some c]) (hb : Box w' c [.pointer (some ⟨s, 0, none⟩), .pointer (some ⟨r2, 0, none⟩), .pointer none, .bool sh', .int .i64 idle', .int .i64 turn']) : ConnA w' p c s r1 r2 Bf bs os sh' idle' turn' := by
  obtain ⟨hx, ⟨d1, hs1, hd1⟩, ⟨d2, hr, hd2⟩, ho⟩ := h
  exact ⟨hb, ⟨d1, side_kept hs1 hs (by simp; omega) (by simp; omega) (fun g hg => by have := hd1 g hg; simp; omega), hd1⟩, ⟨d2, ring_kept hr hs (by simp; omega) (fun g hg => by have := hd2 g hg; simp; omega), hd2⟩, ho⟩
set_option maxRecDepth 100000 in
set_option maxHeartbeats 1600000 in
/-- Time goes by, and a part of a request waits. -/
theorem gttickA (p c s r1 r2 Bf : Nat) (bs os : List UInt8) (idle turn n T : Int) (sh' : Bool) (w : World) (hlt : p + 1 ≤ w.heap.size) (h : ConnA w p c s r1 r2 Bf bs os false idle turn) (hpc : p < c) (hbs : 0 < bs.length) (hi : 0 ≤ idle ∧ idle ≤ 4294967296) (hn : 0 ≤ n ∧ n ≤ 4294967296) (hsh : sh' = decide (T ≤ idle + n)) :
    Calls Tryz.prog 14 #[.pointer (some ⟨c, 0, none⟩), .int .i64 n, .int .i64 T] w fun e w' => e = .returned (.tuple #[]) ∧ ConnA w' p c s r1 r2 Bf bs os sh' (idle + n) turn ∧ Below (p + 1) w w' ∧ Stay w w' [some c, some r2] := by
  obtain ⟨d1, hs1, -⟩ := id h.side
  have q1 := linkheld_any s r1 Bf false d1 bs w hs1
  obtain ⟨c0, -⟩ := h.box.2 0 _ rfl
  obtain ⟨c2, -⟩ := h.box.2 2 _ rfl
  obtain ⟨c3, -⟩ := h.box.2 3 _ rfl
  have i0 : ((bs.length : Int) == 0) = false := by rw [beq_eq_false_iff_ne]; omega
  have hi0 : ¬ ((bs.length : Int) = 0) := by omega
  have i1 : IntKind.i64.wrap (idle + n) = idle + n := by rw [IntKind.wrap_i64]; omega
  obtain ⟨m, hm⟩ : ∃ m, m = bs.length := ⟨_, rfl⟩
  rw [← hm] at q1 i0 hi0
  have HM := hide hm
  have HSH := hide hsh
  clear hm hbs hsh
  go_enter Tryz.func14, Tryz.ntmps14
  go_wp2_with fail
  refine q1.mono ?_
  rintro e w1 ⟨rfl, k, hk⟩
  have h1 : ConnA w1 p c s r1 r2 Bf bs os false idle turn := hk ▸ h.drewN k
  have b1 : Below (p + 1) w w1 := hk ▸ below_drewN (Below.refl _ _)
  have s1 : Stay w w1 [] := hk ▸ Stay.drewN k []
  clear hk q1 c0 c2 c3 h
  obtain ⟨c2, f2⟩ := h1.box.2 2 _ rfl
  obtain ⟨c3, f3⟩ := h1.box.2 3 _ rfl
  obtain ⟨c4, f4⟩ := h1.box.2 4 _ rfl
  have hl1 := h1.box.1
  have hb2 := h1.box.set (k := 4) (x := .int .i64 (idle + n)) (by simp)
  simp only [List.set_cons_succ, List.set_cons_zero] at hb2
  have st2 : Stay w1 (w1.setCell ⟨c, 4, none⟩ (.int .i64 (idle + n))) [some c] := (Stay.refl w1 [some c]).set (by simp)
  have h2 := h1.stayc st2 hb2
  have b2 := b1.trans (st2.below (by simp; omega) (Nat.le_trans hlt b1.size))
  have s2 : Stay w _ [some c] := s1.trans st2
  go_upto_region 4 with (fail)
  generalize w1.setCell ⟨c, 4, none⟩ (.int .i64 (idle + n)) = w2 at h2 b2 s2 ⊢
  clear st2 s1 hb2 c2 c3 c4 f2 f3 f4 h1 b1 hl1
  obtain ⟨c2, -⟩ := h2.box.2 2 _ rfl
  obtain ⟨c4, -⟩ := h2.box.2 4 _ rfl
  by_cases hT : idle + n < T
  · have hs' : sh' = false := by rw [HSH.out]; exact decide_eq_false (by omega)
    subst hs'
    go_wp2_with fail
    go_end0
    exact ⟨rfl, h2, b2, s2.mono (by intro k hk; simp at hk ⊢; exact .inl hk)⟩
  · have hs' : sh' = true := by rw [HSH.out]; exact decide_eq_true (by omega)
    subst hs'
    have q3 := gtclose_any c _ _ _ _ _ _ w2 h2.box
    have z2 := b2.size
    go_wp2_with fail
    refine q3.mono ?_
    rintro e w3 ⟨rfl, hb3, g3⟩
    go_wp2_with fail
    go_end0
    exact ⟨rfl, h2.stayc (Stay.of_grown g3) hb3, b2.trans ((Stay.of_grown g3).below (by simp; omega) (by omega)), (s2.trans (Stay.of_grown g3)).mono (by intro k hk; simp at hk ⊢; exact .inl hk)⟩
set_option maxRecDepth 100000 in
set_option maxHeartbeats 1600000 in
/-- Time goes by, but not too much. -/
theorem gttickB_low (p c s r1 r2 x s3 r3 r4 b Bf : Nat) (idle turn n T : Int) (w : World) (hlt : p + 1 ≤ w.heap.size) (h : ConnB w p c s r1 r2 x s3 r3 r4 b Bf true idle turn) (hi : 0 ≤ idle ∧ idle ≤ 4294967296) (hn : 0 ≤ n ∧ n ≤ 4294967296) (hpc : p < c) (hT : idle + n < T) :
    Calls Tryz.prog 14 #[.pointer (some ⟨c, 0, none⟩), .int .i64 n, .int .i64 T] w fun e w' => e = .returned (.tuple #[]) ∧ ConnB w' p c s r1 r2 x s3 r3 r4 b Bf true (idle + n) turn ∧ Below (p + 1) w w' ∧ Stay w w' [some c, some r2] := by
  obtain ⟨c2, -⟩ := h.box.2 2 _ rfl
  obtain ⟨c3, -⟩ := h.box.2 3 _ rfl
  obtain ⟨c4, f4⟩ := h.box.2 4 _ rfl
  have hl := h.box.1
  have i1 : IntKind.i64.wrap (idle + n) = idle + n := by rw [IntKind.wrap_i64]; omega
  have h2 := h.set_idle (idle + n)
  have b2 : Below (p + 1) w (w.setCell ⟨c, 4, none⟩ (.int .i64 (idle + n))) := (Below.refl _ _).setCell (by simp only; omega) _
  have s2 : Stay w (w.setCell ⟨c, 4, none⟩ (.int .i64 (idle + n))) [some c, some r2] := (Stay.refl w _).set (by simp)
  go_enter Tryz.func14, Tryz.ntmps14
  go_upto_region 4 with (fail)
  generalize w.setCell ⟨c, 4, none⟩ (.int .i64 (idle + n)) = w2 at h2 b2 s2 ⊢
  clear c2 c3 c4 f4
  obtain ⟨c4, -⟩ := h2.box.2 4 _ rfl
  go_wp2_with fail
  go_end0
  exact ⟨rfl, h2, b2, s2⟩
set_option maxRecDepth 100000 in
set_option maxHeartbeats 1600000 in
/-- Too much time goes by: the answer 504. -/
theorem gttickB_own (p c s r1 r2 x s3 r3 r4 b Bf : Nat) (idle turn n T : Int) (w : World) (hlt : p + 1 ≤ w.heap.size) (hBf : 16384 ≤ Bf ∧ Bf ≤ 32768) (h : ConnB w p c s r1 r2 x s3 r3 r4 b Bf true idle turn) (hi : 0 ≤ idle ∧ idle ≤ 4294967296) (hn : 0 ≤ n ∧ n ≤ 4294967296) (hpc : p < c) (hT : T ≤ idle + n) (ht : ∀ W, Below (p + 1) w W → PowTab W) :
    Calls Tryz.prog 14 #[.pointer (some ⟨c, 0, none⟩), .int .i64 n, .int .i64 T] w fun e w' => e = .returned (.tuple #[]) ∧ ConnC w' p c s r2 Bf (h504 ++ b504) (idle + n) turn ∧ Below (p + 1) w w' ∧ Stay w w' [some c, some r2] := by
  obtain ⟨c2, -⟩ := h.box.2 2 _ rfl
  obtain ⟨c3, -⟩ := h.box.2 3 _ rfl
  obtain ⟨c4, f4⟩ := h.box.2 4 _ rfl
  have hl := h.box.1
  have i1 : IntKind.i64.wrap (idle + n) = idle + n := by rw [IntKind.wrap_i64]; omega
  have h2 := h.set_idle (idle + n)
  have b2 : Below (p + 1) w (w.setCell ⟨c, 4, none⟩ (.int .i64 (idle + n))) := (Below.refl _ _).setCell (by simp only; omega) _
  have s2 : Stay w (w.setCell ⟨c, 4, none⟩ (.int .i64 (idle + n))) [some c, some r2] := (Stay.refl w _).set (by simp)
  go_enter Tryz.func14, Tryz.ntmps14
  go_upto_region 4 with (fail)
  generalize w.setCell ⟨c, 4, none⟩ (.int .i64 (idle + n)) = w2 at h2 b2 s2 ⊢
  clear c2 c3 c4 f4 h
  obtain ⟨hx, hside, ⟨d2, hr2, hd2⟩, ⟨vf, vk, vl, v12, v13, hex⟩, -, -, ho, ho2⟩ := h2
  obtain ⟨d1, hs1⟩ : ∃ d, IsSide w2 s r1 Bf false d [] := by simpa [SideS] using hside
  obtain ⟨c4, -⟩ := hx.2 4 _ rfl
  obtain ⟨c2, -⟩ := hx.2 2 _ rfl
  obtain ⟨x0, -⟩ := hex.2 0 _ rfl
  obtain ⟨x11, -⟩ := hex.2 11 _ rfl
  have i2 : ¬ (idle + n < T) := by omega
  have q3 := gtown_504 c s r2 (Bf + 512) _ (idle + n) turn d2 w2 hx hr2 (by omega) (fun e => by have := hd2 c e; omega) (by omega) (ht w2 b2)
  have z2 := b2.size
  have hcl := hx.1
  go_wp2_with fail
  refine q3.mono ?_
  rintro e w3 ⟨rfl, hb3, ⟨d', hr3, hd3⟩, st3⟩
  go_wp2_with fail
  go_end0
  refine ⟨rfl, ⟨hb3, ⟨d', by rw [List.length_append, h504_len]; exact hr3, ?_⟩, by omega⟩, b2.trans (st3.below (by simp; omega) (by omega)), (s2.trans st3).mono (by intro k hk; simp at hk ⊢; omega)⟩
  · intro g hg
    rcases hd3 with hd3 | hd3
    · exact hd2 g (hd3 ▸ hg)
    · have := hd3 g hg; omega
end Go.Proofs.YtijlaclngibekaaGreatDoor
