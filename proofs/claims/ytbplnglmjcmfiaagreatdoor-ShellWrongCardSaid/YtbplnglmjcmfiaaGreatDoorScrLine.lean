/- script.file.line: a line. (printed by gen/scrline.py) -/
import Derived.Test.YtbplnglmjcmfiaaGreatDoorScrPut
import Derived.Test.YtbplnglmjcmfiaaGreatDoorCalm
namespace Go.Proofs.YtbplnglmjcmfiaaGreatDoor
open Go.RowKit
set_option linter.unusedVariables false
set_option linter.unusedSimpArgs false

def LinePost (w : World) (f : Nat) (F : Scr.Fl) (s : List UInt8) (e : Ending) (w' : World) : Prop :=
  Below f w w' ∧ ((∃ L, Scr.lineR s = some L ∧ e = .returned (.int .i64 (L.kind : Nat)) ∧ IsFile w' f (F.put L)) ∨ (Scr.lineR s = none ∧ e = .returned (.int .i64 0)))
theorem below_both {w w' : World} {B : Nat} (h : Below B w w') (p : Addr) (v : Value) (hp : p.block < B) : Below B (w.setCell p v) (w'.setCell p v) := by
  refine ⟨h.os, h.tape, h.output, by simpa [World.setCell] using h.size, fun k hk => ?_⟩
  simp only [World.setCell, Array.getElem?_modify]
  rw [h.block k hk]
theorem rdNum_sub (p : List (List UInt8) × Bool) : ∀ x ∈ (Scr.rdNum p).2.1, x ∈ p.1 := by
  obtain ⟨ws, b⟩ := p
  cases ws with
  | nil => intro x hx; simp [Scr.rdNum] at hx
  | cons s r =>
    intro x hx
    simp only [Scr.rdNum] at hx
    split at hx <;> (simp only at hx; simp [hx])
theorem rdByt_sub (p : List (List UInt8) × Bool) : ∀ x ∈ (Scr.rdByt p).2.1, x ∈ p.1 := by
  obtain ⟨ws, b⟩ := p
  cases ws with
  | nil => intro x hx; simp [Scr.rdByt] at hx
  | cons s r =>
    intro x hx
    simp only [Scr.rdByt] at hx
    split at hx <;> (simp only at hx; simp [hx])
theorem IsRd.ends {w : World} {B r : Nat} {p : List (List UInt8) × Bool} (h : IsRd w B r p) : ∃ A n c, w.cell? ⟨r, 0, none⟩ = some (.slice A n c) ∧ w.cell? ⟨r, 1, none⟩ = some (.bool p.2) ∧ n = p.1.length := by
  obtain ⟨A, c, b, _⟩ := h
  exact ⟨A, _, c, b.two.1, b.two.2, rfl⟩
theorem FBox.at_ {w : World} {f : Nat} {F : Scr.Fl} {vR vT vA : Value} (h : FBox w f F vR vT vA) (j : Nat) {u : Value} (hu : [vR, vT, .int .i64 (F.a : Nat), .int .i64 (F.b : Nat), .int .i64 (F.c : Nat), .int .i64 (F.d : Nat), .int .i64 (F.e : Nat), vA][j]? = some u) : w.cell? ⟨f, j, none⟩ = some u ∧ w.frozen? ⟨f, j, none⟩ = false := h.2 j u hu
theorem Rd.other {w : World} {B size n g k : Nat} {A : Option Addr} {xs : List Value} {x : Value} (h : Rd w B size A n xs) (hne : ∀ a, A = some a → a.block ≠ g) : Rd (w.setCell ⟨g, k, none⟩ x) B size A n xs := by
  refine ⟨h.1, h.2.imp id ?_⟩
  rintro ⟨a, rfl, ha, hc⟩
  refine ⟨a, rfl, ha, fun j u hu => ?_⟩
  rw [World.cell?_setCell_far _ _ _ _ (by rw [addr_add_block]; exact fun e => hne a rfl e.symm)]
  exact hc j u hu
theorem Rd.up {w : World} {B B' size n : Nat} {A : Option Addr} {xs : List Value} (h : Rd w B size A n xs) (hB : B ≤ B') : Rd w B' size A n xs :=
  ⟨h.1, h.2.imp id fun ⟨a, e, hb, hc⟩ => ⟨a, e, by omega, hc⟩⟩
theorem IsRd.grown {w w' : World} {B r : Nat} {p : List (List UInt8) × Bool} {row : Option Nat} (h : IsRd w B r p) (hg : w.grownBy w' row) (hx : ∀ x, row = some x → x < B) (hr : B ≤ r) : IsRd w' B r p := by
  obtain ⟨A, c, b, h1, h2, h3, h4⟩ := h
  refine ⟨A, c, Box.grown2 b hg (fun e => by have := hx r e; omega), h1, h2, ⟨h3.1, h3.2.imp id ?_⟩, h4⟩
  rintro ⟨a, rfl, ha, hc⟩
  refine ⟨a, rfl, ha, fun j u hu => ?_⟩
  have hbk : w'.heap[(a.add j).block]? = w.heap[(a.add j).block]? := by
    rw [addr_add_block]
    exact hg.block _ (Nat.lt_trans ha b.1) (fun e => by have := hx _ e.symm; have := h4 a rfl; omega)
  rw [World.cell?_of_block hbk]
  exact hc j u hu
theorem FBox.below2 {w w' : World} {f r : Nat} {F : Scr.Fl} {vR vT vA : Value} (h : FBox w f F vR vT vA) (hb : Below r w w') (hf : f < r) : FBox w' f F vR vT vA := by
  refine ⟨Nat.lt_of_lt_of_le h.1 hb.size, fun j u hu => ?_⟩
  have e : w'.heap[f]? = w.heap[f]? := hb.block f hf
  exact ⟨(World.cell?_of_block (a := ⟨f, j, none⟩) e).trans (h.2 j u hu).1, (World.frozen?_of_block (a := ⟨f, j, none⟩) e).trans (h.2 j u hu).2⟩
theorem infoRtF : (Tryz.prog.info? 141).map (fun i => (i.zero, i.size, i.bytes)) = some (some (.agg #[.string ByteArray.empty, .string ByteArray.empty, .int .i64 0]), 3, 40) := by kernel_rfl
theorem infoAcF : (Tryz.prog.info? 24).map (fun i => (i.zero, i.size, i.bytes)) = some (some (.agg #[.int .i64 0, .int .i64 0, .int .i64 0, .slice none 0 0]), 4, 48) := by kernel_rfl
theorem infoStrF : (Tryz.prog.info? 9).map (fun i => (i.zero, i.size, i.bytes)) = some (some (.string ByteArray.empty), 1, 16) := by kernel_rfl
def Fl.ints (F : Scr.Fl) (a b c d e : Nat) : Scr.Fl := { F with a := a, b := b, c := c, d := d, e := e }
theorem setsize (w : World) (p : Addr) (v : Value) : (w.setCell p v).heap.size = w.heap.size := by simp [World.setCell]
set_option maxRecDepth 100000 in
set_option maxHeartbeats 3200000 in
theorem scrline_cfg (f : Nat) (F : Scr.Fl) (s : ByteArray) (ws : List (List UInt8)) (w : World) (h : IsFile w f F) (hs : s.size ≤ 16777216) (hG : ∀ W, Below f w W → Glo W) (hn : F.rts.length ≤ 16777216 ∧ F.tys.length ≤ 16777216 ∧ F.acs.length ≤ 16777216) (hw : Scr.wordsL s.data.toList = Scr.wCfg :: ws) :
    Calls Tryz.prog 104 #[.pointer (some ⟨f, 0, none⟩), .string s] w (LinePost w f F s.data.toList) := by
  have hfl := h.lt
  obtain ⟨vR, vT, vA, ps, bx, rw_⟩ := h
  have sp := scrsplit_any s w (by omega) (hG w (Below.refl _ _))
  have hsml := words_small s.data.toList
  rw [hw] at sp hsml
  have hsz : s.data.toList.length = s.size := by rw [Array.length_toList]; rfl
  have hws : ∀ x ∈ ws, x.length ≤ 16777216 := fun x hx => by have := hsml x (by simp [hx]); omega
  have hws2 : ∀ x ∈ ws, x.length ≤ 281474976710656 := fun x hx => by have := hws x hx; omega
  obtain ⟨B, hB⟩ : ∃ B, w.heap.size = B := ⟨_, rfl⟩
  rw [hB] at sp hfl
  obtain ⟨lw, hlw⟩ : ∃ lw, lw = Scr.wCfg :: ws := ⟨_, rfl⟩
  rw [← hlw] at sp
  have HG := hide hG
  have HLW := hide hlw
  have HSML := hide hsml
  clear hG hsml hsz hlw
  obtain ⟨bw, hbw⟩ : ∃ bw : ByteArray, bw = ⟨Scr.wCfg.toArray⟩ := ⟨_, rfl⟩
  have c0 : (bw.toList == [99, 111, 110, 102, 105, 103]) = true := by rw [hbw, ByteArray.toList_eq]; rfl
  have c1 : (bw.toList == [114, 111, 117, 116, 101]) = false := by rw [hbw, ByteArray.toList_eq]; rfl
  have c2 : (bw.toList == [116, 121, 112, 101]) = false := by rw [hbw, ByteArray.toList_eq]; rfl
  have c3 : (bw.toList == [97, 99, 116]) = false := by rw [hbw, ByteArray.toList_eq]; rfl
  have HBW := hide hbw
  clear hbw
  go_enter Tryz.func104, Tryz.ntmps104
  go_wp2_with fail
  refine sp.mono ?_
  rintro e w1 ⟨a, n, rfl, hn1, hn2, hab, rd1, b1, hz1⟩
  obtain ⟨r, hr⟩ : ∃ r, w1.heap.size = r := ⟨_, rfl⟩
  have hBr : B ≤ r := by rw [← hr, hz1]; omega
  have hfr : f ≤ r := by omega
  rw [hr] at rd1
  have bx2 := Box.new w1 #[.slice (some a) n n, .bool false] 238
  rw [hr] at bx2
  have b2 : Below B w (w1.alloc (.cells #[.slice (some a) n n, .bool false] 238)) := b1.alloc (by omega) _
  have i2 : IsRd (w1.alloc (.cells #[.slice (some a) n n, .bool false] 238)) B r (lw, false) := by
    subst hn1
    exact ⟨some a, _, bx2, Nat.le_refl _, hn2, rd1.below (by rw [← hr]; exact (Below.refl _ _).alloc (Nat.le_refl _) _), fun x e => by cases e; omega⟩
  clear sp hz1 hn1 hn2 rd1 bx2 hab b1
  go_upto_region 3 with (fail)
  generalize w1.alloc (.cells #[.slice (some a) n n, .bool false] 238) = w2 at b2 i2 ⊢
  have nx := scrnext_any B r _ w2 i2
  rw [HLW.out] at nx
  simp only [List.headD_cons, List.tail_cons, List.isEmpty_cons, Bool.or_false] at nx
  rw [← HBW.out] at nx
  have i2lt := i2.lt
  clear i2
  go_wp2_with fail
  refine nx.mono ?_
  rintro e w3 ⟨rfl, i3, g23⟩
  have b23 : Below r w2 w3 := below_gr i2lt g23
  have b3 : Below B w w3 := b2.trans (b23.mono hBr)
  have bf3 : Below f w w3 := b3.mono (by omega)
  clear nx b23 b2 hr i2lt g23
  obtain ⟨q0, hq0⟩ : ∃ q : Nat × (List (List UInt8) × Bool), q = (0, (ws, false)) := ⟨_, rfl⟩
  have hs0 : ∀ x ∈ q0.2.1, x.length ≤ 281474976710656 := by rw [hq0]; exact hws2
  rw [show (ws, false) = q0.2 by rw [hq0]] at i3
  have HQ0 := hide hq0
  clear hq0
  obtain ⟨u3, hu3⟩ : ∃ u, u = w := ⟨_, rfl⟩
  have hus3 : u3.heap.size = B := by rw [hu3, hB]
  rw [← hu3] at bx rw_
  have s3 : Below B u3 w3 := by rw [hu3]; exact b3
  have bx3 : FBox u3 f (Fl.ints F F.a F.b F.c F.d F.e) vR vT vA := bx
  have rw3 := rw_
  have fz3 : w3.frozen? ⟨f, 2, none⟩ = false := ((Box.below bx3 (by rw [hus3]; exact s3)).2 2 _ rfl).2
  clear bx rw_ hu3
  obtain ⟨q1, hq1⟩ : ∃ q, q = Scr.rdNum q0.2 := ⟨_, rfl⟩
  have hs1 : ∀ x ∈ q1.2.1, x.length ≤ 281474976710656 := by rw [hq1]; exact fun x hx => hs0 x (rdNum_sub _ x hx)
  have nm1 := scrnum_any B r q0.2 w3 i3 hs0 (fun W b => HG.out W (bf3.trans (b.mono hfr)))
  rw [← hq1] at nm1
  have HQ1 := hide hq1
  clear hq1
  go_wp2_with fail
  refine nm1.mono ?_
  rintro e v4 ⟨rfl, j4, dg4⟩
  have d4 : Below r w3 v4 := below_gr i3.lt dg4
  have t4 : Below B u3 v4 := s3.trans (d4.mono hBr)
  have y4 : FBox v4 f (Fl.ints F F.a F.b F.c F.d F.e) vR vT vA := Box.below bx3 (by rw [hus3]; exact t4)
  obtain ⟨cz4, fz4⟩ := y4.at_ 2 rfl
  obtain ⟨u4, hu4⟩ : ∃ u, u = u3.setCell ⟨f, 2, none⟩ (.int .i64 (q1.1 : Nat)) := ⟨_, rfl⟩
  have hus4 : u4.heap.size = B := by rw [hu4, setsize, hus3]
  have s4 : Below B u4 (v4.setCell ⟨f, 2, none⟩ (.int .i64 (q1.1 : Nat))) := by rw [hu4]; exact below_both t4 _ _ hfl
  have bx4 : FBox u4 f (Fl.ints F q1.1 F.b F.c F.d F.e) vR vT vA := by
    have t := Box.set bx3 (k := 2) (x := .int .i64 (q1.1 : Nat)) (by simp)
    simp only [List.set_cons_succ, List.set_cons_zero] at t
    rw [hu4]
    exact t
  have rw4 : Rows u4 f F vR vT vA ps := by rw [hu4]; exact rw3.keep (grown_cell u3 f 2 (.int .i64 (q1.1 : Nat))) (.inr rfl)
  have i4 : IsRd (v4.setCell ⟨f, 2, none⟩ (.int .i64 (q1.1 : Nat))) B r q1.2 := j4.far hfl hBr
  have bf4 : Below f w (v4.setCell ⟨f, 2, none⟩ (.int .i64 (q1.1 : Nat))) := (bf3.trans (d4.mono (by omega))).setCell (p := ⟨f, 2, none⟩) (Nat.le_refl _) _
  clear nm1 dg4 y4 t4 d4 j4 hu4 bx3 rw3 s3
  go_upto_region 7 with (fail)
  generalize v4.setCell ⟨f, 2, none⟩ (.int .i64 (q1.1 : Nat)) = w4 at s4 i4 bf4 ⊢
  obtain ⟨q2, hq2⟩ : ∃ q, q = Scr.rdNum q1.2 := ⟨_, rfl⟩
  have hs2 : ∀ x ∈ q2.2.1, x.length ≤ 281474976710656 := by rw [hq2]; exact fun x hx => hs1 x (rdNum_sub _ x hx)
  have nm2 := scrnum_any B r q1.2 w4 i4 hs1 (fun W b => HG.out W (bf4.trans (b.mono hfr)))
  rw [← hq2] at nm2
  have HQ2 := hide hq2
  clear hq2
  go_wp2_with fail
  refine nm2.mono ?_
  rintro e v5 ⟨rfl, j5, dg5⟩
  have d5 : Below r w4 v5 := below_gr i4.lt dg5
  have t5 : Below B u4 v5 := s4.trans (d5.mono hBr)
  have y5 : FBox v5 f (Fl.ints F q1.1 F.b F.c F.d F.e) vR vT vA := Box.below bx4 (by rw [hus4]; exact t5)
  obtain ⟨cz5, fz5⟩ := y5.at_ 3 rfl
  obtain ⟨u5, hu5⟩ : ∃ u, u = u4.setCell ⟨f, 3, none⟩ (.int .i64 (q2.1 : Nat)) := ⟨_, rfl⟩
  have hus5 : u5.heap.size = B := by rw [hu5, setsize, hus4]
  have s5 : Below B u5 (v5.setCell ⟨f, 3, none⟩ (.int .i64 (q2.1 : Nat))) := by rw [hu5]; exact below_both t5 _ _ hfl
  have bx5 : FBox u5 f (Fl.ints F q1.1 q2.1 F.c F.d F.e) vR vT vA := by
    have t := Box.set bx4 (k := 3) (x := .int .i64 (q2.1 : Nat)) (by simp)
    simp only [List.set_cons_succ, List.set_cons_zero] at t
    rw [hu5]
    exact t
  have rw5 : Rows u5 f F vR vT vA ps := by rw [hu5]; exact rw4.keep (grown_cell u4 f 3 (.int .i64 (q2.1 : Nat))) (.inr rfl)
  have i5 : IsRd (v5.setCell ⟨f, 3, none⟩ (.int .i64 (q2.1 : Nat))) B r q2.2 := j5.far hfl hBr
  have bf5 : Below f w (v5.setCell ⟨f, 3, none⟩ (.int .i64 (q2.1 : Nat))) := (bf4.trans (d5.mono (by omega))).setCell (p := ⟨f, 3, none⟩) (Nat.le_refl _) _
  clear nm2 dg5 y5 t5 d5 j5 hu5 bx4 rw4 s4
  go_upto_region 8 with (fail)
  generalize v5.setCell ⟨f, 3, none⟩ (.int .i64 (q2.1 : Nat)) = w5 at s5 i5 bf5 ⊢
  obtain ⟨q3, hq3⟩ : ∃ q, q = Scr.rdNum q2.2 := ⟨_, rfl⟩
  have hs3 : ∀ x ∈ q3.2.1, x.length ≤ 281474976710656 := by rw [hq3]; exact fun x hx => hs2 x (rdNum_sub _ x hx)
  have nm3 := scrnum_any B r q2.2 w5 i5 hs2 (fun W b => HG.out W (bf5.trans (b.mono hfr)))
  rw [← hq3] at nm3
  have HQ3 := hide hq3
  clear hq3
  go_wp2_with fail
  refine nm3.mono ?_
  rintro e v6 ⟨rfl, j6, dg6⟩
  have d6 : Below r w5 v6 := below_gr i5.lt dg6
  have t6 : Below B u5 v6 := s5.trans (d6.mono hBr)
  have y6 : FBox v6 f (Fl.ints F q1.1 q2.1 F.c F.d F.e) vR vT vA := Box.below bx5 (by rw [hus5]; exact t6)
  obtain ⟨cz6, fz6⟩ := y6.at_ 4 rfl
  obtain ⟨u6, hu6⟩ : ∃ u, u = u5.setCell ⟨f, 4, none⟩ (.int .i64 (q3.1 : Nat)) := ⟨_, rfl⟩
  have hus6 : u6.heap.size = B := by rw [hu6, setsize, hus5]
  have s6 : Below B u6 (v6.setCell ⟨f, 4, none⟩ (.int .i64 (q3.1 : Nat))) := by rw [hu6]; exact below_both t6 _ _ hfl
  have bx6 : FBox u6 f (Fl.ints F q1.1 q2.1 q3.1 F.d F.e) vR vT vA := by
    have t := Box.set bx5 (k := 4) (x := .int .i64 (q3.1 : Nat)) (by simp)
    simp only [List.set_cons_succ, List.set_cons_zero] at t
    rw [hu6]
    exact t
  have rw6 : Rows u6 f F vR vT vA ps := by rw [hu6]; exact rw5.keep (grown_cell u5 f 4 (.int .i64 (q3.1 : Nat))) (.inr rfl)
  have i6 : IsRd (v6.setCell ⟨f, 4, none⟩ (.int .i64 (q3.1 : Nat))) B r q3.2 := j6.far hfl hBr
  have bf6 : Below f w (v6.setCell ⟨f, 4, none⟩ (.int .i64 (q3.1 : Nat))) := (bf5.trans (d6.mono (by omega))).setCell (p := ⟨f, 4, none⟩) (Nat.le_refl _) _
  clear nm3 dg6 y6 t6 d6 j6 hu6 bx5 rw5 s5
  go_upto_region 9 with (fail)
  generalize v6.setCell ⟨f, 4, none⟩ (.int .i64 (q3.1 : Nat)) = w6 at s6 i6 bf6 ⊢
  obtain ⟨q4, hq4⟩ : ∃ q, q = Scr.rdNum q3.2 := ⟨_, rfl⟩
  have hs4 : ∀ x ∈ q4.2.1, x.length ≤ 281474976710656 := by rw [hq4]; exact fun x hx => hs3 x (rdNum_sub _ x hx)
  have nm4 := scrnum_any B r q3.2 w6 i6 hs3 (fun W b => HG.out W (bf6.trans (b.mono hfr)))
  rw [← hq4] at nm4
  have HQ4 := hide hq4
  clear hq4
  go_wp2_with fail
  refine nm4.mono ?_
  rintro e v7 ⟨rfl, j7, dg7⟩
  have d7 : Below r w6 v7 := below_gr i6.lt dg7
  have t7 : Below B u6 v7 := s6.trans (d7.mono hBr)
  have y7 : FBox v7 f (Fl.ints F q1.1 q2.1 q3.1 F.d F.e) vR vT vA := Box.below bx6 (by rw [hus6]; exact t7)
  obtain ⟨cz7, fz7⟩ := y7.at_ 5 rfl
  obtain ⟨u7, hu7⟩ : ∃ u, u = u6.setCell ⟨f, 5, none⟩ (.int .i64 (q4.1 : Nat)) := ⟨_, rfl⟩
  have hus7 : u7.heap.size = B := by rw [hu7, setsize, hus6]
  have s7 : Below B u7 (v7.setCell ⟨f, 5, none⟩ (.int .i64 (q4.1 : Nat))) := by rw [hu7]; exact below_both t7 _ _ hfl
  have bx7 : FBox u7 f (Fl.ints F q1.1 q2.1 q3.1 q4.1 F.e) vR vT vA := by
    have t := Box.set bx6 (k := 5) (x := .int .i64 (q4.1 : Nat)) (by simp)
    simp only [List.set_cons_succ, List.set_cons_zero] at t
    rw [hu7]
    exact t
  have rw7 : Rows u7 f F vR vT vA ps := by rw [hu7]; exact rw6.keep (grown_cell u6 f 5 (.int .i64 (q4.1 : Nat))) (.inr rfl)
  have i7 : IsRd (v7.setCell ⟨f, 5, none⟩ (.int .i64 (q4.1 : Nat))) B r q4.2 := j7.far hfl hBr
  have bf7 : Below f w (v7.setCell ⟨f, 5, none⟩ (.int .i64 (q4.1 : Nat))) := (bf6.trans (d7.mono (by omega))).setCell (p := ⟨f, 5, none⟩) (Nat.le_refl _) _
  clear nm4 dg7 y7 t7 d7 j7 hu7 bx6 rw6 s6
  go_upto_region 10 with (fail)
  generalize v7.setCell ⟨f, 5, none⟩ (.int .i64 (q4.1 : Nat)) = w7 at s7 i7 bf7 ⊢
  obtain ⟨q5, hq5⟩ : ∃ q, q = Scr.rdNum q4.2 := ⟨_, rfl⟩
  have hs5 : ∀ x ∈ q5.2.1, x.length ≤ 281474976710656 := by rw [hq5]; exact fun x hx => hs4 x (rdNum_sub _ x hx)
  have nm5 := scrnum_any B r q4.2 w7 i7 hs4 (fun W b => HG.out W (bf7.trans (b.mono hfr)))
  rw [← hq5] at nm5
  have HQ5 := hide hq5
  clear hq5
  go_wp2_with fail
  refine nm5.mono ?_
  rintro e v8 ⟨rfl, j8, dg8⟩
  have d8 : Below r w7 v8 := below_gr i7.lt dg8
  have t8 : Below B u7 v8 := s7.trans (d8.mono hBr)
  have y8 : FBox v8 f (Fl.ints F q1.1 q2.1 q3.1 q4.1 F.e) vR vT vA := Box.below bx7 (by rw [hus7]; exact t8)
  obtain ⟨cz8, fz8⟩ := y8.at_ 6 rfl
  obtain ⟨u8, hu8⟩ : ∃ u, u = u7.setCell ⟨f, 6, none⟩ (.int .i64 (q5.1 : Nat)) := ⟨_, rfl⟩
  have hus8 : u8.heap.size = B := by rw [hu8, setsize, hus7]
  have s8 : Below B u8 (v8.setCell ⟨f, 6, none⟩ (.int .i64 (q5.1 : Nat))) := by rw [hu8]; exact below_both t8 _ _ hfl
  have bx8 : FBox u8 f (Fl.ints F q1.1 q2.1 q3.1 q4.1 q5.1) vR vT vA := by
    have t := Box.set bx7 (k := 6) (x := .int .i64 (q5.1 : Nat)) (by simp)
    simp only [List.set_cons_succ, List.set_cons_zero] at t
    rw [hu8]
    exact t
  have rw8 : Rows u8 f F vR vT vA ps := by rw [hu8]; exact rw7.keep (grown_cell u7 f 6 (.int .i64 (q5.1 : Nat))) (.inr rfl)
  have i8 : IsRd (v8.setCell ⟨f, 6, none⟩ (.int .i64 (q5.1 : Nat))) B r q5.2 := j8.far hfl hBr
  have bf8 : Below f w (v8.setCell ⟨f, 6, none⟩ (.int .i64 (q5.1 : Nat))) := (bf7.trans (d8.mono (by omega))).setCell (p := ⟨f, 6, none⟩) (Nat.le_refl _) _
  clear nm5 dg8 y8 t8 d8 j8 hu8 bx7 rw7 s7
  obtain ⟨A_, n_, c_, k0, k1, hnl⟩ := i8.ends
  have hend := Scr.cfg_line hw q1 q2 q3 q4 q5 (by rw [HQ1.out, HQ0.out]) HQ2.out HQ3.out HQ4.out HQ5.out
  rcases hend with ⟨⟨g1, g2⟩, hl⟩ | ⟨hg, hl⟩
  · rw [g1] at k1
    have hn0 : n_ = 0 := by rw [hnl, g2]; rfl
    subst hn0
    have HL := hide hl
    clear hl hnl g1 g2
    go_wp2_with fail
    go_ret
    exact ⟨bf8, .inl ⟨_, HL.out, rfl, ⟨vR, vT, vA, ps, Box.below bx8 (by rw [hus8]; exact s8), rw8.below (by rw [hus8]; exact s8)⟩⟩⟩
  · have HL := hide hl
    by_cases hbad : q5.2.2 = true
    · rw [hbad] at k1
      clear hl hnl hg hbad
      go_wp2_with fail
      go_ret
      exact ⟨bf8, .inr ⟨HL.out, rfl⟩⟩
    · have hb0 : q5.2.2 = false := by simpa using hbad
      rw [hb0] at k1
      have hnp : (0 : Int) < (n_ : Int) := by
        rcases hx : q5.2.1 with _ | ⟨y, ys⟩
        · exact absurd ⟨hb0, hx⟩ hg
        · rw [hnl, hx]; simp
      clear hl hnl hg hbad hb0
      go_wp2_with fail
      go_ret
      exact ⟨bf8, .inr ⟨HL.out, rfl⟩⟩
set_option maxRecDepth 100000 in
set_option maxHeartbeats 3200000 in
theorem scrline_no (f : Nat) (F : Scr.Fl) (s : ByteArray) (ws : List (List UInt8)) (w : World) (h : IsFile w f F) (hs : s.size ≤ 16777216) (hG : ∀ W, Below f w W → Glo W) (hn : F.rts.length ≤ 16777216 ∧ F.tys.length ≤ 16777216 ∧ F.acs.length ≤ 16777216) (w0 : List UInt8) (hw : Scr.wordsL s.data.toList = w0 :: ws) (h1 : w0 ≠ Scr.wCfg) (h2 : w0 ≠ Scr.wRt) (h3 : w0 ≠ Scr.wTy) (h4 : w0 ≠ Scr.wAc) :
    Calls Tryz.prog 104 #[.pointer (some ⟨f, 0, none⟩), .string s] w (LinePost w f F s.data.toList) := by
  have hfl := h.lt
  obtain ⟨vR, vT, vA, ps, bx, rw_⟩ := h
  have sp := scrsplit_any s w (by omega) (hG w (Below.refl _ _))
  have hsml := words_small s.data.toList
  rw [hw] at sp hsml
  have hsz : s.data.toList.length = s.size := by rw [Array.length_toList]; rfl
  have hws : ∀ x ∈ ws, x.length ≤ 16777216 := fun x hx => by have := hsml x (by simp [hx]); omega
  have hws2 : ∀ x ∈ ws, x.length ≤ 281474976710656 := fun x hx => by have := hws x hx; omega
  obtain ⟨B, hB⟩ : ∃ B, w.heap.size = B := ⟨_, rfl⟩
  rw [hB] at sp hfl
  obtain ⟨lw, hlw⟩ : ∃ lw, lw = w0 :: ws := ⟨_, rfl⟩
  rw [← hlw] at sp
  have HG := hide hG
  have HLW := hide hlw
  have HSML := hide hsml
  clear hG hsml hsz hlw
  have hl := Scr.no_line hw h1 h2 h3 h4
  obtain ⟨bw, hbw⟩ : ∃ bw : ByteArray, bw = ⟨w0.toArray⟩ := ⟨_, rfl⟩
  have c0 : (bw.toList == [99, 111, 110, 102, 105, 103]) = false := by rw [hbw, ByteArray.toList_eq, beq_eq_false_iff_ne]; exact h1
  have c1 : (bw.toList == [114, 111, 117, 116, 101]) = false := by rw [hbw, ByteArray.toList_eq, beq_eq_false_iff_ne]; exact h2
  have c2 : (bw.toList == [116, 121, 112, 101]) = false := by rw [hbw, ByteArray.toList_eq, beq_eq_false_iff_ne]; exact h3
  have c3 : (bw.toList == [97, 99, 116]) = false := by rw [hbw, ByteArray.toList_eq, beq_eq_false_iff_ne]; exact h4
  have HBW := hide hbw
  have HL := hide hl
  clear hbw h1 h2 h3 h4 hl
  go_enter Tryz.func104, Tryz.ntmps104
  go_wp2_with fail
  refine sp.mono ?_
  rintro e w1 ⟨a, n, rfl, hn1, hn2, hab, rd1, b1, hz1⟩
  obtain ⟨r, hr⟩ : ∃ r, w1.heap.size = r := ⟨_, rfl⟩
  have hBr : B ≤ r := by rw [← hr, hz1]; omega
  have hfr : f ≤ r := by omega
  rw [hr] at rd1
  have bx2 := Box.new w1 #[.slice (some a) n n, .bool false] 238
  rw [hr] at bx2
  have b2 : Below B w (w1.alloc (.cells #[.slice (some a) n n, .bool false] 238)) := b1.alloc (by omega) _
  have i2 : IsRd (w1.alloc (.cells #[.slice (some a) n n, .bool false] 238)) B r (lw, false) := by
    subst hn1
    exact ⟨some a, _, bx2, Nat.le_refl _, hn2, rd1.below (by rw [← hr]; exact (Below.refl _ _).alloc (Nat.le_refl _) _), fun x e => by cases e; omega⟩
  clear sp hz1 hn1 hn2 rd1 bx2 hab b1
  go_upto_region 3 with (fail)
  generalize w1.alloc (.cells #[.slice (some a) n n, .bool false] 238) = w2 at b2 i2 ⊢
  have nx := scrnext_any B r _ w2 i2
  rw [HLW.out] at nx
  simp only [List.headD_cons, List.tail_cons, List.isEmpty_cons, Bool.or_false] at nx
  rw [← HBW.out] at nx
  have i2lt := i2.lt
  clear i2
  go_wp2_with fail
  refine nx.mono ?_
  rintro e w3 ⟨rfl, i3, g23⟩
  have b23 : Below r w2 w3 := below_gr i2lt g23
  have b3 : Below B w w3 := b2.trans (b23.mono hBr)
  have bf3 : Below f w w3 := b3.mono (by omega)
  clear nx b23 b2 hr i2lt g23
  have hends := i3.ends
  simp only at hends
  obtain ⟨A_, n_, c_, k0, k1, hnl⟩ := hends
  by_cases hn0 : n_ = 0
  · subst hn0
    clear hnl
    go_wp2_with fail
    go_ret
    exact ⟨bf3, .inr ⟨HL.out, rfl⟩⟩
  · have hnp : (0 : Int) < (n_ : Int) := by omega
    clear hnl hn0
    go_wp2_with fail
    go_ret
    exact ⟨bf3, .inr ⟨HL.out, rfl⟩⟩
set_option maxRecDepth 100000 in
set_option maxHeartbeats 3200000 in
theorem scrline_ty (f : Nat) (F : Scr.Fl) (s : ByteArray) (ws : List (List UInt8)) (w : World) (h : IsFile w f F) (hs : s.size ≤ 16777216) (hG : ∀ W, Below f w W → Glo W) (hn : F.rts.length ≤ 16777216 ∧ F.tys.length ≤ 16777216 ∧ F.acs.length ≤ 16777216) (hw : Scr.wordsL s.data.toList = Scr.wTy :: ws) :
    Calls Tryz.prog 104 #[.pointer (some ⟨f, 0, none⟩), .string s] w (LinePost w f F s.data.toList) := by
  have hfl := h.lt
  obtain ⟨vR, vT, vA, ps, bx, rw_⟩ := h
  have sp := scrsplit_any s w (by omega) (hG w (Below.refl _ _))
  have hsml := words_small s.data.toList
  rw [hw] at sp hsml
  have hsz : s.data.toList.length = s.size := by rw [Array.length_toList]; rfl
  have hws : ∀ x ∈ ws, x.length ≤ 16777216 := fun x hx => by have := hsml x (by simp [hx]); omega
  have hws2 : ∀ x ∈ ws, x.length ≤ 281474976710656 := fun x hx => by have := hws x hx; omega
  obtain ⟨B, hB⟩ : ∃ B, w.heap.size = B := ⟨_, rfl⟩
  rw [hB] at sp hfl
  obtain ⟨lw, hlw⟩ : ∃ lw, lw = Scr.wTy :: ws := ⟨_, rfl⟩
  rw [← hlw] at sp
  have HG := hide hG
  have HLW := hide hlw
  have HSML := hide hsml
  clear hG hsml hsz hlw
  obtain ⟨bw, hbw⟩ : ∃ bw : ByteArray, bw = ⟨Scr.wTy.toArray⟩ := ⟨_, rfl⟩
  have c0 : (bw.toList == [99, 111, 110, 102, 105, 103]) = false := by rw [hbw, ByteArray.toList_eq]; rfl
  have c1 : (bw.toList == [114, 111, 117, 116, 101]) = false := by rw [hbw, ByteArray.toList_eq]; rfl
  have c2 : (bw.toList == [116, 121, 112, 101]) = true := by rw [hbw, ByteArray.toList_eq]; rfl
  have c3 : (bw.toList == [97, 99, 116]) = false := by rw [hbw, ByteArray.toList_eq]; rfl
  have HBW := hide hbw
  clear hbw
  go_enter Tryz.func104, Tryz.ntmps104
  go_wp2_with fail
  refine sp.mono ?_
  rintro e w1 ⟨a, n, rfl, hn1, hn2, hab, rd1, b1, hz1⟩
  obtain ⟨r, hr⟩ : ∃ r, w1.heap.size = r := ⟨_, rfl⟩
  have hBr : B ≤ r := by rw [← hr, hz1]; omega
  have hfr : f ≤ r := by omega
  rw [hr] at rd1
  have bx2 := Box.new w1 #[.slice (some a) n n, .bool false] 238
  rw [hr] at bx2
  have b2 : Below B w (w1.alloc (.cells #[.slice (some a) n n, .bool false] 238)) := b1.alloc (by omega) _
  have i2 : IsRd (w1.alloc (.cells #[.slice (some a) n n, .bool false] 238)) B r (lw, false) := by
    subst hn1
    exact ⟨some a, _, bx2, Nat.le_refl _, hn2, rd1.below (by rw [← hr]; exact (Below.refl _ _).alloc (Nat.le_refl _) _), fun x e => by cases e; omega⟩
  clear sp hz1 hn1 hn2 rd1 bx2 hab b1
  go_upto_region 3 with (fail)
  generalize w1.alloc (.cells #[.slice (some a) n n, .bool false] 238) = w2 at b2 i2 ⊢
  have nx := scrnext_any B r _ w2 i2
  rw [HLW.out] at nx
  simp only [List.headD_cons, List.tail_cons, List.isEmpty_cons, Bool.or_false] at nx
  rw [← HBW.out] at nx
  have i2lt := i2.lt
  clear i2
  go_wp2_with fail
  refine nx.mono ?_
  rintro e w3 ⟨rfl, i3, g23⟩
  have b23 : Below r w2 w3 := below_gr i2lt g23
  have b3 : Below B w w3 := b2.trans (b23.mono hBr)
  have bf3 : Below f w w3 := b3.mono (by omega)
  clear nx b23 b2 hr i2lt g23
  obtain ⟨q0, hq0⟩ : ∃ q : Nat × (List (List UInt8) × Bool), q = (0, (ws, false)) := ⟨_, rfl⟩
  have hs0 : ∀ x ∈ q0.2.1, x.length ≤ 16777216 := by rw [hq0]; exact hws
  rw [show (ws, false) = q0.2 by rw [hq0]] at i3
  have HQ0 := hide hq0
  clear hq0
  have bx3 : FBox w3 f F vR vT vA := Box.below bx (by rw [hB]; exact b3)
  have rw3 : Rows w3 f F vR vT vA ps := rw_.below (by rw [hB]; exact b3)
  obtain ⟨n0, hn0⟩ : ∃ n, n = F.tys.length := ⟨_, rfl⟩
  obtain ⟨i0, hi0, hz0, hz1, hz2⟩ := info_parts infoStrF
  obtain ⟨k1, z1⟩ := bx3.at_ 1 rfl
  obtain ⟨q1, hq1⟩ : ∃ q, q = Scr.rdByt q0.2 := ⟨_, rfl⟩
  have by1 := scrbyt_any B r q0.2 w3.drew i3 hs0
  rw [← hq1] at by1
  have HQ1 := hide hq1
  have HBOX := hide bx3
  have HROW := hide rw_
  have hr3 := i3.lt
  have hn00 : n0 ≤ 16777216 := by rw [hn0]; exact hn.2.1
  have HN0 := hide hn0
  clear hq1 bx rw_ bx3 rw3 hn0 hn i3
  obtain ⟨AT, cT, rfl, -, -⟩ := HROW.out.2.1.shape
  rw [← HN0.out] at k1
  go_upto_region 19 with (fail)
  refine CalmP.hideN (fun K0 hQ => ?_)
  refine wp_region_held_drew (S := (fun W : World => True)) (by kernel_rfl) trivial (fun hHeld => ?_)
  refine wpAnyH_take (i := 0) (v := ?_) rfl (by kernel_rfl) (by kernel_rfl) (by kernel_rfl) CalmP.onlyN_panic (Or.inl ⟨by kernel_rfl, ?_⟩) (by assumption) ?_
  rotate_left
  · (intro w_ hSw; go_simp; try with_reducible rfl)
  try simp only [List.getElem_toArray, List.getElem_cons_succ, List.getElem_cons_zero, Act.put, List.setIfInBounds_toArray, List.set_cons_zero, List.set_cons_succ]
  refine wpAnyH_take (i := 1) (v := ?_) rfl (by kernel_rfl) (by kernel_rfl) (by kernel_rfl) CalmP.onlyN_panic (Or.inl ⟨by kernel_rfl, ?_⟩) (by assumption) ?_
  rotate_left
  · (intro w_ hSw; go_simp; try with_reducible rfl)
  try simp only [List.getElem_toArray, List.getElem_cons_succ, List.getElem_cons_zero, Act.put, List.setIfInBounds_toArray, List.set_cons_zero, List.set_cons_succ]
  refine wpAnyH_take (i := 2) (v := ?_) rfl (by kernel_rfl) (by kernel_rfl) (by kernel_rfl) CalmP.onlyN_panic (Or.inl ⟨by kernel_rfl, ?_⟩) (by assumption) ?_
  rotate_left
  · (intro w_ hSw; go_simp; try with_reducible rfl)
  try simp only [List.getElem_toArray, List.getElem_cons_succ, List.getElem_cons_zero, Act.put, List.setIfInBounds_toArray, List.set_cons_zero, List.set_cons_succ]
  refine wpAnyH_take (i := 3) (v := ?_) rfl (by kernel_rfl) (by kernel_rfl) (by kernel_rfl) CalmP.onlyN_panic (Or.inl ⟨by kernel_rfl, ?_⟩) (by assumption) ?_
  rotate_left
  · (intro w_ hSw; go_simp; try with_reducible rfl)
  try simp only [List.getElem_toArray, List.getElem_cons_succ, List.getElem_cons_zero, Act.put, List.setIfInBounds_toArray, List.set_cons_zero, List.set_cons_succ]
  refine wpAnyH_take (i := 4) (v := ?_) rfl (by kernel_rfl) (by kernel_rfl) (by kernel_rfl) CalmP.onlyN_panic (Or.inl ⟨by kernel_rfl, ?_⟩) (by assumption) ?_
  rotate_left
  · (intro w_ hSw; go_simp; try with_reducible rfl)
  try simp only [List.getElem_toArray, List.getElem_cons_succ, List.getElem_cons_zero, Act.put, List.setIfInBounds_toArray, List.set_cons_zero, List.set_cons_succ]
  refine wpAnyH_take (i := 6) (v := ?_) rfl (by kernel_rfl) (by kernel_rfl) (by kernel_rfl) CalmP.onlyN_panic (Or.inl ⟨by kernel_rfl, ?_⟩) (by assumption) ?_
  rotate_left
  · (intro w_ hSw; go_simp; try with_reducible rfl)
  try simp only [List.getElem_toArray, List.getElem_cons_succ, List.getElem_cons_zero, Act.put, List.setIfInBounds_toArray, List.set_cons_zero, List.set_cons_succ]
  refine wpAnyH_ready (rs := [5, 7]) (by kernel_rfl) (by simp) ?_
  refine AllReadyH.cons rfl (fun K_ hK => ?_) (AllReadyH.cons rfl (fun K_ hK => ?_) AllReadyH.nil)
  · go_simp
    refine hK.out _ _ trivial (fun hHeld => ?_)
    clear hK K_
    try simp only [List.getElem_toArray, List.getElem_cons_succ, List.getElem_cons_zero, Act.put, List.setIfInBounds_toArray, List.set_cons_zero, List.set_cons_succ]
    refine wpAnyH_ready (rs := [7]) (by kernel_rfl) (by simp) ?_
    refine AllReadyH.cons rfl (fun K_ hK => ?_) AllReadyH.nil
    go_simp
    refine by1.mono ?_
    rintro e w4 ⟨A4, n4, c4, rfl, hn4, hnc4, hcm4, rd4, hA4, i4, g34⟩
    have b34' : Below r w3.drew w4 := below_gr hr3 g34
    have b34 : Below r w3 w4 := (show Below r w3 w3.drew from below_drewN (k := 1) (Below.refl _ _)).trans b34'
    have b4 : Below B w w4 := b3.trans (b34.mono hBr)
    have bx4 : FBox w4 f F vR _ vA := HBOX.out.below2 b34 (by omega)
    obtain ⟨k4, z4⟩ := bx4.at_ 1 rfl
    rw [← HN0.out] at k4
    have hcv := run_string_of (P := Tryz.prog) 22 9 5 Tryz.underlying22 Tryz.underlying5 Tryz.underlying9 w4 _ n4 c4 A4 q1.1 rd4
    obtain ⟨bq, hbq⟩ : ∃ bq : ByteArray, bq = ⟨q1.1.toArray⟩ := ⟨_, rfl⟩
    rw [← hbq] at hcv
    have HBQ := hide hbq
    have HN4 := hide hn4
    obtain ⟨g4, hg4⟩ : ∃ g, w4.heap.size = g := ⟨_, rfl⟩
    have rn := rd_new w4 #[.string bq] 9 1 1 rfl
    have t5 : Below g4 w4 (w4.alloc (.cells #[.string bq] 9)) := (Below.refl _ _).alloc (Nat.le_of_eq hg4.symm) _
    rw [hg4] at rn
    have k5 := cell_past w4 (.cells #[.string bq] 9) k4
    obtain ⟨w5, hw5⟩ : ∃ x, w4.alloc (.cells #[.string bq] 9) = x := ⟨_, rfl⟩
    rw [hw5] at rn t5 k5
    clear hbq b34' hn4
    refine hK.out _ _ trivial (fun hHeld => ?_)
    clear hK K_
    try simp only [List.getElem_toArray, List.getElem_cons_succ, List.getElem_cons_zero, Act.put, List.setIfInBounds_toArray, List.set_cons_zero, List.set_cons_succ]
    refine wpAnyH_ready (rs := [8]) (by kernel_rfl) (by simp) ?_
    refine AllReadyH.cons rfl (fun K_ hK => ?_) AllReadyH.nil
    go_simp
    refine hK.out _ _ trivial (fun hHeld => ?_)
    clear hK K_
    try simp only [List.getElem_toArray, List.getElem_cons_succ, List.getElem_cons_zero, Act.put, List.setIfInBounds_toArray, List.set_cons_zero, List.set_cons_succ]
    refine wpAnyH_ready (rs := [9]) (by kernel_rfl) (by simp) ?_
    refine AllReadyH.cons rfl (fun K_ hK => ?_) AllReadyH.nil
    go_simp
    refine hK.out _ _ trivial (fun hHeld => ?_)
    clear hK K_
    try simp only [List.getElem_toArray, List.getElem_cons_succ, List.getElem_cons_zero, Act.put, List.setIfInBounds_toArray, List.set_cons_zero, List.set_cons_succ]
    refine wpAnyH_ready (rs := [10]) (by kernel_rfl) (by simp) ?_
    refine AllReadyH.cons rfl (fun K_ hK => ?_) AllReadyH.nil
    have i5 := i4.below (by rw [hg4]; exact t5)
    have hg45 : B ≤ g4 := by have := b4.size; omega
    have b5 : Below B w w5 := b4.trans (t5.mono hg45)
    have bx5 : FBox w5 f F vR _ vA := HBOX.out.below2 (b34.trans (t5.mono (by have := i4.lt; omega))) (by omega)
    have rw5 := HROW.out.below (by rw [hB]; exact b5)
    have oT5 := rw5.2.1
    rw [← HN0.out] at oT5
    have hf5 : f + 1 ≤ w5.heap.size := by have := b5.size; omega
    clear k4 z4 k5 hw5 hg4 hcv
    refine step_append_ow _ rfl _ _ _ rfl (f + 1) _ i0 _ 1 16 Tryz.underlying40 hi0 hz0 hz1 hz2 rfl (by omega) (.slice AT n0 cT) n0 _ rfl _ (some ⟨g4, 0, none⟩) 1 _ _ rfl oT5 rn (by simp [Value.oneCell']) (by unfold maxLen; omega) (by omega) hf5 ?_
    intro v6 w6 ow6 z6 g6 f6
    obtain ⟨A6, c6, rfl, -, -⟩ := ow6.shape
    have bx6 := Box.grown2 bx5 g6 (by intro e; have := (oT5.lt f e).1; omega)
    have i6 := i5.grown g6 (fun x hx => by have := (HROW.out.2.1.lt x (by rw [← HN0.out]; exact hx)).2; omega) hBr
    obtain ⟨k6, z6f⟩ := FBox.at_ bx6 1 rfl
    refine hK.out _ _ trivial (fun hHeld => ?_)
    clear hK K_
    try simp only [List.getElem_toArray, List.getElem_cons_succ, List.getElem_cons_zero, Act.put, List.setIfInBounds_toArray, List.set_cons_zero, List.set_cons_succ]
    refine wpAnyH_take (i := 11) (v := ?_) rfl (by kernel_rfl) (by kernel_rfl) (by kernel_rfl) CalmP.onlyN_panic (Or.inl ⟨by kernel_rfl, ?_⟩) (by assumption) ?_
    rotate_left
    · (intro w_ hSw; go_simp; try with_reducible rfl)
    try simp only [List.getElem_toArray, List.getElem_cons_succ, List.getElem_cons_zero, Act.put, List.setIfInBounds_toArray, List.set_cons_zero, List.set_cons_succ]
    refine wpAnyH_take (i := 12) (v := ?_) rfl (by kernel_rfl) (by kernel_rfl) (by kernel_rfl) CalmP.onlyN_panic (Or.inl ⟨by kernel_rfl, ?_⟩) (by assumption) ?_
    rotate_left
    · (intro w_ hSw; go_simp; try with_reducible rfl)
    try simp only [List.getElem_toArray, List.getElem_cons_succ, List.getElem_cons_zero, Act.put, List.setIfInBounds_toArray, List.set_cons_zero, List.set_cons_succ]
    refine wpAnyH_take (i := 13) (v := ?_) rfl (by kernel_rfl) (by kernel_rfl) (by kernel_rfl) CalmP.onlyN_panic (Or.inl ⟨by kernel_rfl, ?_⟩) (by assumption) ?_
    rotate_left
    · (intro w_ hSw; go_simp; try with_reducible rfl)
    try simp only [List.getElem_toArray, List.getElem_cons_succ, List.getElem_cons_zero, Act.put, List.setIfInBounds_toArray, List.set_cons_zero, List.set_cons_succ]
    refine wpAnyH_ready (rs := [14]) (by kernel_rfl) (by simp) ?_
    refine AllReadyH.cons rfl (fun K_ hK => ?_) AllReadyH.nil
    go_simp
    refine hK.out _ _ trivial (fun hHeld => ?_)
    clear hK K_
    try simp only [List.getElem_toArray, List.getElem_cons_succ, List.getElem_cons_zero, Act.put, List.setIfInBounds_toArray, List.set_cons_zero, List.set_cons_succ]
    refine wpAnyH_done (by kernel_rfl) ?_ _
    refine CalmP.onlyN_here (hQ.out _ _ ?_)
    clear hQ K0
    have bf6 : Below f w w6 := (b5.mono (by omega)).trans (z6.mono (by omega))
    have bf7 : Below f w (w6.setCell ⟨f, 1, none⟩ (.slice A6 (n0 + 1) c6)) := bf6.setCell (p := ⟨f, 1, none⟩) (Nat.le_refl _) _
    have i7 : IsRd (w6.setCell ⟨f, 1, none⟩ (.slice A6 (n0 + 1) c6)) B r q1.2 := i6.far hfl hBr
    have file7 : IsFile (w6.setCell ⟨f, 1, none⟩ (.slice A6 (n0 + 1) c6)) f (F.put (.ty q1.1)) := IsFile.putTy bx5 rw5 q1.1 (by rw [← HN0.out, ← HBQ.out]; exact ow6) (by rw [← HN0.out]; exact g6) (by rw [← HN0.out]; exact f6)
    generalize w6.setCell ⟨f, 1, none⟩ (.slice A6 (n0 + 1) c6) = w7 at bf7 i7 file7 ⊢
    clear bx5 bx6 rw5 oT5 ow6 g6 f6 k6 z6f i6 i5 i4 rd4 rn t5 b5
    obtain ⟨A_, n_, c_, k0, k1, hnl⟩ := i7.ends
    have hend := Scr.ty_line hw q1 (by rw [HQ1.out, HQ0.out])
    rcases hend with ⟨⟨g1, g2⟩, hl⟩ | ⟨hg, hl⟩
    · rw [g1] at k1
      have hn0 : n_ = 0 := by rw [hnl, g2]; rfl
      subst hn0
      have HL := hide hl
      clear hl hnl g1 g2
      go_wp2_with fail
      go_ret
      exact ⟨bf7, .inl ⟨_, HL.out, rfl, file7⟩⟩
    · have HL := hide hl
      by_cases hbad : q1.2.2 = true
      · rw [hbad] at k1
        clear hl hnl hg hbad
        go_wp2_with fail
        go_ret
        exact ⟨bf7, .inr ⟨HL.out, rfl⟩⟩
      · have hb0 : q1.2.2 = false := by simpa using hbad
        rw [hb0] at k1
        have hnp : (0 : Int) < (n_ : Int) := by
          rcases hx : q1.2.1 with _ | ⟨y, ys⟩
          · exact absurd ⟨hb0, hx⟩ hg
          · rw [hnl, hx]; simp
        clear hl hnl hg hbad hb0
        go_wp2_with fail
        go_ret
        exact ⟨bf7, .inr ⟨HL.out, rfl⟩⟩
  · go_simp
    refine by1.mono ?_
    rintro e w4 ⟨A4, n4, c4, rfl, hn4, hnc4, hcm4, rd4, hA4, i4, g34⟩
    have b34' : Below r w3.drew w4 := below_gr hr3 g34
    have b34 : Below r w3 w4 := (show Below r w3 w3.drew from below_drewN (k := 1) (Below.refl _ _)).trans b34'
    have b4 : Below B w w4 := b3.trans (b34.mono hBr)
    have bx4 : FBox w4 f F vR _ vA := HBOX.out.below2 b34 (by omega)
    obtain ⟨k4, z4⟩ := bx4.at_ 1 rfl
    rw [← HN0.out] at k4
    have hcv := run_string_of (P := Tryz.prog) 22 9 5 Tryz.underlying22 Tryz.underlying5 Tryz.underlying9 w4 _ n4 c4 A4 q1.1 rd4
    obtain ⟨bq, hbq⟩ : ∃ bq : ByteArray, bq = ⟨q1.1.toArray⟩ := ⟨_, rfl⟩
    rw [← hbq] at hcv
    have HBQ := hide hbq
    have HN4 := hide hn4
    obtain ⟨g4, hg4⟩ : ∃ g, w4.heap.size = g := ⟨_, rfl⟩
    have rn := rd_new w4 #[.string bq] 9 1 1 rfl
    have t5 : Below g4 w4 (w4.alloc (.cells #[.string bq] 9)) := (Below.refl _ _).alloc (Nat.le_of_eq hg4.symm) _
    rw [hg4] at rn
    have k5 := cell_past w4 (.cells #[.string bq] 9) k4
    obtain ⟨w5, hw5⟩ : ∃ x, w4.alloc (.cells #[.string bq] 9) = x := ⟨_, rfl⟩
    rw [hw5] at rn t5 k5
    clear hbq b34' hn4
    refine hK.out _ _ trivial (fun hHeld => ?_)
    clear hK K_
    try simp only [List.getElem_toArray, List.getElem_cons_succ, List.getElem_cons_zero, Act.put, List.setIfInBounds_toArray, List.set_cons_zero, List.set_cons_succ]
    refine wpAnyH_ready (rs := [5, 8]) (by kernel_rfl) (by simp) ?_
    refine AllReadyH.cons rfl (fun K_ hK => ?_) (AllReadyH.cons rfl (fun K_ hK => ?_) AllReadyH.nil)
    · go_simp
      refine hK.out _ _ trivial (fun hHeld => ?_)
      clear hK K_
      try simp only [List.getElem_toArray, List.getElem_cons_succ, List.getElem_cons_zero, Act.put, List.setIfInBounds_toArray, List.set_cons_zero, List.set_cons_succ]
      refine wpAnyH_ready (rs := [8]) (by kernel_rfl) (by simp) ?_
      refine AllReadyH.cons rfl (fun K_ hK => ?_) AllReadyH.nil
      go_simp
      refine hK.out _ _ trivial (fun hHeld => ?_)
      clear hK K_
      try simp only [List.getElem_toArray, List.getElem_cons_succ, List.getElem_cons_zero, Act.put, List.setIfInBounds_toArray, List.set_cons_zero, List.set_cons_succ]
      refine wpAnyH_ready (rs := [9]) (by kernel_rfl) (by simp) ?_
      refine AllReadyH.cons rfl (fun K_ hK => ?_) AllReadyH.nil
      go_simp
      refine hK.out _ _ trivial (fun hHeld => ?_)
      clear hK K_
      try simp only [List.getElem_toArray, List.getElem_cons_succ, List.getElem_cons_zero, Act.put, List.setIfInBounds_toArray, List.set_cons_zero, List.set_cons_succ]
      refine wpAnyH_ready (rs := [10]) (by kernel_rfl) (by simp) ?_
      refine AllReadyH.cons rfl (fun K_ hK => ?_) AllReadyH.nil
      have i5 := i4.below (by rw [hg4]; exact t5)
      have hg45 : B ≤ g4 := by have := b4.size; omega
      have b5 : Below B w w5 := b4.trans (t5.mono hg45)
      have bx5 : FBox w5 f F vR _ vA := HBOX.out.below2 (b34.trans (t5.mono (by have := i4.lt; omega))) (by omega)
      have rw5 := HROW.out.below (by rw [hB]; exact b5)
      have oT5 := rw5.2.1
      rw [← HN0.out] at oT5
      have hf5 : f + 1 ≤ w5.heap.size := by have := b5.size; omega
      clear k4 z4 k5 hw5 hg4 hcv
      refine step_append_ow _ rfl _ _ _ rfl (f + 1) _ i0 _ 1 16 Tryz.underlying40 hi0 hz0 hz1 hz2 rfl (by omega) (.slice AT n0 cT) n0 _ rfl _ (some ⟨g4, 0, none⟩) 1 _ _ rfl oT5 rn (by simp [Value.oneCell']) (by unfold maxLen; omega) (by omega) hf5 ?_
      intro v6 w6 ow6 z6 g6 f6
      obtain ⟨A6, c6, rfl, -, -⟩ := ow6.shape
      have bx6 := Box.grown2 bx5 g6 (by intro e; have := (oT5.lt f e).1; omega)
      have i6 := i5.grown g6 (fun x hx => by have := (HROW.out.2.1.lt x (by rw [← HN0.out]; exact hx)).2; omega) hBr
      obtain ⟨k6, z6f⟩ := FBox.at_ bx6 1 rfl
      refine hK.out _ _ trivial (fun hHeld => ?_)
      clear hK K_
      try simp only [List.getElem_toArray, List.getElem_cons_succ, List.getElem_cons_zero, Act.put, List.setIfInBounds_toArray, List.set_cons_zero, List.set_cons_succ]
      refine wpAnyH_take (i := 11) (v := ?_) rfl (by kernel_rfl) (by kernel_rfl) (by kernel_rfl) CalmP.onlyN_panic (Or.inl ⟨by kernel_rfl, ?_⟩) (by assumption) ?_
      rotate_left
      · (intro w_ hSw; go_simp; try with_reducible rfl)
      try simp only [List.getElem_toArray, List.getElem_cons_succ, List.getElem_cons_zero, Act.put, List.setIfInBounds_toArray, List.set_cons_zero, List.set_cons_succ]
      refine wpAnyH_take (i := 12) (v := ?_) rfl (by kernel_rfl) (by kernel_rfl) (by kernel_rfl) CalmP.onlyN_panic (Or.inl ⟨by kernel_rfl, ?_⟩) (by assumption) ?_
      rotate_left
      · (intro w_ hSw; go_simp; try with_reducible rfl)
      try simp only [List.getElem_toArray, List.getElem_cons_succ, List.getElem_cons_zero, Act.put, List.setIfInBounds_toArray, List.set_cons_zero, List.set_cons_succ]
      refine wpAnyH_take (i := 13) (v := ?_) rfl (by kernel_rfl) (by kernel_rfl) (by kernel_rfl) CalmP.onlyN_panic (Or.inl ⟨by kernel_rfl, ?_⟩) (by assumption) ?_
      rotate_left
      · (intro w_ hSw; go_simp; try with_reducible rfl)
      try simp only [List.getElem_toArray, List.getElem_cons_succ, List.getElem_cons_zero, Act.put, List.setIfInBounds_toArray, List.set_cons_zero, List.set_cons_succ]
      refine wpAnyH_ready (rs := [14]) (by kernel_rfl) (by simp) ?_
      refine AllReadyH.cons rfl (fun K_ hK => ?_) AllReadyH.nil
      go_simp
      refine hK.out _ _ trivial (fun hHeld => ?_)
      clear hK K_
      try simp only [List.getElem_toArray, List.getElem_cons_succ, List.getElem_cons_zero, Act.put, List.setIfInBounds_toArray, List.set_cons_zero, List.set_cons_succ]
      refine wpAnyH_done (by kernel_rfl) ?_ _
      refine CalmP.onlyN_here (hQ.out _ _ ?_)
      clear hQ K0
      have bf6 : Below f w w6 := (b5.mono (by omega)).trans (z6.mono (by omega))
      have bf7 : Below f w (w6.setCell ⟨f, 1, none⟩ (.slice A6 (n0 + 1) c6)) := bf6.setCell (p := ⟨f, 1, none⟩) (Nat.le_refl _) _
      have i7 : IsRd (w6.setCell ⟨f, 1, none⟩ (.slice A6 (n0 + 1) c6)) B r q1.2 := i6.far hfl hBr
      have file7 : IsFile (w6.setCell ⟨f, 1, none⟩ (.slice A6 (n0 + 1) c6)) f (F.put (.ty q1.1)) := IsFile.putTy bx5 rw5 q1.1 (by rw [← HN0.out, ← HBQ.out]; exact ow6) (by rw [← HN0.out]; exact g6) (by rw [← HN0.out]; exact f6)
      generalize w6.setCell ⟨f, 1, none⟩ (.slice A6 (n0 + 1) c6) = w7 at bf7 i7 file7 ⊢
      clear bx5 bx6 rw5 oT5 ow6 g6 f6 k6 z6f i6 i5 i4 rd4 rn t5 b5
      obtain ⟨A_, n_, c_, k0, k1, hnl⟩ := i7.ends
      have hend := Scr.ty_line hw q1 (by rw [HQ1.out, HQ0.out])
      rcases hend with ⟨⟨g1, g2⟩, hl⟩ | ⟨hg, hl⟩
      · rw [g1] at k1
        have hn0 : n_ = 0 := by rw [hnl, g2]; rfl
        subst hn0
        have HL := hide hl
        clear hl hnl g1 g2
        go_wp2_with fail
        go_ret
        exact ⟨bf7, .inl ⟨_, HL.out, rfl, file7⟩⟩
      · have HL := hide hl
        by_cases hbad : q1.2.2 = true
        · rw [hbad] at k1
          clear hl hnl hg hbad
          go_wp2_with fail
          go_ret
          exact ⟨bf7, .inr ⟨HL.out, rfl⟩⟩
        · have hb0 : q1.2.2 = false := by simpa using hbad
          rw [hb0] at k1
          have hnp : (0 : Int) < (n_ : Int) := by
            rcases hx : q1.2.1 with _ | ⟨y, ys⟩
            · exact absurd ⟨hb0, hx⟩ hg
            · rw [hnl, hx]; simp
          clear hl hnl hg hbad hb0
          go_wp2_with fail
          go_ret
          exact ⟨bf7, .inr ⟨HL.out, rfl⟩⟩
    · go_simp
      refine hK.out _ _ trivial (fun hHeld => ?_)
      clear hK K_
      try simp only [List.getElem_toArray, List.getElem_cons_succ, List.getElem_cons_zero, Act.put, List.setIfInBounds_toArray, List.set_cons_zero, List.set_cons_succ]
      refine wpAnyH_ready (rs := [5, 9]) (by kernel_rfl) (by simp) ?_
      refine AllReadyH.cons rfl (fun K_ hK => ?_) (AllReadyH.cons rfl (fun K_ hK => ?_) AllReadyH.nil)
      · go_simp
        refine hK.out _ _ trivial (fun hHeld => ?_)
        clear hK K_
        try simp only [List.getElem_toArray, List.getElem_cons_succ, List.getElem_cons_zero, Act.put, List.setIfInBounds_toArray, List.set_cons_zero, List.set_cons_succ]
        refine wpAnyH_ready (rs := [9]) (by kernel_rfl) (by simp) ?_
        refine AllReadyH.cons rfl (fun K_ hK => ?_) AllReadyH.nil
        go_simp
        refine hK.out _ _ trivial (fun hHeld => ?_)
        clear hK K_
        try simp only [List.getElem_toArray, List.getElem_cons_succ, List.getElem_cons_zero, Act.put, List.setIfInBounds_toArray, List.set_cons_zero, List.set_cons_succ]
        refine wpAnyH_ready (rs := [10]) (by kernel_rfl) (by simp) ?_
        refine AllReadyH.cons rfl (fun K_ hK => ?_) AllReadyH.nil
        have i5 := i4.below (by rw [hg4]; exact t5)
        have hg45 : B ≤ g4 := by have := b4.size; omega
        have b5 : Below B w w5 := b4.trans (t5.mono hg45)
        have bx5 : FBox w5 f F vR _ vA := HBOX.out.below2 (b34.trans (t5.mono (by have := i4.lt; omega))) (by omega)
        have rw5 := HROW.out.below (by rw [hB]; exact b5)
        have oT5 := rw5.2.1
        rw [← HN0.out] at oT5
        have hf5 : f + 1 ≤ w5.heap.size := by have := b5.size; omega
        clear k4 z4 k5 hw5 hg4 hcv
        refine step_append_ow _ rfl _ _ _ rfl (f + 1) _ i0 _ 1 16 Tryz.underlying40 hi0 hz0 hz1 hz2 rfl (by omega) (.slice AT n0 cT) n0 _ rfl _ (some ⟨g4, 0, none⟩) 1 _ _ rfl oT5 rn (by simp [Value.oneCell']) (by unfold maxLen; omega) (by omega) hf5 ?_
        intro v6 w6 ow6 z6 g6 f6
        obtain ⟨A6, c6, rfl, -, -⟩ := ow6.shape
        have bx6 := Box.grown2 bx5 g6 (by intro e; have := (oT5.lt f e).1; omega)
        have i6 := i5.grown g6 (fun x hx => by have := (HROW.out.2.1.lt x (by rw [← HN0.out]; exact hx)).2; omega) hBr
        obtain ⟨k6, z6f⟩ := FBox.at_ bx6 1 rfl
        refine hK.out _ _ trivial (fun hHeld => ?_)
        clear hK K_
        try simp only [List.getElem_toArray, List.getElem_cons_succ, List.getElem_cons_zero, Act.put, List.setIfInBounds_toArray, List.set_cons_zero, List.set_cons_succ]
        refine wpAnyH_take (i := 11) (v := ?_) rfl (by kernel_rfl) (by kernel_rfl) (by kernel_rfl) CalmP.onlyN_panic (Or.inl ⟨by kernel_rfl, ?_⟩) (by assumption) ?_
        rotate_left
        · (intro w_ hSw; go_simp; try with_reducible rfl)
        try simp only [List.getElem_toArray, List.getElem_cons_succ, List.getElem_cons_zero, Act.put, List.setIfInBounds_toArray, List.set_cons_zero, List.set_cons_succ]
        refine wpAnyH_take (i := 12) (v := ?_) rfl (by kernel_rfl) (by kernel_rfl) (by kernel_rfl) CalmP.onlyN_panic (Or.inl ⟨by kernel_rfl, ?_⟩) (by assumption) ?_
        rotate_left
        · (intro w_ hSw; go_simp; try with_reducible rfl)
        try simp only [List.getElem_toArray, List.getElem_cons_succ, List.getElem_cons_zero, Act.put, List.setIfInBounds_toArray, List.set_cons_zero, List.set_cons_succ]
        refine wpAnyH_take (i := 13) (v := ?_) rfl (by kernel_rfl) (by kernel_rfl) (by kernel_rfl) CalmP.onlyN_panic (Or.inl ⟨by kernel_rfl, ?_⟩) (by assumption) ?_
        rotate_left
        · (intro w_ hSw; go_simp; try with_reducible rfl)
        try simp only [List.getElem_toArray, List.getElem_cons_succ, List.getElem_cons_zero, Act.put, List.setIfInBounds_toArray, List.set_cons_zero, List.set_cons_succ]
        refine wpAnyH_ready (rs := [14]) (by kernel_rfl) (by simp) ?_
        refine AllReadyH.cons rfl (fun K_ hK => ?_) AllReadyH.nil
        go_simp
        refine hK.out _ _ trivial (fun hHeld => ?_)
        clear hK K_
        try simp only [List.getElem_toArray, List.getElem_cons_succ, List.getElem_cons_zero, Act.put, List.setIfInBounds_toArray, List.set_cons_zero, List.set_cons_succ]
        refine wpAnyH_done (by kernel_rfl) ?_ _
        refine CalmP.onlyN_here (hQ.out _ _ ?_)
        clear hQ K0
        have bf6 : Below f w w6 := (b5.mono (by omega)).trans (z6.mono (by omega))
        have bf7 : Below f w (w6.setCell ⟨f, 1, none⟩ (.slice A6 (n0 + 1) c6)) := bf6.setCell (p := ⟨f, 1, none⟩) (Nat.le_refl _) _
        have i7 : IsRd (w6.setCell ⟨f, 1, none⟩ (.slice A6 (n0 + 1) c6)) B r q1.2 := i6.far hfl hBr
        have file7 : IsFile (w6.setCell ⟨f, 1, none⟩ (.slice A6 (n0 + 1) c6)) f (F.put (.ty q1.1)) := IsFile.putTy bx5 rw5 q1.1 (by rw [← HN0.out, ← HBQ.out]; exact ow6) (by rw [← HN0.out]; exact g6) (by rw [← HN0.out]; exact f6)
        generalize w6.setCell ⟨f, 1, none⟩ (.slice A6 (n0 + 1) c6) = w7 at bf7 i7 file7 ⊢
        clear bx5 bx6 rw5 oT5 ow6 g6 f6 k6 z6f i6 i5 i4 rd4 rn t5 b5
        obtain ⟨A_, n_, c_, k0, k1, hnl⟩ := i7.ends
        have hend := Scr.ty_line hw q1 (by rw [HQ1.out, HQ0.out])
        rcases hend with ⟨⟨g1, g2⟩, hl⟩ | ⟨hg, hl⟩
        · rw [g1] at k1
          have hn0 : n_ = 0 := by rw [hnl, g2]; rfl
          subst hn0
          have HL := hide hl
          clear hl hnl g1 g2
          go_wp2_with fail
          go_ret
          exact ⟨bf7, .inl ⟨_, HL.out, rfl, file7⟩⟩
        · have HL := hide hl
          by_cases hbad : q1.2.2 = true
          · rw [hbad] at k1
            clear hl hnl hg hbad
            go_wp2_with fail
            go_ret
            exact ⟨bf7, .inr ⟨HL.out, rfl⟩⟩
          · have hb0 : q1.2.2 = false := by simpa using hbad
            rw [hb0] at k1
            have hnp : (0 : Int) < (n_ : Int) := by
              rcases hx : q1.2.1 with _ | ⟨y, ys⟩
              · exact absurd ⟨hb0, hx⟩ hg
              · rw [hnl, hx]; simp
            clear hl hnl hg hbad hb0
            go_wp2_with fail
            go_ret
            exact ⟨bf7, .inr ⟨HL.out, rfl⟩⟩
      · go_simp
        refine hK.out _ _ trivial (fun hHeld => ?_)
        clear hK K_
        try simp only [List.getElem_toArray, List.getElem_cons_succ, List.getElem_cons_zero, Act.put, List.setIfInBounds_toArray, List.set_cons_zero, List.set_cons_succ]
        refine wpAnyH_ready (rs := [5]) (by kernel_rfl) (by simp) ?_
        refine AllReadyH.cons rfl (fun K_ hK => ?_) AllReadyH.nil
        go_simp
        refine hK.out _ _ trivial (fun hHeld => ?_)
        clear hK K_
        try simp only [List.getElem_toArray, List.getElem_cons_succ, List.getElem_cons_zero, Act.put, List.setIfInBounds_toArray, List.set_cons_zero, List.set_cons_succ]
        refine wpAnyH_ready (rs := [10]) (by kernel_rfl) (by simp) ?_
        refine AllReadyH.cons rfl (fun K_ hK => ?_) AllReadyH.nil
        have i5 := i4.below (by rw [hg4]; exact t5)
        have hg45 : B ≤ g4 := by have := b4.size; omega
        have b5 : Below B w w5 := b4.trans (t5.mono hg45)
        have bx5 : FBox w5 f F vR _ vA := HBOX.out.below2 (b34.trans (t5.mono (by have := i4.lt; omega))) (by omega)
        have rw5 := HROW.out.below (by rw [hB]; exact b5)
        have oT5 := rw5.2.1
        rw [← HN0.out] at oT5
        have hf5 : f + 1 ≤ w5.heap.size := by have := b5.size; omega
        clear k4 z4 k5 hw5 hg4 hcv
        refine step_append_ow _ rfl _ _ _ rfl (f + 1) _ i0 _ 1 16 Tryz.underlying40 hi0 hz0 hz1 hz2 rfl (by omega) (.slice AT n0 cT) n0 _ rfl _ (some ⟨g4, 0, none⟩) 1 _ _ rfl oT5 rn (by simp [Value.oneCell']) (by unfold maxLen; omega) (by omega) hf5 ?_
        intro v6 w6 ow6 z6 g6 f6
        obtain ⟨A6, c6, rfl, -, -⟩ := ow6.shape
        have bx6 := Box.grown2 bx5 g6 (by intro e; have := (oT5.lt f e).1; omega)
        have i6 := i5.grown g6 (fun x hx => by have := (HROW.out.2.1.lt x (by rw [← HN0.out]; exact hx)).2; omega) hBr
        obtain ⟨k6, z6f⟩ := FBox.at_ bx6 1 rfl
        refine hK.out _ _ trivial (fun hHeld => ?_)
        clear hK K_
        try simp only [List.getElem_toArray, List.getElem_cons_succ, List.getElem_cons_zero, Act.put, List.setIfInBounds_toArray, List.set_cons_zero, List.set_cons_succ]
        refine wpAnyH_take (i := 11) (v := ?_) rfl (by kernel_rfl) (by kernel_rfl) (by kernel_rfl) CalmP.onlyN_panic (Or.inl ⟨by kernel_rfl, ?_⟩) (by assumption) ?_
        rotate_left
        · (intro w_ hSw; go_simp; try with_reducible rfl)
        try simp only [List.getElem_toArray, List.getElem_cons_succ, List.getElem_cons_zero, Act.put, List.setIfInBounds_toArray, List.set_cons_zero, List.set_cons_succ]
        refine wpAnyH_take (i := 12) (v := ?_) rfl (by kernel_rfl) (by kernel_rfl) (by kernel_rfl) CalmP.onlyN_panic (Or.inl ⟨by kernel_rfl, ?_⟩) (by assumption) ?_
        rotate_left
        · (intro w_ hSw; go_simp; try with_reducible rfl)
        try simp only [List.getElem_toArray, List.getElem_cons_succ, List.getElem_cons_zero, Act.put, List.setIfInBounds_toArray, List.set_cons_zero, List.set_cons_succ]
        refine wpAnyH_take (i := 13) (v := ?_) rfl (by kernel_rfl) (by kernel_rfl) (by kernel_rfl) CalmP.onlyN_panic (Or.inl ⟨by kernel_rfl, ?_⟩) (by assumption) ?_
        rotate_left
        · (intro w_ hSw; go_simp; try with_reducible rfl)
        try simp only [List.getElem_toArray, List.getElem_cons_succ, List.getElem_cons_zero, Act.put, List.setIfInBounds_toArray, List.set_cons_zero, List.set_cons_succ]
        refine wpAnyH_ready (rs := [14]) (by kernel_rfl) (by simp) ?_
        refine AllReadyH.cons rfl (fun K_ hK => ?_) AllReadyH.nil
        go_simp
        refine hK.out _ _ trivial (fun hHeld => ?_)
        clear hK K_
        try simp only [List.getElem_toArray, List.getElem_cons_succ, List.getElem_cons_zero, Act.put, List.setIfInBounds_toArray, List.set_cons_zero, List.set_cons_succ]
        refine wpAnyH_done (by kernel_rfl) ?_ _
        refine CalmP.onlyN_here (hQ.out _ _ ?_)
        clear hQ K0
        have bf6 : Below f w w6 := (b5.mono (by omega)).trans (z6.mono (by omega))
        have bf7 : Below f w (w6.setCell ⟨f, 1, none⟩ (.slice A6 (n0 + 1) c6)) := bf6.setCell (p := ⟨f, 1, none⟩) (Nat.le_refl _) _
        have i7 : IsRd (w6.setCell ⟨f, 1, none⟩ (.slice A6 (n0 + 1) c6)) B r q1.2 := i6.far hfl hBr
        have file7 : IsFile (w6.setCell ⟨f, 1, none⟩ (.slice A6 (n0 + 1) c6)) f (F.put (.ty q1.1)) := IsFile.putTy bx5 rw5 q1.1 (by rw [← HN0.out, ← HBQ.out]; exact ow6) (by rw [← HN0.out]; exact g6) (by rw [← HN0.out]; exact f6)
        generalize w6.setCell ⟨f, 1, none⟩ (.slice A6 (n0 + 1) c6) = w7 at bf7 i7 file7 ⊢
        clear bx5 bx6 rw5 oT5 ow6 g6 f6 k6 z6f i6 i5 i4 rd4 rn t5 b5
        obtain ⟨A_, n_, c_, k0, k1, hnl⟩ := i7.ends
        have hend := Scr.ty_line hw q1 (by rw [HQ1.out, HQ0.out])
        rcases hend with ⟨⟨g1, g2⟩, hl⟩ | ⟨hg, hl⟩
        · rw [g1] at k1
          have hn0 : n_ = 0 := by rw [hnl, g2]; rfl
          subst hn0
          have HL := hide hl
          clear hl hnl g1 g2
          go_wp2_with fail
          go_ret
          exact ⟨bf7, .inl ⟨_, HL.out, rfl, file7⟩⟩
        · have HL := hide hl
          by_cases hbad : q1.2.2 = true
          · rw [hbad] at k1
            clear hl hnl hg hbad
            go_wp2_with fail
            go_ret
            exact ⟨bf7, .inr ⟨HL.out, rfl⟩⟩
          · have hb0 : q1.2.2 = false := by simpa using hbad
            rw [hb0] at k1
            have hnp : (0 : Int) < (n_ : Int) := by
              rcases hx : q1.2.1 with _ | ⟨y, ys⟩
              · exact absurd ⟨hb0, hx⟩ hg
              · rw [hnl, hx]; simp
            clear hl hnl hg hbad hb0
            go_wp2_with fail
            go_ret
            exact ⟨bf7, .inr ⟨HL.out, rfl⟩⟩
set_option maxRecDepth 100000 in
set_option maxHeartbeats 3200000 in
theorem scrline_rt (f : Nat) (F : Scr.Fl) (s : ByteArray) (ws : List (List UInt8)) (w : World) (h : IsFile w f F) (hs : s.size ≤ 16777216) (hG : ∀ W, Below f w W → Glo W) (hn : F.rts.length ≤ 16777216 ∧ F.tys.length ≤ 16777216 ∧ F.acs.length ≤ 16777216) (hw : Scr.wordsL s.data.toList = Scr.wRt :: ws) :
    Calls Tryz.prog 104 #[.pointer (some ⟨f, 0, none⟩), .string s] w (LinePost w f F s.data.toList) := by
  have hfl := h.lt
  obtain ⟨vR, vT, vA, ps, bx, rw_⟩ := h
  have sp := scrsplit_any s w (by omega) (hG w (Below.refl _ _))
  have hsml := words_small s.data.toList
  rw [hw] at sp hsml
  have hsz : s.data.toList.length = s.size := by rw [Array.length_toList]; rfl
  have hws : ∀ x ∈ ws, x.length ≤ 16777216 := fun x hx => by have := hsml x (by simp [hx]); omega
  have hws2 : ∀ x ∈ ws, x.length ≤ 281474976710656 := fun x hx => by have := hws x hx; omega
  obtain ⟨B, hB⟩ : ∃ B, w.heap.size = B := ⟨_, rfl⟩
  rw [hB] at sp hfl
  obtain ⟨lw, hlw⟩ : ∃ lw, lw = Scr.wRt :: ws := ⟨_, rfl⟩
  rw [← hlw] at sp
  have HG := hide hG
  have HLW := hide hlw
  have HSML := hide hsml
  clear hG hsml hsz hlw
  obtain ⟨bw, hbw⟩ : ∃ bw : ByteArray, bw = ⟨Scr.wRt.toArray⟩ := ⟨_, rfl⟩
  have c0 : (bw.toList == [99, 111, 110, 102, 105, 103]) = false := by rw [hbw, ByteArray.toList_eq]; rfl
  have c1 : (bw.toList == [114, 111, 117, 116, 101]) = true := by rw [hbw, ByteArray.toList_eq]; rfl
  have c2 : (bw.toList == [116, 121, 112, 101]) = false := by rw [hbw, ByteArray.toList_eq]; rfl
  have c3 : (bw.toList == [97, 99, 116]) = false := by rw [hbw, ByteArray.toList_eq]; rfl
  have HBW := hide hbw
  clear hbw
  go_enter Tryz.func104, Tryz.ntmps104
  go_wp2_with fail
  refine sp.mono ?_
  rintro e w1 ⟨a, n, rfl, hn1, hn2, hab, rd1, b1, hz1⟩
  obtain ⟨r, hr⟩ : ∃ r, w1.heap.size = r := ⟨_, rfl⟩
  have hBr : B ≤ r := by rw [← hr, hz1]; omega
  have hfr : f ≤ r := by omega
  rw [hr] at rd1
  have bx2 := Box.new w1 #[.slice (some a) n n, .bool false] 238
  rw [hr] at bx2
  have b2 : Below B w (w1.alloc (.cells #[.slice (some a) n n, .bool false] 238)) := b1.alloc (by omega) _
  have i2 : IsRd (w1.alloc (.cells #[.slice (some a) n n, .bool false] 238)) B r (lw, false) := by
    subst hn1
    exact ⟨some a, _, bx2, Nat.le_refl _, hn2, rd1.below (by rw [← hr]; exact (Below.refl _ _).alloc (Nat.le_refl _) _), fun x e => by cases e; omega⟩
  clear sp hz1 hn1 hn2 rd1 bx2 hab b1
  go_upto_region 3 with (fail)
  generalize w1.alloc (.cells #[.slice (some a) n n, .bool false] 238) = w2 at b2 i2 ⊢
  have nx := scrnext_any B r _ w2 i2
  rw [HLW.out] at nx
  simp only [List.headD_cons, List.tail_cons, List.isEmpty_cons, Bool.or_false] at nx
  rw [← HBW.out] at nx
  have i2lt := i2.lt
  clear i2
  go_wp2_with fail
  refine nx.mono ?_
  rintro e w3 ⟨rfl, i3, g23⟩
  have b23 : Below r w2 w3 := below_gr i2lt g23
  have b3 : Below B w w3 := b2.trans (b23.mono hBr)
  have bf3 : Below f w w3 := b3.mono (by omega)
  clear nx b23 b2 hr i2lt g23
  obtain ⟨q0, hq0⟩ : ∃ q : Nat × (List (List UInt8) × Bool), q = (0, (ws, false)) := ⟨_, rfl⟩
  have hs0 : ∀ x ∈ q0.2.1, x.length ≤ 16777216 := by rw [hq0]; exact hws
  rw [show (ws, false) = q0.2 by rw [hq0]] at i3
  have HQ0 := hide hq0
  clear hq0
  obtain ⟨n0, hn0⟩ : ∃ n, n = F.rts.length := ⟨_, rfl⟩
  obtain ⟨i0, hi0, hz0, hz1, hz2⟩ := info_parts infoRtF
  have HBOX := hide bx
  have HROW := hide rw_
  obtain ⟨q1, hq1⟩ : ∃ q, q = Scr.rdByt q0.2 := ⟨_, rfl⟩
  have hs1 : ∀ x ∈ q1.2.1, x.length ≤ 16777216 := by rw [hq1]; exact fun x hx => hs0 x (rdByt_sub _ x hx)
  obtain ⟨q2, hq2⟩ : ∃ q, q = Scr.rdByt q1.2 := ⟨_, rfl⟩
  have hs2 : ∀ x ∈ q2.2.1, x.length ≤ 16777216 := by rw [hq2]; exact fun x hx => hs1 x (rdByt_sub _ x hx)
  obtain ⟨q3, hq3⟩ : ∃ q, q = Scr.rdNum q2.2 := ⟨_, rfl⟩
  have hs3 : ∀ x ∈ q3.2.1, x.length ≤ 16777216 := by rw [hq3]; exact fun x hx => hs2 x (rdNum_sub _ x hx)
  have HQ1 := hide hq1
  have HQ2 := hide hq2
  have HQ3 := hide hq3
  clear hq1 hq2 hq3
  have hn00 : n0 ≤ 16777216 := by rw [hn0]; exact hn.1
  have HN0 := hide hn0
  clear bx rw_ hn0 hn
  have b_w3 := b3
  have i_w3 := i3
  have cl1 := scrbyt_any B r q0.2 w3 i_w3 hs0
  rw [← HQ1.out] at cl1
  go_wp2_with fail
  refine cl1.mono ?_
  rintro e w4 ⟨A1, m1, c1, rfl, hm1, hmc1, hcm1, rd1, hA1, i_w4, g_w4⟩
  have HM1 := hide hm1
  clear cl1 hm1
  have b_w4 : Below B w w4 := b_w3.trans ((below_gr i_w3.lt g_w4).mono hBr)
  have hcv1 := run_string_of (P := Tryz.prog) 22 9 5 Tryz.underlying22 Tryz.underlying5 Tryz.underlying9 w4 _ m1 c1 A1 q1.1 rd1
  obtain ⟨s1, hs_1⟩ : ∃ s : ByteArray, s = ⟨q1.1.toArray⟩ := ⟨_, rfl⟩
  rw [← hs_1] at hcv1
  have HS1 := hide hs_1
  clear hs_1 rd1
  obtain ⟨gx, hgx⟩ : ∃ g, w4.heap.size = g := ⟨_, rfl⟩
  have hrx : r < gx := by have := i_w4.lt; omega
  have bb := Box.new w4 #[.string s1, .string ⟨#[]⟩, .int .i64 0] 141
  rw [hgx] at bb
  have tb : Below gx w4 (w4.alloc (.cells #[.string s1, .string ⟨#[]⟩, .int .i64 0] 141)) := (Below.refl _ _).alloc (Nat.le_of_eq hgx.symm) _
  go_upto_region 14 with (fail)
  generalize w4.alloc (.cells #[.string s1, .string ⟨#[]⟩, .int .i64 0] 141) = w5 at bb tb ⊢
  have i_w5 := i_w4.below (by rw [hgx]; exact tb)
  have b_w5 : Below B w w5 := b_w4.trans (tb.mono (by omega))
  clear hgx
  have cl2 := scrbyt_any B r q1.2 w5 i_w5 hs1
  rw [← HQ2.out] at cl2
  go_wp2_with fail
  refine cl2.mono ?_
  rintro e u6 ⟨A2, m2, c2, rfl, hm2, hmc2, hcm2, rd2, hA2, i_u6, g_u6⟩
  have HM2 := hide hm2
  clear cl2 hm2
  have b_u6 : Below B w u6 := b_w5.trans ((below_gr i_w5.lt g_u6).mono hBr)
  have hcv2 := run_string_of (P := Tryz.prog) 22 9 5 Tryz.underlying22 Tryz.underlying5 Tryz.underlying9 u6 _ m2 c2 A2 q2.1 rd2
  obtain ⟨s2, hs_2⟩ : ∃ s : ByteArray, s = ⟨q2.1.toArray⟩ := ⟨_, rfl⟩
  rw [← hs_2] at hcv2
  have HS2 := hide hs_2
  clear hs_2 rd2
  have bb := Box.grown2 bb g_u6 (by intro e; have := Option.some.inj e; omega)
  obtain ⟨kx, zx⟩ := bb.2 1 _ rfl
  go_upto_region 15 with (fail)
  replace bb := Box.set bb (k := 1) (x := .string s2) (by simp)
  simp only [List.set_cons_succ, List.set_cons_zero] at bb
  have i_u7 := i_u6.above (g := gx) (k := 1) (x := .string s2) hrx
  have b_u7 := b_u6.setCell (p := ⟨gx, 1, none⟩) (show B ≤ gx by omega) (.string s2)
  generalize u6.setCell ⟨gx, 1, none⟩ (.string s2) = u7 at bb i_u7 b_u7 ⊢
  clear kx zx g_u6
  have cl3 := scrnum_any B r q2.2 u7 i_u7 (fun x hx => by have := hs2 x hx; omega) (fun W b => HG.out W ((b_u7.mono (Nat.le_of_lt hfl)).trans (b.mono hfr)))
  rw [← HQ3.out] at cl3
  go_wp2_with fail
  refine cl3.mono ?_
  rintro e u8 ⟨rfl, i_u8, g_u8⟩
  clear cl3
  have b_u8 : Below B w u8 := b_u7.trans ((below_gr i_u7.lt g_u8).mono hBr)
  have bb := Box.grown2 bb g_u8 (by intro e; have := Option.some.inj e; omega)
  obtain ⟨kx, zx⟩ := bb.2 2 _ rfl
  go_upto_region 16 with (fail)
  replace bb := Box.set bb (k := 2) (x := .int .i64 (q3.1 : Nat)) (by simp)
  simp only [List.set_cons_succ, List.set_cons_zero] at bb
  have i_u9 := i_u8.above (g := gx) (k := 2) (x := .int .i64 (q3.1 : Nat)) hrx
  have b_u9 := b_u8.setCell (p := ⟨gx, 2, none⟩) (show B ≤ gx by omega) (.int .i64 (q3.1 : Nat))
  generalize u8.setCell ⟨gx, 2, none⟩ (.int .i64 (q3.1 : Nat)) = u9 at bb i_u9 b_u9 ⊢
  clear kx zx g_u8
  obtain ⟨A0, c0_, rfl, -, -⟩ := HROW.out.1.shape
  have bxF : FBox u9 f F _ vT vA := HBOX.out.below2 b_u9 hfl
  have rwF := HROW.out.below (by rw [hB]; exact b_u9)
  obtain ⟨kF, zF⟩ := bxF.at_ 0 rfl
  rw [← HN0.out] at kF
  have x0 := (bb.2 0 _ rfl).1
  have x1 := (bb.2 1 _ rfl).1
  have x2 := (bb.2 2 _ rfl).1
  obtain ⟨gl, hgl⟩ : ∃ g, u9.heap.size = g := ⟨_, rfl⟩
  have rn := rd_new u9.drew #[.string s1, .string s2, .int .i64 (q3.1 : Nat)] 141 3 1 rfl
  have hgl' : u9.drew.heap.size = gl := hgl
  have tl : Below gl u9 (u9.drew.alloc (.cells #[.string s1, .string s2, .int .i64 (q3.1 : Nat)] 141)) := ((show Below gl u9 u9.drew from below_drewN (k := 1) (Below.refl _ _))).trans ((Below.refl _ _).alloc (Nat.le_of_eq hgl'.symm) _)
  rw [hgl'] at rn
  have kF2 := cell_past u9.drew (.cells #[.string s1, .string s2, .int .i64 (q3.1 : Nat)] 141) (show u9.drew.cell? _ = _ from kF)
  obtain ⟨wn, hwn⟩ : ∃ x, u9.drew.alloc (.cells #[.string s1, .string s2, .int .i64 (q3.1 : Nat)] 141) = x := ⟨_, rfl⟩
  rw [hwn] at rn tl kF2
  have hrl : r < gl := by have := i_u9.lt; omega
  refine CalmP.hideN (fun K0 hQ => ?_)
  refine wp_region_held_drew (S := (fun W : World => True)) (by kernel_rfl) trivial (fun hHeld => ?_)
  refine wpAnyH_take (i := 0) (v := ?_) rfl (by kernel_rfl) (by kernel_rfl) (by kernel_rfl) CalmP.onlyN_panic (Or.inl ⟨by kernel_rfl, ?_⟩) (by assumption) ?_
  rotate_left
  · (intro w_ hSw; go_simp; try with_reducible rfl)
  try simp only [List.getElem_toArray, List.getElem_cons_succ, List.getElem_cons_zero, Act.put, List.setIfInBounds_toArray, List.set_cons_zero, List.set_cons_succ]
  refine wpAnyH_take (i := 1) (v := ?_) rfl (by kernel_rfl) (by kernel_rfl) (by kernel_rfl) CalmP.onlyN_panic (Or.inl ⟨by kernel_rfl, ?_⟩) (by assumption) ?_
  rotate_left
  · (intro w_ hSw; go_simp; try with_reducible rfl)
  try simp only [List.getElem_toArray, List.getElem_cons_succ, List.getElem_cons_zero, Act.put, List.setIfInBounds_toArray, List.set_cons_zero, List.set_cons_succ]
  refine wpAnyH_take (i := 2) (v := ?_) rfl (by kernel_rfl) (by kernel_rfl) (by kernel_rfl) CalmP.onlyN_panic (Or.inl ⟨by kernel_rfl, ?_⟩) (by assumption) ?_
  rotate_left
  · (intro w_ hSw; go_simp; try with_reducible rfl)
  try simp only [List.getElem_toArray, List.getElem_cons_succ, List.getElem_cons_zero, Act.put, List.setIfInBounds_toArray, List.set_cons_zero, List.set_cons_succ]
  refine wpAnyH_take (i := 3) (v := ?_) rfl (by kernel_rfl) (by kernel_rfl) (by kernel_rfl) CalmP.onlyN_panic (Or.inl ⟨by kernel_rfl, ?_⟩) (by assumption) ?_
  rotate_left
  · (intro w_ hSw; go_simp; try with_reducible rfl)
  try simp only [List.getElem_toArray, List.getElem_cons_succ, List.getElem_cons_zero, Act.put, List.setIfInBounds_toArray, List.set_cons_zero, List.set_cons_succ]
  refine wpAnyH_take (i := 4) (v := ?_) rfl (by kernel_rfl) (by kernel_rfl) (by kernel_rfl) CalmP.onlyN_panic (Or.inl ⟨by kernel_rfl, ?_⟩) (by assumption) ?_
  rotate_left
  · (intro w_ hSw; go_simp; try with_reducible rfl)
  try simp only [List.getElem_toArray, List.getElem_cons_succ, List.getElem_cons_zero, Act.put, List.setIfInBounds_toArray, List.set_cons_zero, List.set_cons_succ]
  refine wpAnyH_ready (rs := [5, 6]) (by kernel_rfl) (by simp) ?_
  refine AllReadyH.cons rfl (fun K_ hK => ?_) (AllReadyH.cons rfl (fun K_ hK => ?_) AllReadyH.nil)
  · go_simp
    refine hK.out _ _ trivial (fun hHeld => ?_)
    clear hK K_
    try simp only [List.getElem_toArray, List.getElem_cons_succ, List.getElem_cons_zero, Act.put, List.setIfInBounds_toArray, List.set_cons_zero, List.set_cons_succ]
    refine wpAnyH_ready (rs := [6]) (by kernel_rfl) (by simp) ?_
    refine AllReadyH.cons rfl (fun K_ hK => ?_) AllReadyH.nil
    go_simp
    refine hK.out _ _ trivial (fun hHeld => ?_)
    clear hK K_
    try simp only [List.getElem_toArray, List.getElem_cons_succ, List.getElem_cons_zero, Act.put, List.setIfInBounds_toArray, List.set_cons_zero, List.set_cons_succ]
    refine wpAnyH_ready (rs := [7]) (by kernel_rfl) (by simp) ?_
    refine AllReadyH.cons rfl (fun K_ hK => ?_) AllReadyH.nil
    go_simp
    refine hK.out _ _ trivial (fun hHeld => ?_)
    clear hK K_
    try simp only [List.getElem_toArray, List.getElem_cons_succ, List.getElem_cons_zero, Act.put, List.setIfInBounds_toArray, List.set_cons_zero, List.set_cons_succ]
    refine wpAnyH_ready (rs := [8]) (by kernel_rfl) (by simp) ?_
    refine AllReadyH.cons rfl (fun K_ hK => ?_) AllReadyH.nil
    have i_n := i_u9.below (by rw [hgl]; exact tl)
    have b_n : Below B w wn := b_u9.trans (tl.mono (by omega))
    have bxN : FBox wn f F _ vT vA := HBOX.out.below2 b_n hfl
    have rwN := HROW.out.below (by rw [hB]; exact b_n)
    have oN := rwN.1
    rw [← HN0.out] at oN
    have hfN : f + 1 ≤ wn.heap.size := by have := b_n.size; omega
    clear kF zF kF2 hwn hgl hgl'
    refine step_append_ow _ rfl _ _ _ rfl (f + 1) _ i0 _ 3 40 Tryz.underlying39 hi0 hz0 hz1 hz2 rfl (by omega) (.slice A0 n0 c0_) n0 _ rfl _ (some ⟨gl, 0, none⟩) 1 _ _ rfl oN rn (by simp [Value.oneCell']) (by unfold maxLen; omega) (by omega) hfN ?_
    intro v6 w6 ow6 z6 g6 f6
    obtain ⟨A6, c6, rfl, -, -⟩ := ow6.shape
    have bx6 := Box.grown2 bxN g6 (by intro e; have := (oN.lt f e).1; omega)
    have i_6 := i_n.grown g6 (fun x hx => by have := (HROW.out.1.lt x (by rw [← HN0.out]; exact hx)).2; omega) hBr
    obtain ⟨k6, z6f⟩ := FBox.at_ bx6 0 rfl
    refine hK.out _ _ trivial (fun hHeld => ?_)
    clear hK K_
    try simp only [List.getElem_toArray, List.getElem_cons_succ, List.getElem_cons_zero, Act.put, List.setIfInBounds_toArray, List.set_cons_zero, List.set_cons_succ]
    refine wpAnyH_take (i := 9) (v := ?_) rfl (by kernel_rfl) (by kernel_rfl) (by kernel_rfl) CalmP.onlyN_panic (Or.inl ⟨by kernel_rfl, ?_⟩) (by assumption) ?_
    rotate_left
    · (intro w_ hSw; go_simp; try with_reducible rfl)
    try simp only [List.getElem_toArray, List.getElem_cons_succ, List.getElem_cons_zero, Act.put, List.setIfInBounds_toArray, List.set_cons_zero, List.set_cons_succ]
    refine wpAnyH_take (i := 10) (v := ?_) rfl (by kernel_rfl) (by kernel_rfl) (by kernel_rfl) CalmP.onlyN_panic (Or.inl ⟨by kernel_rfl, ?_⟩) (by assumption) ?_
    rotate_left
    · (intro w_ hSw; go_simp; try with_reducible rfl)
    try simp only [List.getElem_toArray, List.getElem_cons_succ, List.getElem_cons_zero, Act.put, List.setIfInBounds_toArray, List.set_cons_zero, List.set_cons_succ]
    refine wpAnyH_take (i := 11) (v := ?_) rfl (by kernel_rfl) (by kernel_rfl) (by kernel_rfl) CalmP.onlyN_panic (Or.inl ⟨by kernel_rfl, ?_⟩) (by assumption) ?_
    rotate_left
    · (intro w_ hSw; go_simp; try with_reducible rfl)
    try simp only [List.getElem_toArray, List.getElem_cons_succ, List.getElem_cons_zero, Act.put, List.setIfInBounds_toArray, List.set_cons_zero, List.set_cons_succ]
    refine wpAnyH_ready (rs := [12]) (by kernel_rfl) (by simp) ?_
    refine AllReadyH.cons rfl (fun K_ hK => ?_) AllReadyH.nil
    go_simp
    refine hK.out _ _ trivial (fun hHeld => ?_)
    clear hK K_
    try simp only [List.getElem_toArray, List.getElem_cons_succ, List.getElem_cons_zero, Act.put, List.setIfInBounds_toArray, List.set_cons_zero, List.set_cons_succ]
    refine wpAnyH_done (by kernel_rfl) ?_ _
    refine CalmP.onlyN_here (hQ.out _ _ ?_)
    clear hQ K0
    have bf6 : Below f w w6 := (b_n.mono (by omega)).trans (z6.mono (by omega))
    have bf7 : Below f w (w6.setCell ⟨f, 0, none⟩ (.slice A6 (n0 + 1) c6)) := bf6.setCell (p := ⟨f, 0, none⟩) (Nat.le_refl _) _
    have i7 : IsRd (w6.setCell ⟨f, 0, none⟩ (.slice A6 (n0 + 1) c6)) B r q3.2 := i_6.far hfl hBr
    have file7 : IsFile (w6.setCell ⟨f, 0, none⟩ (.slice A6 (n0 + 1) c6)) f (F.put (.rt q1.1 q2.1 q3.1)) := IsFile.putRt bxN rwN q1.1 q2.1 q3.1 (by rw [← HN0.out, ← HS1.out, ← HS2.out]; exact ow6) (by rw [← HN0.out]; exact g6) (by rw [← HN0.out]; exact f6)
    generalize w6.setCell ⟨f, 0, none⟩ (.slice A6 (n0 + 1) c6) = w7 at bf7 i7 file7 ⊢
    clear bxN bx6 rwN oN ow6 g6 f6 k6 z6f i_6 i_n rn tl b_n
    obtain ⟨A_, n_, c_, k0, k1, hnl⟩ := i7.ends
    have hend := Scr.rt_line hw q1 q2 q3 (by rw [HQ1.out, HQ0.out]) HQ2.out HQ3.out
    rcases hend with ⟨⟨g1, g2⟩, hl⟩ | ⟨hg, hl⟩
    · rw [g1] at k1
      have hn0 : n_ = 0 := by rw [hnl, g2]; rfl
      subst hn0
      have HL := hide hl
      clear hl hnl g1 g2
      go_wp2_with fail
      go_ret
      exact ⟨bf7, .inl ⟨_, HL.out, rfl, file7⟩⟩
    · have HL := hide hl
      by_cases hbad : q3.2.2 = true
      · rw [hbad] at k1
        clear hl hnl hg hbad
        go_wp2_with fail
        go_ret
        exact ⟨bf7, .inr ⟨HL.out, rfl⟩⟩
      · have hb0 : q3.2.2 = false := by simpa using hbad
        rw [hb0] at k1
        have hnp : (0 : Int) < (n_ : Int) := by
          rcases hx : q3.2.1 with _ | ⟨y, ys⟩
          · exact absurd ⟨hb0, hx⟩ hg
          · rw [hnl, hx]; simp
        clear hl hnl hg hbad hb0
        go_wp2_with fail
        go_ret
        exact ⟨bf7, .inr ⟨HL.out, rfl⟩⟩
  · go_simp
    refine hK.out _ _ trivial (fun hHeld => ?_)
    clear hK K_
    try simp only [List.getElem_toArray, List.getElem_cons_succ, List.getElem_cons_zero, Act.put, List.setIfInBounds_toArray, List.set_cons_zero, List.set_cons_succ]
    refine wpAnyH_ready (rs := [5, 7]) (by kernel_rfl) (by simp) ?_
    refine AllReadyH.cons rfl (fun K_ hK => ?_) (AllReadyH.cons rfl (fun K_ hK => ?_) AllReadyH.nil)
    · go_simp
      refine hK.out _ _ trivial (fun hHeld => ?_)
      clear hK K_
      try simp only [List.getElem_toArray, List.getElem_cons_succ, List.getElem_cons_zero, Act.put, List.setIfInBounds_toArray, List.set_cons_zero, List.set_cons_succ]
      refine wpAnyH_ready (rs := [7]) (by kernel_rfl) (by simp) ?_
      refine AllReadyH.cons rfl (fun K_ hK => ?_) AllReadyH.nil
      go_simp
      refine hK.out _ _ trivial (fun hHeld => ?_)
      clear hK K_
      try simp only [List.getElem_toArray, List.getElem_cons_succ, List.getElem_cons_zero, Act.put, List.setIfInBounds_toArray, List.set_cons_zero, List.set_cons_succ]
      refine wpAnyH_ready (rs := [8]) (by kernel_rfl) (by simp) ?_
      refine AllReadyH.cons rfl (fun K_ hK => ?_) AllReadyH.nil
      have i_n := i_u9.below (by rw [hgl]; exact tl)
      have b_n : Below B w wn := b_u9.trans (tl.mono (by omega))
      have bxN : FBox wn f F _ vT vA := HBOX.out.below2 b_n hfl
      have rwN := HROW.out.below (by rw [hB]; exact b_n)
      have oN := rwN.1
      rw [← HN0.out] at oN
      have hfN : f + 1 ≤ wn.heap.size := by have := b_n.size; omega
      clear kF zF kF2 hwn hgl hgl'
      refine step_append_ow _ rfl _ _ _ rfl (f + 1) _ i0 _ 3 40 Tryz.underlying39 hi0 hz0 hz1 hz2 rfl (by omega) (.slice A0 n0 c0_) n0 _ rfl _ (some ⟨gl, 0, none⟩) 1 _ _ rfl oN rn (by simp [Value.oneCell']) (by unfold maxLen; omega) (by omega) hfN ?_
      intro v6 w6 ow6 z6 g6 f6
      obtain ⟨A6, c6, rfl, -, -⟩ := ow6.shape
      have bx6 := Box.grown2 bxN g6 (by intro e; have := (oN.lt f e).1; omega)
      have i_6 := i_n.grown g6 (fun x hx => by have := (HROW.out.1.lt x (by rw [← HN0.out]; exact hx)).2; omega) hBr
      obtain ⟨k6, z6f⟩ := FBox.at_ bx6 0 rfl
      refine hK.out _ _ trivial (fun hHeld => ?_)
      clear hK K_
      try simp only [List.getElem_toArray, List.getElem_cons_succ, List.getElem_cons_zero, Act.put, List.setIfInBounds_toArray, List.set_cons_zero, List.set_cons_succ]
      refine wpAnyH_take (i := 9) (v := ?_) rfl (by kernel_rfl) (by kernel_rfl) (by kernel_rfl) CalmP.onlyN_panic (Or.inl ⟨by kernel_rfl, ?_⟩) (by assumption) ?_
      rotate_left
      · (intro w_ hSw; go_simp; try with_reducible rfl)
      try simp only [List.getElem_toArray, List.getElem_cons_succ, List.getElem_cons_zero, Act.put, List.setIfInBounds_toArray, List.set_cons_zero, List.set_cons_succ]
      refine wpAnyH_take (i := 10) (v := ?_) rfl (by kernel_rfl) (by kernel_rfl) (by kernel_rfl) CalmP.onlyN_panic (Or.inl ⟨by kernel_rfl, ?_⟩) (by assumption) ?_
      rotate_left
      · (intro w_ hSw; go_simp; try with_reducible rfl)
      try simp only [List.getElem_toArray, List.getElem_cons_succ, List.getElem_cons_zero, Act.put, List.setIfInBounds_toArray, List.set_cons_zero, List.set_cons_succ]
      refine wpAnyH_take (i := 11) (v := ?_) rfl (by kernel_rfl) (by kernel_rfl) (by kernel_rfl) CalmP.onlyN_panic (Or.inl ⟨by kernel_rfl, ?_⟩) (by assumption) ?_
      rotate_left
      · (intro w_ hSw; go_simp; try with_reducible rfl)
      try simp only [List.getElem_toArray, List.getElem_cons_succ, List.getElem_cons_zero, Act.put, List.setIfInBounds_toArray, List.set_cons_zero, List.set_cons_succ]
      refine wpAnyH_ready (rs := [12]) (by kernel_rfl) (by simp) ?_
      refine AllReadyH.cons rfl (fun K_ hK => ?_) AllReadyH.nil
      go_simp
      refine hK.out _ _ trivial (fun hHeld => ?_)
      clear hK K_
      try simp only [List.getElem_toArray, List.getElem_cons_succ, List.getElem_cons_zero, Act.put, List.setIfInBounds_toArray, List.set_cons_zero, List.set_cons_succ]
      refine wpAnyH_done (by kernel_rfl) ?_ _
      refine CalmP.onlyN_here (hQ.out _ _ ?_)
      clear hQ K0
      have bf6 : Below f w w6 := (b_n.mono (by omega)).trans (z6.mono (by omega))
      have bf7 : Below f w (w6.setCell ⟨f, 0, none⟩ (.slice A6 (n0 + 1) c6)) := bf6.setCell (p := ⟨f, 0, none⟩) (Nat.le_refl _) _
      have i7 : IsRd (w6.setCell ⟨f, 0, none⟩ (.slice A6 (n0 + 1) c6)) B r q3.2 := i_6.far hfl hBr
      have file7 : IsFile (w6.setCell ⟨f, 0, none⟩ (.slice A6 (n0 + 1) c6)) f (F.put (.rt q1.1 q2.1 q3.1)) := IsFile.putRt bxN rwN q1.1 q2.1 q3.1 (by rw [← HN0.out, ← HS1.out, ← HS2.out]; exact ow6) (by rw [← HN0.out]; exact g6) (by rw [← HN0.out]; exact f6)
      generalize w6.setCell ⟨f, 0, none⟩ (.slice A6 (n0 + 1) c6) = w7 at bf7 i7 file7 ⊢
      clear bxN bx6 rwN oN ow6 g6 f6 k6 z6f i_6 i_n rn tl b_n
      obtain ⟨A_, n_, c_, k0, k1, hnl⟩ := i7.ends
      have hend := Scr.rt_line hw q1 q2 q3 (by rw [HQ1.out, HQ0.out]) HQ2.out HQ3.out
      rcases hend with ⟨⟨g1, g2⟩, hl⟩ | ⟨hg, hl⟩
      · rw [g1] at k1
        have hn0 : n_ = 0 := by rw [hnl, g2]; rfl
        subst hn0
        have HL := hide hl
        clear hl hnl g1 g2
        go_wp2_with fail
        go_ret
        exact ⟨bf7, .inl ⟨_, HL.out, rfl, file7⟩⟩
      · have HL := hide hl
        by_cases hbad : q3.2.2 = true
        · rw [hbad] at k1
          clear hl hnl hg hbad
          go_wp2_with fail
          go_ret
          exact ⟨bf7, .inr ⟨HL.out, rfl⟩⟩
        · have hb0 : q3.2.2 = false := by simpa using hbad
          rw [hb0] at k1
          have hnp : (0 : Int) < (n_ : Int) := by
            rcases hx : q3.2.1 with _ | ⟨y, ys⟩
            · exact absurd ⟨hb0, hx⟩ hg
            · rw [hnl, hx]; simp
          clear hl hnl hg hbad hb0
          go_wp2_with fail
          go_ret
          exact ⟨bf7, .inr ⟨HL.out, rfl⟩⟩
    · go_simp
      refine hK.out _ _ trivial (fun hHeld => ?_)
      clear hK K_
      try simp only [List.getElem_toArray, List.getElem_cons_succ, List.getElem_cons_zero, Act.put, List.setIfInBounds_toArray, List.set_cons_zero, List.set_cons_succ]
      refine wpAnyH_ready (rs := [5]) (by kernel_rfl) (by simp) ?_
      refine AllReadyH.cons rfl (fun K_ hK => ?_) AllReadyH.nil
      go_simp
      refine hK.out _ _ trivial (fun hHeld => ?_)
      clear hK K_
      try simp only [List.getElem_toArray, List.getElem_cons_succ, List.getElem_cons_zero, Act.put, List.setIfInBounds_toArray, List.set_cons_zero, List.set_cons_succ]
      refine wpAnyH_ready (rs := [8]) (by kernel_rfl) (by simp) ?_
      refine AllReadyH.cons rfl (fun K_ hK => ?_) AllReadyH.nil
      have i_n := i_u9.below (by rw [hgl]; exact tl)
      have b_n : Below B w wn := b_u9.trans (tl.mono (by omega))
      have bxN : FBox wn f F _ vT vA := HBOX.out.below2 b_n hfl
      have rwN := HROW.out.below (by rw [hB]; exact b_n)
      have oN := rwN.1
      rw [← HN0.out] at oN
      have hfN : f + 1 ≤ wn.heap.size := by have := b_n.size; omega
      clear kF zF kF2 hwn hgl hgl'
      refine step_append_ow _ rfl _ _ _ rfl (f + 1) _ i0 _ 3 40 Tryz.underlying39 hi0 hz0 hz1 hz2 rfl (by omega) (.slice A0 n0 c0_) n0 _ rfl _ (some ⟨gl, 0, none⟩) 1 _ _ rfl oN rn (by simp [Value.oneCell']) (by unfold maxLen; omega) (by omega) hfN ?_
      intro v6 w6 ow6 z6 g6 f6
      obtain ⟨A6, c6, rfl, -, -⟩ := ow6.shape
      have bx6 := Box.grown2 bxN g6 (by intro e; have := (oN.lt f e).1; omega)
      have i_6 := i_n.grown g6 (fun x hx => by have := (HROW.out.1.lt x (by rw [← HN0.out]; exact hx)).2; omega) hBr
      obtain ⟨k6, z6f⟩ := FBox.at_ bx6 0 rfl
      refine hK.out _ _ trivial (fun hHeld => ?_)
      clear hK K_
      try simp only [List.getElem_toArray, List.getElem_cons_succ, List.getElem_cons_zero, Act.put, List.setIfInBounds_toArray, List.set_cons_zero, List.set_cons_succ]
      refine wpAnyH_take (i := 9) (v := ?_) rfl (by kernel_rfl) (by kernel_rfl) (by kernel_rfl) CalmP.onlyN_panic (Or.inl ⟨by kernel_rfl, ?_⟩) (by assumption) ?_
      rotate_left
      · (intro w_ hSw; go_simp; try with_reducible rfl)
      try simp only [List.getElem_toArray, List.getElem_cons_succ, List.getElem_cons_zero, Act.put, List.setIfInBounds_toArray, List.set_cons_zero, List.set_cons_succ]
      refine wpAnyH_take (i := 10) (v := ?_) rfl (by kernel_rfl) (by kernel_rfl) (by kernel_rfl) CalmP.onlyN_panic (Or.inl ⟨by kernel_rfl, ?_⟩) (by assumption) ?_
      rotate_left
      · (intro w_ hSw; go_simp; try with_reducible rfl)
      try simp only [List.getElem_toArray, List.getElem_cons_succ, List.getElem_cons_zero, Act.put, List.setIfInBounds_toArray, List.set_cons_zero, List.set_cons_succ]
      refine wpAnyH_take (i := 11) (v := ?_) rfl (by kernel_rfl) (by kernel_rfl) (by kernel_rfl) CalmP.onlyN_panic (Or.inl ⟨by kernel_rfl, ?_⟩) (by assumption) ?_
      rotate_left
      · (intro w_ hSw; go_simp; try with_reducible rfl)
      try simp only [List.getElem_toArray, List.getElem_cons_succ, List.getElem_cons_zero, Act.put, List.setIfInBounds_toArray, List.set_cons_zero, List.set_cons_succ]
      refine wpAnyH_ready (rs := [12]) (by kernel_rfl) (by simp) ?_
      refine AllReadyH.cons rfl (fun K_ hK => ?_) AllReadyH.nil
      go_simp
      refine hK.out _ _ trivial (fun hHeld => ?_)
      clear hK K_
      try simp only [List.getElem_toArray, List.getElem_cons_succ, List.getElem_cons_zero, Act.put, List.setIfInBounds_toArray, List.set_cons_zero, List.set_cons_succ]
      refine wpAnyH_done (by kernel_rfl) ?_ _
      refine CalmP.onlyN_here (hQ.out _ _ ?_)
      clear hQ K0
      have bf6 : Below f w w6 := (b_n.mono (by omega)).trans (z6.mono (by omega))
      have bf7 : Below f w (w6.setCell ⟨f, 0, none⟩ (.slice A6 (n0 + 1) c6)) := bf6.setCell (p := ⟨f, 0, none⟩) (Nat.le_refl _) _
      have i7 : IsRd (w6.setCell ⟨f, 0, none⟩ (.slice A6 (n0 + 1) c6)) B r q3.2 := i_6.far hfl hBr
      have file7 : IsFile (w6.setCell ⟨f, 0, none⟩ (.slice A6 (n0 + 1) c6)) f (F.put (.rt q1.1 q2.1 q3.1)) := IsFile.putRt bxN rwN q1.1 q2.1 q3.1 (by rw [← HN0.out, ← HS1.out, ← HS2.out]; exact ow6) (by rw [← HN0.out]; exact g6) (by rw [← HN0.out]; exact f6)
      generalize w6.setCell ⟨f, 0, none⟩ (.slice A6 (n0 + 1) c6) = w7 at bf7 i7 file7 ⊢
      clear bxN bx6 rwN oN ow6 g6 f6 k6 z6f i_6 i_n rn tl b_n
      obtain ⟨A_, n_, c_, k0, k1, hnl⟩ := i7.ends
      have hend := Scr.rt_line hw q1 q2 q3 (by rw [HQ1.out, HQ0.out]) HQ2.out HQ3.out
      rcases hend with ⟨⟨g1, g2⟩, hl⟩ | ⟨hg, hl⟩
      · rw [g1] at k1
        have hn0 : n_ = 0 := by rw [hnl, g2]; rfl
        subst hn0
        have HL := hide hl
        clear hl hnl g1 g2
        go_wp2_with fail
        go_ret
        exact ⟨bf7, .inl ⟨_, HL.out, rfl, file7⟩⟩
      · have HL := hide hl
        by_cases hbad : q3.2.2 = true
        · rw [hbad] at k1
          clear hl hnl hg hbad
          go_wp2_with fail
          go_ret
          exact ⟨bf7, .inr ⟨HL.out, rfl⟩⟩
        · have hb0 : q3.2.2 = false := by simpa using hbad
          rw [hb0] at k1
          have hnp : (0 : Int) < (n_ : Int) := by
            rcases hx : q3.2.1 with _ | ⟨y, ys⟩
            · exact absurd ⟨hb0, hx⟩ hg
            · rw [hnl, hx]; simp
          clear hl hnl hg hbad hb0
          go_wp2_with fail
          go_ret
          exact ⟨bf7, .inr ⟨HL.out, rfl⟩⟩
set_option maxRecDepth 100000 in
set_option maxHeartbeats 3200000 in
theorem scrline_ac (f : Nat) (F : Scr.Fl) (s : ByteArray) (ws : List (List UInt8)) (w : World) (h : IsFile w f F) (hs : s.size ≤ 16777216) (hG : ∀ W, Below f w W → Glo W) (hn : F.rts.length ≤ 16777216 ∧ F.tys.length ≤ 16777216 ∧ F.acs.length ≤ 16777216) (hw : Scr.wordsL s.data.toList = Scr.wAc :: ws) :
    Calls Tryz.prog 104 #[.pointer (some ⟨f, 0, none⟩), .string s] w (LinePost w f F s.data.toList) := by
  have hfl := h.lt
  obtain ⟨vR, vT, vA, ps, bx, rw_⟩ := h
  have sp := scrsplit_any s w (by omega) (hG w (Below.refl _ _))
  have hsml := words_small s.data.toList
  rw [hw] at sp hsml
  have hsz : s.data.toList.length = s.size := by rw [Array.length_toList]; rfl
  have hws : ∀ x ∈ ws, x.length ≤ 16777216 := fun x hx => by have := hsml x (by simp [hx]); omega
  have hws2 : ∀ x ∈ ws, x.length ≤ 281474976710656 := fun x hx => by have := hws x hx; omega
  obtain ⟨B, hB⟩ : ∃ B, w.heap.size = B := ⟨_, rfl⟩
  rw [hB] at sp hfl
  obtain ⟨lw, hlw⟩ : ∃ lw, lw = Scr.wAc :: ws := ⟨_, rfl⟩
  rw [← hlw] at sp
  have HG := hide hG
  have HLW := hide hlw
  have HSML := hide hsml
  clear hG hsml hsz hlw
  obtain ⟨bw, hbw⟩ : ∃ bw : ByteArray, bw = ⟨Scr.wAc.toArray⟩ := ⟨_, rfl⟩
  have c0 : (bw.toList == [99, 111, 110, 102, 105, 103]) = false := by rw [hbw, ByteArray.toList_eq]; rfl
  have c1 : (bw.toList == [114, 111, 117, 116, 101]) = false := by rw [hbw, ByteArray.toList_eq]; rfl
  have c2 : (bw.toList == [116, 121, 112, 101]) = false := by rw [hbw, ByteArray.toList_eq]; rfl
  have c3 : (bw.toList == [97, 99, 116]) = true := by rw [hbw, ByteArray.toList_eq]; rfl
  have HBW := hide hbw
  clear hbw
  go_enter Tryz.func104, Tryz.ntmps104
  go_wp2_with fail
  refine sp.mono ?_
  rintro e w1 ⟨a, n, rfl, hn1, hn2, hab, rd1, b1, hz1⟩
  obtain ⟨r, hr⟩ : ∃ r, w1.heap.size = r := ⟨_, rfl⟩
  have hBr : B ≤ r := by rw [← hr, hz1]; omega
  have hfr : f ≤ r := by omega
  rw [hr] at rd1
  have bx2 := Box.new w1 #[.slice (some a) n n, .bool false] 238
  rw [hr] at bx2
  have b2 : Below B w (w1.alloc (.cells #[.slice (some a) n n, .bool false] 238)) := b1.alloc (by omega) _
  have i2 : IsRd (w1.alloc (.cells #[.slice (some a) n n, .bool false] 238)) B r (lw, false) := by
    subst hn1
    exact ⟨some a, _, bx2, Nat.le_refl _, hn2, rd1.below (by rw [← hr]; exact (Below.refl _ _).alloc (Nat.le_refl _) _), fun x e => by cases e; omega⟩
  clear sp hz1 hn1 hn2 rd1 bx2 hab b1
  go_upto_region 3 with (fail)
  generalize w1.alloc (.cells #[.slice (some a) n n, .bool false] 238) = w2 at b2 i2 ⊢
  have nx := scrnext_any B r _ w2 i2
  rw [HLW.out] at nx
  simp only [List.headD_cons, List.tail_cons, List.isEmpty_cons, Bool.or_false] at nx
  rw [← HBW.out] at nx
  have i2lt := i2.lt
  clear i2
  go_wp2_with fail
  refine nx.mono ?_
  rintro e w3 ⟨rfl, i3, g23⟩
  have b23 : Below r w2 w3 := below_gr i2lt g23
  have b3 : Below B w w3 := b2.trans (b23.mono hBr)
  have bf3 : Below f w w3 := b3.mono (by omega)
  clear nx b23 b2 hr i2lt g23
  obtain ⟨q0, hq0⟩ : ∃ q : Nat × (List (List UInt8) × Bool), q = (0, (ws, false)) := ⟨_, rfl⟩
  have hs0 : ∀ x ∈ q0.2.1, x.length ≤ 16777216 := by rw [hq0]; exact hws
  rw [show (ws, false) = q0.2 by rw [hq0]] at i3
  have HQ0 := hide hq0
  clear hq0
  obtain ⟨n0, hn0⟩ : ∃ n, n = F.acs.length := ⟨_, rfl⟩
  obtain ⟨i0, hi0, hz0, hz1, hz2⟩ := info_parts infoAcF
  have HBOX := hide bx
  have HROW := hide rw_
  obtain ⟨q1, hq1⟩ : ∃ q, q = Scr.rdNum q0.2 := ⟨_, rfl⟩
  have hs1 : ∀ x ∈ q1.2.1, x.length ≤ 16777216 := by rw [hq1]; exact fun x hx => hs0 x (rdNum_sub _ x hx)
  obtain ⟨q2, hq2⟩ : ∃ q, q = Scr.rdNum q1.2 := ⟨_, rfl⟩
  have hs2 : ∀ x ∈ q2.2.1, x.length ≤ 16777216 := by rw [hq2]; exact fun x hx => hs1 x (rdNum_sub _ x hx)
  obtain ⟨q3, hq3⟩ : ∃ q, q = Scr.rdNum q2.2 := ⟨_, rfl⟩
  have hs3 : ∀ x ∈ q3.2.1, x.length ≤ 16777216 := by rw [hq3]; exact fun x hx => hs2 x (rdNum_sub _ x hx)
  obtain ⟨q4, hq4⟩ : ∃ q, q = Scr.rdByt q3.2 := ⟨_, rfl⟩
  have hs4 : ∀ x ∈ q4.2.1, x.length ≤ 16777216 := by rw [hq4]; exact fun x hx => hs3 x (rdByt_sub _ x hx)
  have HQ1 := hide hq1
  have HQ2 := hide hq2
  have HQ3 := hide hq3
  have HQ4 := hide hq4
  clear hq1 hq2 hq3 hq4
  have hn00 : n0 ≤ 16777216 := by rw [hn0]; exact hn.2.2
  have HN0 := hide hn0
  clear bx rw_ hn0 hn
  have b_w3 := b3
  have i_w3 := i3
  have cl1 := scrnum_any B r q0.2 w3 i_w3 (fun x hx => by have := hs0 x hx; omega) (fun W b => HG.out W ((b_w3.mono (Nat.le_of_lt hfl)).trans (b.mono hfr)))
  rw [← HQ1.out] at cl1
  go_wp2_with fail
  refine cl1.mono ?_
  rintro e w4 ⟨rfl, i_w4, g_w4⟩
  clear cl1
  have b_w4 : Below B w w4 := b_w3.trans ((below_gr i_w3.lt g_w4).mono hBr)
  obtain ⟨gx, hgx⟩ : ∃ g, w4.heap.size = g := ⟨_, rfl⟩
  have hrx : r < gx := by have := i_w4.lt; omega
  have bb := Box.new w4 #[.int .i64 (q1.1 : Nat), .int .i64 0, .int .i64 0, .slice none 0 0] 24
  rw [hgx] at bb
  have tb : Below gx w4 (w4.alloc (.cells #[.int .i64 (q1.1 : Nat), .int .i64 0, .int .i64 0, .slice none 0 0] 24)) := (Below.refl _ _).alloc (Nat.le_of_eq hgx.symm) _
  go_upto_region 23 with (fail)
  generalize w4.alloc (.cells #[.int .i64 (q1.1 : Nat), .int .i64 0, .int .i64 0, .slice none 0 0] 24) = w5 at bb tb ⊢
  have i_w5 := i_w4.below (by rw [hgx]; exact tb)
  have b_w5 : Below B w w5 := b_w4.trans (tb.mono (by omega))
  clear hgx
  have cl2 := scrnum_any B r q1.2 w5 i_w5 (fun x hx => by have := hs1 x hx; omega) (fun W b => HG.out W ((b_w5.mono (Nat.le_of_lt hfl)).trans (b.mono hfr)))
  rw [← HQ2.out] at cl2
  go_wp2_with fail
  refine cl2.mono ?_
  rintro e u6 ⟨rfl, i_u6, g_u6⟩
  clear cl2
  have b_u6 : Below B w u6 := b_w5.trans ((below_gr i_w5.lt g_u6).mono hBr)
  have bb := Box.grown2 bb g_u6 (by intro e; have := Option.some.inj e; omega)
  obtain ⟨kx, zx⟩ := bb.2 1 _ rfl
  go_upto_region 24 with (fail)
  replace bb := Box.set bb (k := 1) (x := .int .i64 (q2.1 : Nat)) (by simp)
  simp only [List.set_cons_succ, List.set_cons_zero] at bb
  have i_u7 := i_u6.above (g := gx) (k := 1) (x := .int .i64 (q2.1 : Nat)) hrx
  have b_u7 := b_u6.setCell (p := ⟨gx, 1, none⟩) (show B ≤ gx by omega) (.int .i64 (q2.1 : Nat))
  generalize u6.setCell ⟨gx, 1, none⟩ (.int .i64 (q2.1 : Nat)) = u7 at bb i_u7 b_u7 ⊢
  clear kx zx g_u6
  have cl3 := scrnum_any B r q2.2 u7 i_u7 (fun x hx => by have := hs2 x hx; omega) (fun W b => HG.out W ((b_u7.mono (Nat.le_of_lt hfl)).trans (b.mono hfr)))
  rw [← HQ3.out] at cl3
  go_wp2_with fail
  refine cl3.mono ?_
  rintro e u8 ⟨rfl, i_u8, g_u8⟩
  clear cl3
  have b_u8 : Below B w u8 := b_u7.trans ((below_gr i_u7.lt g_u8).mono hBr)
  have bb := Box.grown2 bb g_u8 (by intro e; have := Option.some.inj e; omega)
  obtain ⟨kx, zx⟩ := bb.2 2 _ rfl
  go_upto_region 25 with (fail)
  replace bb := Box.set bb (k := 2) (x := .int .i64 (q3.1 : Nat)) (by simp)
  simp only [List.set_cons_succ, List.set_cons_zero] at bb
  have i_u9 := i_u8.above (g := gx) (k := 2) (x := .int .i64 (q3.1 : Nat)) hrx
  have b_u9 := b_u8.setCell (p := ⟨gx, 2, none⟩) (show B ≤ gx by omega) (.int .i64 (q3.1 : Nat))
  generalize u8.setCell ⟨gx, 2, none⟩ (.int .i64 (q3.1 : Nat)) = u9 at bb i_u9 b_u9 ⊢
  clear kx zx g_u8
  have hgx9 := bb.1
  have cl4 := scrbyt_any B r q3.2 u9 i_u9 hs3
  rw [← HQ4.out] at cl4
  go_wp2_with fail
  refine cl4.mono ?_
  rintro e u10 ⟨A4, m4, c4, rfl, hm4, hmc4, hcm4, rd4, hA4, i_u10, g_u10⟩
  have HM4 := hide hm4
  clear cl4 hm4
  have b_u10 : Below B w u10 := b_u9.trans ((below_gr i_u9.lt g_u10).mono hBr)
  have hA5 : ∀ a, A4 = some a → gx < a.block ∧ a.block < u10.heap.size := fun a e => ⟨by have := (hA4 a e).1; omega, (hA4 a e).2⟩
  have rd5 := Rd.other (k := 3) (x := .slice A4 m4 c4) rd4 (fun a e => by have := (hA5 a e).1; omega : ∀ a, A4 = some a → a.block ≠ gx)
  have hz10 : (u10.setCell ⟨gx, 3, none⟩ (.slice A4 m4 c4)).heap.size = u10.heap.size := setsize _ _ _
  rw [← hz10] at rd5 hA5
  clear rd4 hA4 hz10
  have bb := Box.grown2 bb g_u10 (by intro e; have := Option.some.inj e; omega)
  obtain ⟨kx, zx⟩ := bb.2 3 _ rfl
  go_upto_region 26 with (fail)
  replace bb := Box.set bb (k := 3) (x := .slice A4 m4 c4) (by simp)
  simp only [List.set_cons_succ, List.set_cons_zero] at bb
  have i_u11 := i_u10.above (g := gx) (k := 3) (x := .slice A4 m4 c4) hrx
  have b_u11 := b_u10.setCell (p := ⟨gx, 3, none⟩) (show B ≤ gx by omega) (.slice A4 m4 c4)
  generalize u10.setCell ⟨gx, 3, none⟩ (.slice A4 m4 c4) = u11 at bb i_u11 b_u11 rd5 hA5 ⊢
  clear kx zx g_u10
  obtain ⟨A0, c0_, rfl, -, -⟩ := HROW.out.2.2.1.shape
  have bxF : FBox u11 f F vR vT _ := HBOX.out.below2 b_u11 hfl
  have rwF := HROW.out.below (by rw [hB]; exact b_u11)
  obtain ⟨kF, zF⟩ := bxF.at_ 7 rfl
  rw [← HN0.out] at kF
  have x0 := (bb.2 0 _ rfl).1
  have x1 := (bb.2 1 _ rfl).1
  have x2 := (bb.2 2 _ rfl).1
  have x3 := (bb.2 3 _ rfl).1
  obtain ⟨gl, hgl⟩ : ∃ g, u11.heap.size = g := ⟨_, rfl⟩
  have rn := rd_new u11.drew #[.int .i64 (q1.1 : Nat), .int .i64 (q2.1 : Nat), .int .i64 (q3.1 : Nat), .slice A4 m4 c4] 24 4 1 rfl
  have hgl' : u11.drew.heap.size = gl := hgl
  have tl : Below gl u11 (u11.drew.alloc (.cells #[.int .i64 (q1.1 : Nat), .int .i64 (q2.1 : Nat), .int .i64 (q3.1 : Nat), .slice A4 m4 c4] 24)) := ((show Below gl u11 u11.drew from below_drewN (k := 1) (Below.refl _ _))).trans ((Below.refl _ _).alloc (Nat.le_of_eq hgl'.symm) _)
  rw [hgl'] at rn
  have kF2 := cell_past u11.drew (.cells #[.int .i64 (q1.1 : Nat), .int .i64 (q2.1 : Nat), .int .i64 (q3.1 : Nat), .slice A4 m4 c4] 24) (show u11.drew.cell? _ = _ from kF)
  obtain ⟨wn, hwn⟩ : ∃ x, u11.drew.alloc (.cells #[.int .i64 (q1.1 : Nat), .int .i64 (q2.1 : Nat), .int .i64 (q3.1 : Nat), .slice A4 m4 c4] 24) = x := ⟨_, rfl⟩
  rw [hwn] at rn tl kF2
  have hrl : r < gl := by have := i_u11.lt; omega
  refine CalmP.hideN (fun K0 hQ => ?_)
  refine wp_region_held_drew (S := (fun W : World => True)) (by kernel_rfl) trivial (fun hHeld => ?_)
  refine wpAnyH_take (i := 0) (v := ?_) rfl (by kernel_rfl) (by kernel_rfl) (by kernel_rfl) CalmP.onlyN_panic (Or.inl ⟨by kernel_rfl, ?_⟩) (by assumption) ?_
  rotate_left
  · (intro w_ hSw; go_simp; try with_reducible rfl)
  try simp only [List.getElem_toArray, List.getElem_cons_succ, List.getElem_cons_zero, Act.put, List.setIfInBounds_toArray, List.set_cons_zero, List.set_cons_succ]
  refine wpAnyH_take (i := 1) (v := ?_) rfl (by kernel_rfl) (by kernel_rfl) (by kernel_rfl) CalmP.onlyN_panic (Or.inl ⟨by kernel_rfl, ?_⟩) (by assumption) ?_
  rotate_left
  · (intro w_ hSw; go_simp; try with_reducible rfl)
  try simp only [List.getElem_toArray, List.getElem_cons_succ, List.getElem_cons_zero, Act.put, List.setIfInBounds_toArray, List.set_cons_zero, List.set_cons_succ]
  refine wpAnyH_take (i := 2) (v := ?_) rfl (by kernel_rfl) (by kernel_rfl) (by kernel_rfl) CalmP.onlyN_panic (Or.inl ⟨by kernel_rfl, ?_⟩) (by assumption) ?_
  rotate_left
  · (intro w_ hSw; go_simp; try with_reducible rfl)
  try simp only [List.getElem_toArray, List.getElem_cons_succ, List.getElem_cons_zero, Act.put, List.setIfInBounds_toArray, List.set_cons_zero, List.set_cons_succ]
  refine wpAnyH_take (i := 3) (v := ?_) rfl (by kernel_rfl) (by kernel_rfl) (by kernel_rfl) CalmP.onlyN_panic (Or.inl ⟨by kernel_rfl, ?_⟩) (by assumption) ?_
  rotate_left
  · (intro w_ hSw; go_simp; try with_reducible rfl)
  try simp only [List.getElem_toArray, List.getElem_cons_succ, List.getElem_cons_zero, Act.put, List.setIfInBounds_toArray, List.set_cons_zero, List.set_cons_succ]
  refine wpAnyH_ready (rs := [4, 5]) (by kernel_rfl) (by simp) ?_
  refine AllReadyH.cons rfl (fun K_ hK => ?_) (AllReadyH.cons rfl (fun K_ hK => ?_) AllReadyH.nil)
  · go_simp
    refine hK.out _ _ trivial (fun hHeld => ?_)
    clear hK K_
    try simp only [List.getElem_toArray, List.getElem_cons_succ, List.getElem_cons_zero, Act.put, List.setIfInBounds_toArray, List.set_cons_zero, List.set_cons_succ]
    refine wpAnyH_ready (rs := [5]) (by kernel_rfl) (by simp) ?_
    refine AllReadyH.cons rfl (fun K_ hK => ?_) AllReadyH.nil
    go_simp
    refine hK.out _ _ trivial (fun hHeld => ?_)
    clear hK K_
    try simp only [List.getElem_toArray, List.getElem_cons_succ, List.getElem_cons_zero, Act.put, List.setIfInBounds_toArray, List.set_cons_zero, List.set_cons_succ]
    refine wpAnyH_ready (rs := [6]) (by kernel_rfl) (by simp) ?_
    refine AllReadyH.cons rfl (fun K_ hK => ?_) AllReadyH.nil
    go_simp
    refine hK.out _ _ trivial (fun hHeld => ?_)
    clear hK K_
    try simp only [List.getElem_toArray, List.getElem_cons_succ, List.getElem_cons_zero, Act.put, List.setIfInBounds_toArray, List.set_cons_zero, List.set_cons_succ]
    refine wpAnyH_ready (rs := [7]) (by kernel_rfl) (by simp) ?_
    refine AllReadyH.cons rfl (fun K_ hK => ?_) AllReadyH.nil
    have i_n := i_u11.below (by rw [hgl]; exact tl)
    have b_n : Below B w wn := b_u11.trans (tl.mono (by omega))
    have bxN : FBox wn f F vR vT _ := HBOX.out.below2 b_n hfl
    have rwN := HROW.out.below (by rw [hB]; exact b_n)
    have oN := rwN.2.2.1
    rw [← HN0.out] at oN
    have hfN : f + 1 ≤ wn.heap.size := by have := b_n.size; omega
    have rdN := (rd5.below (by rw [hgl]; exact tl)).up tl.size
    clear kF zF kF2 hwn hgl hgl'
    refine step_append_ow _ rfl _ _ _ rfl (f + 1) _ i0 _ 4 48 Tryz.underlying123 hi0 hz0 hz1 hz2 rfl (by omega) (.slice A0 n0 c0_) n0 _ rfl _ (some ⟨gl, 0, none⟩) 1 _ _ rfl oN rn (by simp [Value.oneCell']) (by unfold maxLen; omega) (by omega) hfN ?_
    intro v6 w6 ow6 z6 g6 f6
    obtain ⟨A6, c6, rfl, -, -⟩ := ow6.shape
    have bx6 := Box.grown2 bxN g6 (by intro e; have := (oN.lt f e).1; omega)
    have i_6 := i_n.grown g6 (fun x hx => by have := (HROW.out.2.2.1.lt x (by rw [← HN0.out]; exact hx)).2; omega) hBr
    obtain ⟨k6, z6f⟩ := FBox.at_ bx6 7 rfl
    refine hK.out _ _ trivial (fun hHeld => ?_)
    clear hK K_
    try simp only [List.getElem_toArray, List.getElem_cons_succ, List.getElem_cons_zero, Act.put, List.setIfInBounds_toArray, List.set_cons_zero, List.set_cons_succ]
    refine wpAnyH_take (i := 8) (v := ?_) rfl (by kernel_rfl) (by kernel_rfl) (by kernel_rfl) CalmP.onlyN_panic (Or.inl ⟨by kernel_rfl, ?_⟩) (by assumption) ?_
    rotate_left
    · (intro w_ hSw; go_simp; try with_reducible rfl)
    try simp only [List.getElem_toArray, List.getElem_cons_succ, List.getElem_cons_zero, Act.put, List.setIfInBounds_toArray, List.set_cons_zero, List.set_cons_succ]
    refine wpAnyH_take (i := 9) (v := ?_) rfl (by kernel_rfl) (by kernel_rfl) (by kernel_rfl) CalmP.onlyN_panic (Or.inl ⟨by kernel_rfl, ?_⟩) (by assumption) ?_
    rotate_left
    · (intro w_ hSw; go_simp; try with_reducible rfl)
    try simp only [List.getElem_toArray, List.getElem_cons_succ, List.getElem_cons_zero, Act.put, List.setIfInBounds_toArray, List.set_cons_zero, List.set_cons_succ]
    refine wpAnyH_ready (rs := [10]) (by kernel_rfl) (by simp) ?_
    refine AllReadyH.cons rfl (fun K_ hK => ?_) AllReadyH.nil
    go_simp
    refine hK.out _ _ trivial (fun hHeld => ?_)
    clear hK K_
    try simp only [List.getElem_toArray, List.getElem_cons_succ, List.getElem_cons_zero, Act.put, List.setIfInBounds_toArray, List.set_cons_zero, List.set_cons_succ]
    refine wpAnyH_done (by kernel_rfl) ?_ _
    refine CalmP.onlyN_here (hQ.out _ _ ?_)
    clear hQ K0
    have bf6 : Below f w w6 := (b_n.mono (by omega)).trans (z6.mono (by omega))
    have bf7 : Below f w (w6.setCell ⟨f, 7, none⟩ (.slice A6 (n0 + 1) c6)) := bf6.setCell (p := ⟨f, 7, none⟩) (Nat.le_refl _) _
    have i7 : IsRd (w6.setCell ⟨f, 7, none⟩ (.slice A6 (n0 + 1) c6)) B r q4.2 := i_6.far hfl hBr
    have hdat : Dat wn f [vR.ownBlock, vT.ownBlock, (Value.slice A0 F.acs.length c0_).ownBlock] q4.1 (A4, c4) := by
      have tl' := tl
      have hsz := tl.size
      refine ⟨by rw [← HM4.out]; exact hmc4, hcm4, by rw [← HM4.out]; exact rdN, fun a e => ⟨by have := (hA5 a e).1; omega, by have := (hA5 a e).2; omega, ?_⟩⟩
      have h1 := (hA5 a e).1
      intro hm
      simp only [List.mem_cons, List.not_mem_nil, or_false] at hm
      rcases hm with hm | hm | hm
      · have := (HROW.out.1.lt _ hm.symm).2; omega
      · have := (HROW.out.2.1.lt _ hm.symm).2; omega
      · have := (HROW.out.2.2.1.lt _ hm.symm).2; omega
    have file7 : IsFile (w6.setCell ⟨f, 7, none⟩ (.slice A6 (n0 + 1) c6)) f (F.put (.ac q1.1 q2.1 q3.1 q4.1)) := IsFile.putAc (p := (A4, c4)) bxN rwN q1.1 q2.1 q3.1 q4.1 hdat (by rw [← HN0.out, ← HM4.out]; exact ow6) (by rw [← HN0.out]; exact g6) (by rw [← HN0.out]; exact f6)
    generalize w6.setCell ⟨f, 7, none⟩ (.slice A6 (n0 + 1) c6) = w7 at bf7 i7 file7 ⊢
    clear bxN bx6 rwN oN ow6 g6 f6 k6 z6f i_6 i_n rn tl b_n
    obtain ⟨A_, n_, c_, k0, k1, hnl⟩ := i7.ends
    have hend := Scr.ac_line hw q1 q2 q3 q4 (by rw [HQ1.out, HQ0.out]) HQ2.out HQ3.out HQ4.out
    rcases hend with ⟨⟨g1, g2⟩, hl⟩ | ⟨hg, hl⟩
    · rw [g1] at k1
      have hn0 : n_ = 0 := by rw [hnl, g2]; rfl
      subst hn0
      have HL := hide hl
      clear hl hnl g1 g2
      go_wp2_with fail
      go_ret
      exact ⟨bf7, .inl ⟨_, HL.out, rfl, file7⟩⟩
    · have HL := hide hl
      by_cases hbad : q4.2.2 = true
      · rw [hbad] at k1
        clear hl hnl hg hbad
        go_wp2_with fail
        go_ret
        exact ⟨bf7, .inr ⟨HL.out, rfl⟩⟩
      · have hb0 : q4.2.2 = false := by simpa using hbad
        rw [hb0] at k1
        have hnp : (0 : Int) < (n_ : Int) := by
          rcases hx : q4.2.1 with _ | ⟨y, ys⟩
          · exact absurd ⟨hb0, hx⟩ hg
          · rw [hnl, hx]; simp
        clear hl hnl hg hbad hb0
        go_wp2_with fail
        go_ret
        exact ⟨bf7, .inr ⟨HL.out, rfl⟩⟩
  · go_simp
    refine hK.out _ _ trivial (fun hHeld => ?_)
    clear hK K_
    try simp only [List.getElem_toArray, List.getElem_cons_succ, List.getElem_cons_zero, Act.put, List.setIfInBounds_toArray, List.set_cons_zero, List.set_cons_succ]
    refine wpAnyH_ready (rs := [4, 6]) (by kernel_rfl) (by simp) ?_
    refine AllReadyH.cons rfl (fun K_ hK => ?_) (AllReadyH.cons rfl (fun K_ hK => ?_) AllReadyH.nil)
    · go_simp
      refine hK.out _ _ trivial (fun hHeld => ?_)
      clear hK K_
      try simp only [List.getElem_toArray, List.getElem_cons_succ, List.getElem_cons_zero, Act.put, List.setIfInBounds_toArray, List.set_cons_zero, List.set_cons_succ]
      refine wpAnyH_ready (rs := [6]) (by kernel_rfl) (by simp) ?_
      refine AllReadyH.cons rfl (fun K_ hK => ?_) AllReadyH.nil
      go_simp
      refine hK.out _ _ trivial (fun hHeld => ?_)
      clear hK K_
      try simp only [List.getElem_toArray, List.getElem_cons_succ, List.getElem_cons_zero, Act.put, List.setIfInBounds_toArray, List.set_cons_zero, List.set_cons_succ]
      refine wpAnyH_ready (rs := [7]) (by kernel_rfl) (by simp) ?_
      refine AllReadyH.cons rfl (fun K_ hK => ?_) AllReadyH.nil
      have i_n := i_u11.below (by rw [hgl]; exact tl)
      have b_n : Below B w wn := b_u11.trans (tl.mono (by omega))
      have bxN : FBox wn f F vR vT _ := HBOX.out.below2 b_n hfl
      have rwN := HROW.out.below (by rw [hB]; exact b_n)
      have oN := rwN.2.2.1
      rw [← HN0.out] at oN
      have hfN : f + 1 ≤ wn.heap.size := by have := b_n.size; omega
      have rdN := (rd5.below (by rw [hgl]; exact tl)).up tl.size
      clear kF zF kF2 hwn hgl hgl'
      refine step_append_ow _ rfl _ _ _ rfl (f + 1) _ i0 _ 4 48 Tryz.underlying123 hi0 hz0 hz1 hz2 rfl (by omega) (.slice A0 n0 c0_) n0 _ rfl _ (some ⟨gl, 0, none⟩) 1 _ _ rfl oN rn (by simp [Value.oneCell']) (by unfold maxLen; omega) (by omega) hfN ?_
      intro v6 w6 ow6 z6 g6 f6
      obtain ⟨A6, c6, rfl, -, -⟩ := ow6.shape
      have bx6 := Box.grown2 bxN g6 (by intro e; have := (oN.lt f e).1; omega)
      have i_6 := i_n.grown g6 (fun x hx => by have := (HROW.out.2.2.1.lt x (by rw [← HN0.out]; exact hx)).2; omega) hBr
      obtain ⟨k6, z6f⟩ := FBox.at_ bx6 7 rfl
      refine hK.out _ _ trivial (fun hHeld => ?_)
      clear hK K_
      try simp only [List.getElem_toArray, List.getElem_cons_succ, List.getElem_cons_zero, Act.put, List.setIfInBounds_toArray, List.set_cons_zero, List.set_cons_succ]
      refine wpAnyH_take (i := 8) (v := ?_) rfl (by kernel_rfl) (by kernel_rfl) (by kernel_rfl) CalmP.onlyN_panic (Or.inl ⟨by kernel_rfl, ?_⟩) (by assumption) ?_
      rotate_left
      · (intro w_ hSw; go_simp; try with_reducible rfl)
      try simp only [List.getElem_toArray, List.getElem_cons_succ, List.getElem_cons_zero, Act.put, List.setIfInBounds_toArray, List.set_cons_zero, List.set_cons_succ]
      refine wpAnyH_take (i := 9) (v := ?_) rfl (by kernel_rfl) (by kernel_rfl) (by kernel_rfl) CalmP.onlyN_panic (Or.inl ⟨by kernel_rfl, ?_⟩) (by assumption) ?_
      rotate_left
      · (intro w_ hSw; go_simp; try with_reducible rfl)
      try simp only [List.getElem_toArray, List.getElem_cons_succ, List.getElem_cons_zero, Act.put, List.setIfInBounds_toArray, List.set_cons_zero, List.set_cons_succ]
      refine wpAnyH_ready (rs := [10]) (by kernel_rfl) (by simp) ?_
      refine AllReadyH.cons rfl (fun K_ hK => ?_) AllReadyH.nil
      go_simp
      refine hK.out _ _ trivial (fun hHeld => ?_)
      clear hK K_
      try simp only [List.getElem_toArray, List.getElem_cons_succ, List.getElem_cons_zero, Act.put, List.setIfInBounds_toArray, List.set_cons_zero, List.set_cons_succ]
      refine wpAnyH_done (by kernel_rfl) ?_ _
      refine CalmP.onlyN_here (hQ.out _ _ ?_)
      clear hQ K0
      have bf6 : Below f w w6 := (b_n.mono (by omega)).trans (z6.mono (by omega))
      have bf7 : Below f w (w6.setCell ⟨f, 7, none⟩ (.slice A6 (n0 + 1) c6)) := bf6.setCell (p := ⟨f, 7, none⟩) (Nat.le_refl _) _
      have i7 : IsRd (w6.setCell ⟨f, 7, none⟩ (.slice A6 (n0 + 1) c6)) B r q4.2 := i_6.far hfl hBr
      have hdat : Dat wn f [vR.ownBlock, vT.ownBlock, (Value.slice A0 F.acs.length c0_).ownBlock] q4.1 (A4, c4) := by
        have tl' := tl
        have hsz := tl.size
        refine ⟨by rw [← HM4.out]; exact hmc4, hcm4, by rw [← HM4.out]; exact rdN, fun a e => ⟨by have := (hA5 a e).1; omega, by have := (hA5 a e).2; omega, ?_⟩⟩
        have h1 := (hA5 a e).1
        intro hm
        simp only [List.mem_cons, List.not_mem_nil, or_false] at hm
        rcases hm with hm | hm | hm
        · have := (HROW.out.1.lt _ hm.symm).2; omega
        · have := (HROW.out.2.1.lt _ hm.symm).2; omega
        · have := (HROW.out.2.2.1.lt _ hm.symm).2; omega
      have file7 : IsFile (w6.setCell ⟨f, 7, none⟩ (.slice A6 (n0 + 1) c6)) f (F.put (.ac q1.1 q2.1 q3.1 q4.1)) := IsFile.putAc (p := (A4, c4)) bxN rwN q1.1 q2.1 q3.1 q4.1 hdat (by rw [← HN0.out, ← HM4.out]; exact ow6) (by rw [← HN0.out]; exact g6) (by rw [← HN0.out]; exact f6)
      generalize w6.setCell ⟨f, 7, none⟩ (.slice A6 (n0 + 1) c6) = w7 at bf7 i7 file7 ⊢
      clear bxN bx6 rwN oN ow6 g6 f6 k6 z6f i_6 i_n rn tl b_n
      obtain ⟨A_, n_, c_, k0, k1, hnl⟩ := i7.ends
      have hend := Scr.ac_line hw q1 q2 q3 q4 (by rw [HQ1.out, HQ0.out]) HQ2.out HQ3.out HQ4.out
      rcases hend with ⟨⟨g1, g2⟩, hl⟩ | ⟨hg, hl⟩
      · rw [g1] at k1
        have hn0 : n_ = 0 := by rw [hnl, g2]; rfl
        subst hn0
        have HL := hide hl
        clear hl hnl g1 g2
        go_wp2_with fail
        go_ret
        exact ⟨bf7, .inl ⟨_, HL.out, rfl, file7⟩⟩
      · have HL := hide hl
        by_cases hbad : q4.2.2 = true
        · rw [hbad] at k1
          clear hl hnl hg hbad
          go_wp2_with fail
          go_ret
          exact ⟨bf7, .inr ⟨HL.out, rfl⟩⟩
        · have hb0 : q4.2.2 = false := by simpa using hbad
          rw [hb0] at k1
          have hnp : (0 : Int) < (n_ : Int) := by
            rcases hx : q4.2.1 with _ | ⟨y, ys⟩
            · exact absurd ⟨hb0, hx⟩ hg
            · rw [hnl, hx]; simp
          clear hl hnl hg hbad hb0
          go_wp2_with fail
          go_ret
          exact ⟨bf7, .inr ⟨HL.out, rfl⟩⟩
    · go_simp
      refine hK.out _ _ trivial (fun hHeld => ?_)
      clear hK K_
      try simp only [List.getElem_toArray, List.getElem_cons_succ, List.getElem_cons_zero, Act.put, List.setIfInBounds_toArray, List.set_cons_zero, List.set_cons_succ]
      refine wpAnyH_ready (rs := [4]) (by kernel_rfl) (by simp) ?_
      refine AllReadyH.cons rfl (fun K_ hK => ?_) AllReadyH.nil
      go_simp
      refine hK.out _ _ trivial (fun hHeld => ?_)
      clear hK K_
      try simp only [List.getElem_toArray, List.getElem_cons_succ, List.getElem_cons_zero, Act.put, List.setIfInBounds_toArray, List.set_cons_zero, List.set_cons_succ]
      refine wpAnyH_ready (rs := [7]) (by kernel_rfl) (by simp) ?_
      refine AllReadyH.cons rfl (fun K_ hK => ?_) AllReadyH.nil
      have i_n := i_u11.below (by rw [hgl]; exact tl)
      have b_n : Below B w wn := b_u11.trans (tl.mono (by omega))
      have bxN : FBox wn f F vR vT _ := HBOX.out.below2 b_n hfl
      have rwN := HROW.out.below (by rw [hB]; exact b_n)
      have oN := rwN.2.2.1
      rw [← HN0.out] at oN
      have hfN : f + 1 ≤ wn.heap.size := by have := b_n.size; omega
      have rdN := (rd5.below (by rw [hgl]; exact tl)).up tl.size
      clear kF zF kF2 hwn hgl hgl'
      refine step_append_ow _ rfl _ _ _ rfl (f + 1) _ i0 _ 4 48 Tryz.underlying123 hi0 hz0 hz1 hz2 rfl (by omega) (.slice A0 n0 c0_) n0 _ rfl _ (some ⟨gl, 0, none⟩) 1 _ _ rfl oN rn (by simp [Value.oneCell']) (by unfold maxLen; omega) (by omega) hfN ?_
      intro v6 w6 ow6 z6 g6 f6
      obtain ⟨A6, c6, rfl, -, -⟩ := ow6.shape
      have bx6 := Box.grown2 bxN g6 (by intro e; have := (oN.lt f e).1; omega)
      have i_6 := i_n.grown g6 (fun x hx => by have := (HROW.out.2.2.1.lt x (by rw [← HN0.out]; exact hx)).2; omega) hBr
      obtain ⟨k6, z6f⟩ := FBox.at_ bx6 7 rfl
      refine hK.out _ _ trivial (fun hHeld => ?_)
      clear hK K_
      try simp only [List.getElem_toArray, List.getElem_cons_succ, List.getElem_cons_zero, Act.put, List.setIfInBounds_toArray, List.set_cons_zero, List.set_cons_succ]
      refine wpAnyH_take (i := 8) (v := ?_) rfl (by kernel_rfl) (by kernel_rfl) (by kernel_rfl) CalmP.onlyN_panic (Or.inl ⟨by kernel_rfl, ?_⟩) (by assumption) ?_
      rotate_left
      · (intro w_ hSw; go_simp; try with_reducible rfl)
      try simp only [List.getElem_toArray, List.getElem_cons_succ, List.getElem_cons_zero, Act.put, List.setIfInBounds_toArray, List.set_cons_zero, List.set_cons_succ]
      refine wpAnyH_take (i := 9) (v := ?_) rfl (by kernel_rfl) (by kernel_rfl) (by kernel_rfl) CalmP.onlyN_panic (Or.inl ⟨by kernel_rfl, ?_⟩) (by assumption) ?_
      rotate_left
      · (intro w_ hSw; go_simp; try with_reducible rfl)
      try simp only [List.getElem_toArray, List.getElem_cons_succ, List.getElem_cons_zero, Act.put, List.setIfInBounds_toArray, List.set_cons_zero, List.set_cons_succ]
      refine wpAnyH_ready (rs := [10]) (by kernel_rfl) (by simp) ?_
      refine AllReadyH.cons rfl (fun K_ hK => ?_) AllReadyH.nil
      go_simp
      refine hK.out _ _ trivial (fun hHeld => ?_)
      clear hK K_
      try simp only [List.getElem_toArray, List.getElem_cons_succ, List.getElem_cons_zero, Act.put, List.setIfInBounds_toArray, List.set_cons_zero, List.set_cons_succ]
      refine wpAnyH_done (by kernel_rfl) ?_ _
      refine CalmP.onlyN_here (hQ.out _ _ ?_)
      clear hQ K0
      have bf6 : Below f w w6 := (b_n.mono (by omega)).trans (z6.mono (by omega))
      have bf7 : Below f w (w6.setCell ⟨f, 7, none⟩ (.slice A6 (n0 + 1) c6)) := bf6.setCell (p := ⟨f, 7, none⟩) (Nat.le_refl _) _
      have i7 : IsRd (w6.setCell ⟨f, 7, none⟩ (.slice A6 (n0 + 1) c6)) B r q4.2 := i_6.far hfl hBr
      have hdat : Dat wn f [vR.ownBlock, vT.ownBlock, (Value.slice A0 F.acs.length c0_).ownBlock] q4.1 (A4, c4) := by
        have tl' := tl
        have hsz := tl.size
        refine ⟨by rw [← HM4.out]; exact hmc4, hcm4, by rw [← HM4.out]; exact rdN, fun a e => ⟨by have := (hA5 a e).1; omega, by have := (hA5 a e).2; omega, ?_⟩⟩
        have h1 := (hA5 a e).1
        intro hm
        simp only [List.mem_cons, List.not_mem_nil, or_false] at hm
        rcases hm with hm | hm | hm
        · have := (HROW.out.1.lt _ hm.symm).2; omega
        · have := (HROW.out.2.1.lt _ hm.symm).2; omega
        · have := (HROW.out.2.2.1.lt _ hm.symm).2; omega
      have file7 : IsFile (w6.setCell ⟨f, 7, none⟩ (.slice A6 (n0 + 1) c6)) f (F.put (.ac q1.1 q2.1 q3.1 q4.1)) := IsFile.putAc (p := (A4, c4)) bxN rwN q1.1 q2.1 q3.1 q4.1 hdat (by rw [← HN0.out, ← HM4.out]; exact ow6) (by rw [← HN0.out]; exact g6) (by rw [← HN0.out]; exact f6)
      generalize w6.setCell ⟨f, 7, none⟩ (.slice A6 (n0 + 1) c6) = w7 at bf7 i7 file7 ⊢
      clear bxN bx6 rwN oN ow6 g6 f6 k6 z6f i_6 i_n rn tl b_n
      obtain ⟨A_, n_, c_, k0, k1, hnl⟩ := i7.ends
      have hend := Scr.ac_line hw q1 q2 q3 q4 (by rw [HQ1.out, HQ0.out]) HQ2.out HQ3.out HQ4.out
      rcases hend with ⟨⟨g1, g2⟩, hl⟩ | ⟨hg, hl⟩
      · rw [g1] at k1
        have hn0 : n_ = 0 := by rw [hnl, g2]; rfl
        subst hn0
        have HL := hide hl
        clear hl hnl g1 g2
        go_wp2_with fail
        go_ret
        exact ⟨bf7, .inl ⟨_, HL.out, rfl, file7⟩⟩
      · have HL := hide hl
        by_cases hbad : q4.2.2 = true
        · rw [hbad] at k1
          clear hl hnl hg hbad
          go_wp2_with fail
          go_ret
          exact ⟨bf7, .inr ⟨HL.out, rfl⟩⟩
        · have hb0 : q4.2.2 = false := by simpa using hbad
          rw [hb0] at k1
          have hnp : (0 : Int) < (n_ : Int) := by
            rcases hx : q4.2.1 with _ | ⟨y, ys⟩
            · exact absurd ⟨hb0, hx⟩ hg
            · rw [hnl, hx]; simp
          clear hl hnl hg hbad hb0
          go_wp2_with fail
          go_ret
          exact ⟨bf7, .inr ⟨HL.out, rfl⟩⟩
/-- A line, whatever it is. -/
theorem scrline_any (f : Nat) (F : Scr.Fl) (s : ByteArray) (w : World) (h : IsFile w f F) (hs : s.size ≤ 16777216) (hG : ∀ W, Below f w W → Glo W) (hn : F.rts.length ≤ 16777216 ∧ F.tys.length ≤ 16777216 ∧ F.acs.length ≤ 16777216) :
    Calls Tryz.prog 104 #[.pointer (some ⟨f, 0, none⟩), .string s] w (LinePost w f F s.data.toList) := by
  rcases hw : Scr.wordsL s.data.toList with _ | ⟨w0, ws⟩
  · exact absurd hw (Scr.wordsL_ne _)
  by_cases h1 : w0 = Scr.wCfg
  · subst h1; exact scrline_cfg f F s ws w h hs hG hn hw
  by_cases h2 : w0 = Scr.wRt
  · subst h2; exact scrline_rt f F s ws w h hs hG hn hw
  by_cases h3 : w0 = Scr.wTy
  · subst h3; exact scrline_ty f F s ws w h hs hG hn hw
  by_cases h4 : w0 = Scr.wAc
  · subst h4; exact scrline_ac f F s ws w h hs hG hn hw
  exact scrline_no f F s ws w h hs hG hn w0 hw h1 h2 h3 h4
end Go.Proofs.YtbplnglmjcmfiaaGreatDoor
