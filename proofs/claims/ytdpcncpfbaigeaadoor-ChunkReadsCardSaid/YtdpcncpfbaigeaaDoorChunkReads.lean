/- ChunkReads returns true for any bytes, however they are fed and asked. -/
import Derived.Test.YtdpcncpfbaigeaaDoorReadsSpec
import Derived.Test.YtdpcncpfbaigeaaDoorChunk0
import Derived.Test.YtdpcncpfbaigeaaDoorSame
import Derived.Test.YtdpcncpfbaigeaaDoorCalm
import Derived.Test.YtdpcncpfbaigeaaDoorLaid7
import Derived.Deep.LoopGhost
import Derived.Deep.RegionHeld3
namespace Go.Proofs.YtdpcncpfbaigeaaDoor.ChunkReadsP
open Go.RowKit
set_option linter.unusedSimpArgs false
set_option linter.unusedVariables false

theorem own_ge {w : World} {d base : Nat} {own : Option Nat} {S : DS} (h : IsDec w d base own S) {x : Nat} (e : own = some x) : base ≤ x := by
  obtain ⟨A, c, h1, h2, h3, h4⟩ := h
  exact (h2.lt x (h3.1.trans e)).1
theorem kept_off {w w' : World} {base size n : Nat} {v : Value} {xs : List Value} {own : Option Nat} (h : Ow w base size v n xs) (hg : w.grownBy w' own) (hne : ∀ x, own = some x → v.ownBlock ≠ some x) : Ow w' base size v n xs := by
  refine h.kept hg ?_
  by_cases hn : v.ownBlock = none
  · exact .inl hn
  · obtain ⟨y, hy⟩ := Option.ne_none_iff_exists'.1 hn
    exact .inr (fun e => hne y (e.symm.trans hy) hy)
set_option maxRecDepth 100000 in
set_option maxHeartbeats 3200000 in
theorem early (A A1 A2 : Option Addr) (n c n1 c1 n2 c2 : Nat) (w : World) (an : Calls Tryd.prog 12 #[] w fun e w' => e = .returned (.bool true) ∧ Below w.heap.size w w')
    (h : 5000 < n ∨ n1 = 0 ∨ n2 = 0 ∨ 100 < n1 ∨ 100 < n2) (hn : n ≤ 9223372036854775807) (hn1 : n1 ≤ 9223372036854775807) (hn2 : n2 ≤ 9223372036854775807) :
    Calls Tryd.prog 5 #[.slice A n c, .slice A1 n1 c1, .slice A2 n2 c2] w fun e w' => e = .returned (.bool true) ∧ Below w.heap.size w w' := by
  have hc : (5000 : Int) < (n : Int) ∨ (¬ (5000 : Int) < (n : Int) ∧ n1 = 0) ∨ (¬ (5000 : Int) < (n : Int) ∧ ¬ n1 = 0 ∧ n2 = 0) ∨ (¬ (5000 : Int) < (n : Int) ∧ ¬ n1 = 0 ∧ ¬ n2 = 0 ∧ (100 : Int) < (n1 : Int)) ∨ (¬ (5000 : Int) < (n : Int) ∧ ¬ n1 = 0 ∧ ¬ n2 = 0 ∧ ¬ (100 : Int) < (n1 : Int) ∧ (100 : Int) < (n2 : Int)) := by omega
  clear h
  rcases hc with a | ⟨a, b⟩ | ⟨a, b, d⟩ | ⟨a, b, d, f⟩ | ⟨a, b, d, f, g⟩
  all_goals
    go_enter Tryd.func5, Tryd.ntmps5
    go_wp2_with fail
    refine an.mono ?_
    rintro e w1 ⟨rfl, b1⟩
    go_wp2_with fail
    go_ret
    exact ⟨rfl, b1⟩
set_option maxRecDepth 100000 in
set_option maxHeartbeats 12800000 in
theorem walk (A : Option Addr) (n c : Nat) (bs : List UInt8) (A1 : Option Addr) (n1 c1 : Nat) (fs : List UInt8) (A2 : Option Addr) (n2 c2 : Nat) (ks : List UInt8) (w : World) (h : Rd w w.heap.size 1 A n (bcells bs)) (_hn : n ≤ maxLen) (hnc : n ≤ c) (h1 : Rd w w.heap.size 1 A1 n1 (bcells fs)) (_hn1 : n1 ≤ maxLen) (h2 : Rd w w.heap.size 1 A2 n2 (bcells ks)) (_hn2 : n2 ≤ maxLen)
    (mx : Int) (hm : w.cell? ⟨1, 0, none⟩ = some (.int .i64 mx)) (hd : w.cell? ⟨3, 15, none⟩ = some (.int .u8 4)) :
    Calls Tryd.prog 5 #[.slice A n c, .slice A1 n1 c1, .slice A2 n2 c2] w fun e w' => e = .returned (.bool true) ∧ Below w.heap.size w w' := by
  have hmb : 1 < w.heap.size := World.block_lt_of_cell? w _ hm
  have hdb : 3 < w.heap.size := World.block_lt_of_cell? w _ hd
  have hmx : Hid (∀ W : World, Below w.heap.size w W → W.cell? ⟨1, 0, none⟩ = some (.int .i64 mx)) := hide fun W bl => (bl.cell (p := ⟨1, 0, none⟩) hmb).trans hm
  have an : Hid (∀ W : World, Below w.heap.size w W → Calls Tryd.prog 12 #[] W fun e w' => e = .returned (.bool true) ∧ Below W.heap.size W w') := hide fun W bl => ans18_any W ((bl.cell (p := ⟨3, 15, none⟩) hdb).trans hd)
  have hn63 : n ≤ 9223372036854775807 := by unfold maxLen at _hn; omega
  have hn63' : n1 ≤ 9223372036854775807 := by unfold maxLen at _hn1; omega
  have hn63'' : n2 ≤ 9223372036854775807 := by unfold maxLen at _hn2; omega
  by_cases hE : 5000 < n ∨ n1 = 0 ∨ n2 = 0 ∨ 100 < n1 ∨ 100 < n2
  · exact early A A1 A2 n c n1 c1 n2 c2 w (an.out w (Below.refl _ _)) hE hn63 hn63' hn63''
  have hb : n ≤ 5000 ∧ 1 ≤ n1 ∧ 1 ≤ n2 ∧ n1 ≤ 100 ∧ n2 ≤ 100 := by omega
  obtain ⟨hb0, hb1, hb2, hb3, hb4⟩ := hb
  clear hE hm hd _hn _hn1 _hn2
  have hlen : bs.length = n := by have := h.1; rw [bcells_length] at this; omega
  obtain ⟨i0, hi0, hz0, hz1, hz2⟩ := info_parts infoU8b
  obtain ⟨g, hg⟩ : ∃ g, w.heap.size = g := ⟨_, rfl⟩
  have HL := hide hlen
  clear hlen
  have q1 := unchunk_any A n c w.heap.size bs w h (Nat.le_refl _) (by omega)
  have y0 : ¬ (5000 : Int) < (n : Int) := by omega
  have y1 : ((n1 : Int) == 0) = false := by rw [beq_eq_false_iff_ne]; omega
  have y2 : ((n2 : Int) == 0) = false := by rw [beq_eq_false_iff_ne]; omega
  have y3 : ¬ (100 : Int) < (n1 : Int) := by omega
  have y4 : ¬ (100 : Int) < (n2 : Int) := by omega
  rw [hg] at q1 h h1 h2 hmb hdb hmx an ⊢
  go_enter Tryd.func5, Tryd.ntmps5
  go_wp2_with fail
  refine q1.mono ?_
  rintro e w1 ⟨W, AW, cw, used, en, rfl, htold, ow1, b1⟩
  obtain ⟨F0, hF0, hen, hus⟩ := htold
  obtain ⟨wn, hwn⟩ : ∃ x, x = W.length := ⟨_, rfl⟩
  rw [← hwn] at ow1 ⊢
  have hwnb : wn ≤ n := by
    have hLl := HL.out
    have := run_len hF0 (dsok0 bs (by omega))
    show wn ≤ n
    rw [hwn]; show W.length ≤ n
    have e : (DS.mk bs 0 0 0 0).inp.length = bs.length := rfl
    omega
  obtain ⟨EN, hEN⟩ : ∃ E : Nat, E = (if en = 0 then 8 else en) := ⟨_, rfl⟩
  have HF0 := hide hF0
  have HUS := hide hus
  have HWN := hide hwn
  have hen2 : EN = if F0.er = 0 then 5 else F0.er := by
    rw [hEN, hen]
    unfold endOf
    generalize F0.er = z
    by_cases h8 : z = 8
    · subst h8; rfl
    · by_cases h00 : z = 0
      · subst h00; rfl
      · rw [if_neg h8, if_neg h00, if_neg h00]
  have HEN := hide hen2
  have hgz1 : g ≤ w1.heap.size := hg ▸ b1.size
  clear hF0 hus hen hen2 hwn q1
  go_upto_if 51 with (fail)
  go_cut [9] from 50 to 51 (fun s wx => s = .int .i64 EN ∧ wx = w1)
  case first =>
    by_cases h0 : en = 0
    · have e0 : ((en : Int) == 0) = true := by rw [beq_iff_eq]; omega
      have HE := hide (show EN = 8 by rw [hEN, if_pos h0])
      clear hEN h0
      go_wp2_with fail
      go_meet
      exact ⟨by rw [HE.out]; rfl, rfl⟩
    · have e0 : ((en : Int) == 0) = false := by rw [beq_eq_false_iff_ne]; omega
      have HE := hide (show EN = en by rw [hEN, if_neg h0])
      clear hEN h0
      go_wp2_with fail
      go_meet
      exact ⟨by rw [HE.out], rfl⟩
  case rest =>
  obtain ⟨rfl, hwc⟩ := hcut
  obtain rfl : w1 = wc := hwc.symm
  clear hEN
  go_wp2_with fail
  refine (chunknew_any w1).mono ?_
  rintro e w2 ⟨rfl, z1, b2⟩
  have d2 := dec_new z1 w1.heap.size (Nat.le_refl _)
  have t2 := b1.trans (b2.mono hgz1)
  have lw := ow1.lt
  have o2 := ow1.below b2
  have hz2' := b2.size
  have hD2 := z1.1
  obtain ⟨D, hDw⟩ : ∃ D, w1.heap.size = D := ⟨_, rfl⟩
  rw [hDw] at d2 lw hz2' hD2 hgz1 ⊢
  have an2 := an.out w2 t2
  clear b1 b2 z1 ow1
  go_wp2_with fail
  refine an2.mono ?_
  rintro e w3 ⟨rfl, b3⟩
  have d3 := d2.below b3
  have t3 := t2.trans (b3.mono (by omega))
  have o3 := o2.below b3
  have hz3 := b3.size
  have wd : ∀ x, (Value.slice AW wn cw).ownBlock = some x → x < D := fun x e => (lw x e).2
  have hmD : 1 ≠ D := by omega
  clear an2 d2 b3 o2 lw
  have WD := hide wd
  clear wd
  go_wp2_with fail
  go_loopg [11, 12, 13] (n + wn) (fun f o a i wr => ∃ (fu m k j : Nat) (S : DS) (out : List UInt8) (A4 : Option Addr) (c4 : Nat) (own : Option Nat), f = fu ∧ o = .slice A4 m c4 ∧ a = .int .i64 k ∧ i = .int .i64 j ∧ fu + k + m = n + wn ∧ k ≤ n ∧ m ≤ wn ∧ j ≤ k + m ∧ out.length = m ∧ RInv bs k S out ∧ IsDec wr D D own S ∧ (∀ x, own = some x → x < wr.heap.size) ∧ Ow wr (D + 1) 1 (.slice A4 m c4) m (bcells out) ∧ (∀ x, own = some x → (Value.slice A4 m c4).ownBlock ≠ some x) ∧ Ow wr g 1 (.slice AW wn cw) wn (bcells W) ∧ Below g w wr)
  case atStart => exact ⟨n + wn, 0, 0, 0, ⟨[], 0, 0, 0, 0⟩, [], none, 0, none, rfl, rfl, rfl, rfl, rfl, Nat.zero_le _, Nat.zero_le _, Nat.zero_le _, rfl, rinv_init bs, d3, (fun x e => by cases e), Ow.nil_, (fun x e => by cases e), o3, t3⟩
  case round =>
    clear d3 o3 t3 hz3 hz2' hD2 t2
    obtain ⟨fu, m, k, j, S, out, A4, c4, own, hfu, rfl, rfl, rfl, hsum, hk, hm, hj, hout, hri, hdec, hown, ho, hap, hw, hb⟩ := hrel
    have hsz : D < wr.heap.size := hdec.er_cell.2.2
    have HRI := hide hri
    have HOUT := hide hout
    have HSUM := hide hsum
    have HJ := hide hj
    have HFU := hide hfu
    clear hri hout hsum hfu
    have hj10 : j ≤ 10000 := by have := HJ.out; omega
    clear hj
    -- how many are asked for
    have hjm : j % n2 < n2 := Nat.mod_lt _ (by omega)
    have hmod : (j : Int).tmod (n2 : Int) = ((j % n2 : Nat) : Int) := by rw [Int.tmod_eq_emod_of_nonneg (by omega)]; rfl
    obtain ⟨jm, hjmd⟩ : ∃ x, x = j % n2 := ⟨_, rfl⟩
    rw [← hjmd] at hjm hmod
    clear hjmd
    obtain ⟨a2, hA2, -, hc2⟩ := (h2.below hb).byte (k := jm) hjm
    obtain ⟨x, hx⟩ : ∃ x : Nat, x = ((ks.getD jm 0).toNat) := ⟨_, rfl⟩
    have hx256 : x < 256 := by rw [hx]; exact UInt8.toNat_lt _
    rw [← hx] at hc2
    clear hx
    subst hA2
    have w1' : IntKind.i64.wrap ((x : Int) + 1) = (x : Int) + 1 := by rw [IntKind.wrap_i64]; omega
    have hn2 : ¬ (n2 : Int) = 0 := by omega
    have hcx : ((x + 1 : Nat) : Int) = (x : Int) + 1 := by omega
    obtain ⟨r1, r2, r3⟩ := rinv_take HRI.out (x + 1)
    have rs := fun hO => rinv_stop HRI.out (x + 1) (by omega) hO
    have rl := rinv_len r1 HF0.out (by have := HL.out; omega)
    obtain ⟨_, _, _, _, hokS, _, _, _⟩ := HRI.out
    have p2 := dectake_any D D own S ((x : Int) + 1) mx wr hdec hown (by omega) hokS (by omega) (hmx.out wr hb) hmD
    rw [hcx] at r1 r2 r3 rs rl
    obtain ⟨P, hP⟩ : ∃ P, P = takeO ((x : Int) + 1) S := ⟨_, rfl⟩
    obtain ⟨E, hE⟩ : ∃ E, E = takeEr ((x : Int) + 1) S := ⟨_, rfl⟩
    obtain ⟨S1, hS1⟩ : ∃ S1, S1 = (takeR ((x : Int) + 1) S).2.2 := ⟨_, rfl⟩
    simp only [← hP, ← hE, ← hS1] at r1 r2 r3 rs rl p2
    obtain ⟨pl, hpl⟩ : ∃ pl, pl = P.length := ⟨_, rfl⟩
    rw [← hpl] at r2 r3 p2
    have hml : m + pl ≤ wn := by
      rw [List.length_append, HOUT.out, ← hpl, ← HWN.out] at rl; exact rl
    have HPL := hide hpl
    have R1 := hide r1
    have RS := hide rs
    clear hP hE hS1 hpl r1 rs rl hcx hokS
    go_wp2_with fail
    refine p2.mono ?_
    rintro e w4 ⟨A3, c3, rfl, v4, d4, g4⟩
    have t4 := hb.grown g4 (by have := hb.size; omega) (by intro r e; cases e; omega)
    have hz4 := g4.size
    have ho4 := ho.kept g4 (.inr fun e => by have := (ho.lt _ e).1; omega)
    have hw4 := hw.kept g4 (.inr fun e => by have := WD.out _ e; omega)
    have hr4 := v4.rd
    have hD4 : D + 1 ≤ w4.heap.size := by omega
    have hown4 : ∀ x, own = some x → x < w4.heap.size := fun x e => Nat.lt_of_lt_of_le (hown x e) hz4
    have hgz4 : g ≤ w4.heap.size := by omega
    have fin : Hid (∀ (v5 : Value) (w5 : World), Ow w5 (D + 1) 1 v5 (m + pl) (bcells out ++ bcells P) → Below (D + 1) w4 w5 → w4.grownBy w5 (Value.slice A4 m c4).ownBlock → (v5.ownBlock = (Value.slice A4 m c4).ownBlock ∨ ∀ g, v5.ownBlock = some g → w4.heap.size ≤ g) →
        IsDec w5 D D own S1 ∧ Ow w5 g 1 (.slice AW wn cw) wn (bcells W) ∧ Below g w w5 ∧ w4.heap.size ≤ w5.heap.size ∧ (∀ x, own = some x → v5.ownBlock ≠ some x) ∧ ∃ A5 c5, v5 = .slice A5 (m + pl) c5) := by
      refine hide fun v5 w5 x1 x2 x3 x4 => ?_
      obtain ⟨A5, c5, rfl, -⟩ := x1.shape
      refine ⟨d4.keptRow x3 (fun e => by have := (ho.lt _ e).1; omega) ?_, hw4.kept x3 ?_, t4.trans (x2.mono (by omega)), x3.size, fun x e e' => ?_, A5, c5, rfl⟩
      · cases hoo : own with
        | none => exact .inr rfl
        | some y => exact .inl (fun e => hap y hoo e.symm)
      · by_cases hne : (Value.slice AW wn cw).ownBlock = none
        · exact .inl hne
        · obtain ⟨y, hy⟩ := Option.ne_none_iff_exists'.1 hne
          exact .inr (fun e => by have h1 := WD.out y hy; have h2 := (ho.lt y (e.symm.trans hy)).1; omega)
      · rcases x4 with x4 | x4
        · exact hap x e (x4 ▸ e')
        · have := x4 x e'; have := hown4 x e; omega
    clear p2 hdec hown ho hw hb g4 v4 d4 hw4 t4 hap
    have hol : ∀ (m' k' : Nat), m' ≤ wn → k' ≤ n → m + k + 1 ≤ m' + k' → ∃ f', f' + k' + m' = n + wn ∧ f' < fu := fun m' k' h1 h2 h3 => ⟨n + wn - k' - m', by omega, by have := HSUM.out; omega⟩
    have HOL := hide hol
    clear hol
    have i1 : IntKind.i64.wrap ((j : Int) + 1) = (j : Int) + 1 := by rw [IntKind.wrap_i64]; omega
    by_cases hp0 : pl = 0 ∧ E ≠ 0
    · obtain ⟨rfl, hEne⟩ := hp0
      have hPnil : P = [] := List.eq_nil_of_length_eq_zero HPL.out.symm
      obtain ⟨Fq, f1, f2, f3, f4, f5, f6, f7⟩ := RS.out hPnil
      obtain rfl : Fq = S1 := f1.symm
      subst hPnil
      have v1 : ((E : Int) == 0) = false := by rw [beq_eq_false_iff_ne]; omega
      have v2 : ((0 : Int) == (x : Int) + 1) = false := by rw [beq_eq_false_iff_ne]; omega
      have v3 : ((E : Int) != 0) = true := by simp; omega
      have u1 : ¬ ((x : Int) + 1 < 0) := by omega
      have u2 : ¬ ((wn : Int) < (m : Int)) := by omega
      have hFi : Fq.inp.length ≤ 5000 := by unfold flen at f5; omega
      have F2 := hide f2
      have F3 := hide f3
      have F7 := hide f7
      have F5 := hide f5
      clear f2 f3 f5 f7 r2 r3 R1 RS HPL f1
      by_cases hC : E = 5 ∧ k < n
      · obtain ⟨rfl, hkn⟩ := hC
        have hF0 : Fq.er = 0 := Classical.byContradiction fun e => by
          have := F7.out; rw [if_neg e] at this; exact f6 this.symm
        obtain ⟨a, hAa, -, -⟩ := h.byte (k := k) hkn
        subst hAa
        have hjm1 : j % n1 < n1 := Nat.mod_lt _ (by omega)
        have hmod1 : (j : Int).tmod (n1 : Int) = ((j % n1 : Nat) : Int) := by rw [Int.tmod_eq_emod_of_nonneg (by omega)]; rfl
        obtain ⟨jn, hjnd⟩ : ∃ x, x = j % n1 := ⟨_, rfl⟩
        rw [← hjnd] at hjm1 hmod1
        clear hjnd
        obtain ⟨a1, hA1, ha1, hc1⟩ := h1.byte (k := jn) hjm1
        subst hA1
        obtain ⟨y, hy⟩ : ∃ y : Nat, y = ((fs.getD jn 0).toNat) := ⟨_, rfl⟩
        have hy256 : y < 256 := by rw [hy]; exact UInt8.toNat_lt _
        rw [← hy] at hc1
        clear hy
        have hmy : (y : Int).tmod 60 = ((y % 60 : Nat) : Int) := by rw [Int.tmod_eq_emod_of_nonneg (by omega)]; rfl
        obtain ⟨z, hzd⟩ : ∃ z, z = y % 60 := ⟨_, rfl⟩
        rw [← hzd] at hmy
        have hz60 : z < 60 := by rw [hzd]; exact Nat.mod_lt _ (by decide)
        clear hzd
        have s1 : IntKind.i64.wrap ((k : Int) + (z : Int)) = (k : Int) + (z : Int) := by rw [IntKind.wrap_i64]; omega
        have s2 : IntKind.i64.wrap ((k : Int) + (z : Int) + 1) = (k : Int) + (z : Int) + 1 := by rw [IntKind.wrap_i64]; omega
        have hkn' : (k : Int) < (n : Int) := by omega
        have CELL : Hid (∀ W : World, Below g w W → W.cell? (a1.add jn) = some (.int .u8 (y : Int))) := hide fun W b => (b.cell (p := a1.add jn) (by rw [addr_add_block]; exact ha1)).trans hc1
        have hck : c ≠ k := by omega
        clear hc1
        have FR : Hid (∀ (v : Nat) (A5 : Option Addr) (c5 : Nat) (w5 : World), k < v → v ≤ n → IsDec w5 D D own Fq → Ow w5 (D + 1) 1 (.slice A5 m c5) m (bcells out) → (∀ x, own = some x → (Value.slice A5 m c5).ownBlock ≠ some x) → Ow w5 g 1 (.slice AW wn cw) wn (bcells W) → Below g w w5 → w4.heap.size ≤ w5.heap.size →
            ∃ f', f' < fu ∧ ∀ (w5' w6 : World) (own' : Option Nat), IsDec w6 D D own' (feedS Fq ((bs.drop k).take (v - k))) → (∀ g, own' = some g → g < w6.heap.size) → (own' = own ∨ ∀ g, own' = some g → w5.heap.size ≤ g) → w5.grownBy w5' own → w5'.grownBy w6 (some D) →
            ∃ (fu m' k' j' : Nat) (S : DS) (out : List UInt8) (A4 : Option Addr) (c4 : Nat) (own : Option Nat), f' = fu ∧ (Value.slice A5 m c5) = .slice A4 m' c4 ∧ (Value.int .i64 (v : Int)) = .int .i64 k' ∧ (Value.int .i64 ((j : Int) + 1)) = .int .i64 j' ∧ fu + k' + m' = n + wn ∧ k' ≤ n ∧ m' ≤ wn ∧ j' ≤ k' + m' ∧ out.length = m' ∧ RInv bs k' S out ∧ IsDec w6 D D own S ∧ (∀ x, own = some x → x < w6.heap.size) ∧ Ow w6 (D + 1) 1 (.slice A4 m' c4) m' (bcells out) ∧ (∀ x, own = some x → (Value.slice A4 m' c4).ownBlock ≠ some x) ∧ Ow w6 g 1 (.slice AW wn cw) wn (bcells W) ∧ Below g w w6) := by
          refine hide fun v A5 c5 w5 hkv hvn e1 e2 e3 e4 e5 e6 => ?_
          obtain ⟨f', hf1, hf2⟩ := HOL.out m v (by omega) hvn (by omega)
          refine ⟨f', hf2, fun w5' w6 own' d1 d2 d3 d4 d5 => ?_⟩
          have hFL := F5.out
          have hLL := HL.out
          refine ⟨f', m, v, j + 1, _, out, A5, c5, own', rfl, rfl, rfl, by go_num, hf1, hvn, by omega, by have := HJ.out; omega, HOUT.out, rinv_feed F3.out f4 hFL f6 (by omega) (by omega) (by omega), d1, d2, (kept_off e2 d4 e3).kept d5 (.inr fun e => by have := (e2.lt _ e).1; omega), fun x ex ex' => ?_, (kept_off e4 d4 (fun x ex ex' => by have := own_ge e1 ex; have := WD.out x ex'; omega)).kept d5 (.inr fun e => by have := WD.out _ e; omega), (e5.grown d4 (by omega) (fun x ex => by have := own_ge e1 ex; omega)).grown d5 (by have := d4.size; omega) (by intro r er; cases er; omega)⟩
          rcases d3 with d3 | d3
          · exact e3 x (d3 ▸ ex) ex'
          · have := d3 x ex; have := (e2.lt x ex').2; omega
        by_cases hT : n < k + z + 1
        · have hT' : (n : Int) < (k : Int) + (z : Int) + 1 := by omega
          go_wp2_with (at_builtin; refine wpl_append_ow _ rfl _ _ _ rfl (D + 1) 5 i0 _ 1 1 Tryd.underlying26 hi0 hz0 hz1 hz2 rfl (by omega) _ _ _ rfl _ _ _ _ _ rfl ho4 hr4 (bcells_one _) (by simp [maxLen]; omega) (by omega) hD4 ?_; intro v5 w5 x1 x2 x3 x4; obtain ⟨hd5, hw5, hb5, hz5, hov5, A5, c5, hv5⟩ := fin.out v5 w5 x1 x2 x3 x4; subst hv5; have c1y := CELL.out w5 hb5)
          rw [Nat.add_zero] at x1 hov5
          have hyF := (h.below hb5).cut (k := k) (m := n) (cap := c) (by omega) (by omega) hnc
          rw [if_neg hck, Nat.mul_one, Nat.mul_one, bcells_drop, bcells_take] at hyF
          simp only [Option.map_some, Nat.mul_one] at hyF
          have pf := decfeed2_any D D own Fq w5 hd5 (some (a.add k)) (n - k) (c - k) g _ hyF (by omega) (by omega) (fun x e => Nat.lt_of_lt_of_le (hown4 x e) hz5)
          obtain ⟨f', hf2, hrel'⟩ := FR.out (n) A5 c5 w5 (by omega) (by omega) hd5 (by simpa [bcells] using x1) hov5 hw5 hb5 hz5
          have HR := hide hrel'
          clear hrel' FR
          refine pf.mono ?_
          rintro e w6 ⟨rfl, own', hd6, hl6, hn6, w5', gA, gB⟩
          clear pf
          go_wp2_with fail
          go_roundg f'
          case measure => have := HFU.out; omega
          case rel => exact HR.out w5' w6 own' hd6 hl6 hn6 gA gB
        · have hT' : ¬ (n : Int) < (k : Int) + (z : Int) + 1 := by omega
          go_wp2_with (at_builtin; refine wpl_append_ow _ rfl _ _ _ rfl (D + 1) 5 i0 _ 1 1 Tryd.underlying26 hi0 hz0 hz1 hz2 rfl (by omega) _ _ _ rfl _ _ _ _ _ rfl ho4 hr4 (bcells_one _) (by simp [maxLen]; omega) (by omega) hD4 ?_; intro v5 w5 x1 x2 x3 x4; obtain ⟨hd5, hw5, hb5, hz5, hov5, A5, c5, hv5⟩ := fin.out v5 w5 x1 x2 x3 x4; subst hv5; have c1y := CELL.out w5 hb5)
          rw [Nat.add_zero] at x1 hov5
          have hyF := (h.below hb5).cut (k := k) (m := k + z + 1) (cap := c) (by omega) (by omega) hnc
          rw [if_neg hck, Nat.mul_one, Nat.mul_one, bcells_drop, bcells_take] at hyF
          simp only [Option.map_some, Nat.mul_one] at hyF
          have pf := decfeed2_any D D own Fq w5 hd5 (some (a.add k)) (k + z + 1 - k) (c - k) g _ hyF (by omega) (by omega) (fun x e => Nat.lt_of_lt_of_le (hown4 x e) hz5)
          obtain ⟨f', hf2, hrel'⟩ := FR.out (k + z + 1) A5 c5 w5 (by omega) (by omega) hd5 (by simpa [bcells] using x1) hov5 hw5 hb5 hz5
          have HR := hide hrel'
          clear hrel' FR
          refine pf.mono ?_
          rintro e w6 ⟨rfl, own', hd6, hl6, hn6, w5', gA, gB⟩
          clear pf
          go_wp2_with fail
          go_roundg f'
          case measure => have := HFU.out; omega
          case rel => exact HR.out w5' w6 own' hd6 hl6 hn6 gA gB
      · have hE2 : E = if Fq.er = 0 then 5 else Fq.er := F7.out
        have hLL := HL.out
        have hx : Fq.er ≠ 0 ∨ bs.length ≤ k := by
          by_cases h0 : Fq.er = 0
          · rw [if_pos h0] at hE2
            right
            have : ¬ k < n := fun hk => hC ⟨hE2, hk⟩
            omega
          · exact .inl h0
        obtain ⟨hWo, hFF⟩ := rinv_final F3.out HF0.out hx
        have hEN2 : EN = E := by rw [HEN.out, hE2, hFF]; rfl
        obtain ⟨g1, g2⟩ := again_take F2.out f4 3 (by decide)
        rw [← hE2] at g1
        have g1' : takeEr (3 : Int) Fq = E := g1
        have g2' : (takeR (3 : Int) Fq).2.2 = Fq := g2
        clear g1 g2
        have g1 := g1'
        have g2 := g2'
        clear g1' g2'
        have HW := hide hWo
        have hw5' : ((EN : Int) != (EN : Int)) = false := by simp
        subst hEN2
        clear hLL hWo F7 HOL HEN
        by_cases he8 : Fq.er = 8
        · obtain rfl : EN = 8 := by rw [hE2, he8]; rfl
          have hus := HUS.out (by rw [hFF]; exact he8)
          obtain ⟨ru1, ru2, ru3⟩ := rest_of hFF hus (by have := HL.out; omega)
          have hil : Fq.inp.length = k - used := ru3
          have hir : Fq.inp = (bs.drop used).take (k - used) := ru2
          have i5 : ((8 : Int) == 5) = false := by decide
          have hku : (used : Int) ≤ (k : Int) := by omega
          have hkc : (k : Int) ≤ (c : Int) := by omega
          clear hE2 hx hC hus ru2 ru3 hFF
          by_cases hcu : c = used
          · subst hcu
            have HCUT : Hid (∀ W : World, Below g w W → Rd W g 1 A (k - c) (bcells ((bs.drop c).take (k - c)))) := hide fun W b => by
              have := (h.below b).cut (k := c) (m := k) (cap := c) ru1 (by omega) hnc
              rw [if_pos rfl, Nat.mul_one, Nat.mul_one, bcells_drop, bcells_take] at this
              exact this
            go_wp2_with (at_builtin; refine wpl_append_ow _ rfl _ _ _ rfl (D + 1) 5 i0 _ 1 1 Tryd.underlying26 hi0 hz0 hz1 hz2 rfl (by omega) _ _ _ rfl _ _ _ _ _ rfl ho4 hr4 (bcells_one _) (by simp [maxLen]; omega) (by omega) hD4 ?_; intro v5 w5 x1 x2 x3 x4; obtain ⟨hd5, hw5, hb5, hz5, hov5, A5, c5, hv5⟩ := fin.out v5 w5 x1 x2 x3 x4; subst hv5)
            rw [Nat.add_zero] at x1 hov5
            have p3 := dectake_any D D own Fq 3 mx w5 hd5 (fun x e => Nat.lt_of_lt_of_le (hown4 x e) hz5) (by omega) f4 (by decide) (hmx.out w5 hb5) hmD
            rw [g1, g2] at p3
            generalize takeO 3 Fq = o7 at p3
            refine p3.mono ?_
            rintro e w6 ⟨A8, c8, rfl, -, d6, g6⟩
            have t6 := hb5.grown g6 (by have := hb5.size; omega) (by intro r er; cases er; omega)
            have hz6 := g6.size
            have ho6 : Ow w6 (D + 1) 1 (.slice A5 m c5) m (bcells out) := Ow.kept (by simpa [bcells] using x1) g6 (.inr fun e => by have := (x1.lt _ e).1; omega)
            have hw6 := hw5.kept g6 (.inr fun e => by have := WD.out _ e; omega)
            have sm := same_any A5 AW m c5 wn cw _ _ out W w6 ho6.rd hw6.rd (by omega) (by omega)
            rw [HW.out, beq_self_eq_true] at sm
            clear p3 x1 x2 x3 x4 hd5 hw5 hb5 hov5 g6 ho6 hw6
            go_wp2_with fail
            refine sm.mono ?_
            rintro e w7 ⟨rfl, kq, rfl⟩
            have t7 := below_drewN (k := kq) t6
            have d7 := d6.drewN kq
            have hz7 : D < (w6.drewN kq).heap.size := by show D < w6.heap.size; omega
            generalize w6.drewN kq = w7 at t7 d7 hz7 ⊢
            clear sm t6 d6
            go_upto_region 27 with (fail)
            refine CalmP.hideN (fun K0 hQ => ?_)
            refine wp_region_held_drew (S := fun W : World => Below g w W) (by kernel_rfl) t7.drew (fun hHeld => ?_)
            refine wpAnyH_take (i := 0) (v := ?_) rfl (by kernel_rfl) (by kernel_rfl) (by kernel_rfl) CalmP.onlyN_panic (Or.inl ⟨by kernel_rfl, ?_⟩) (by assumption) ?_
            rotate_left
            · (intro w_ hSw; (try dsimp only at hSw); go_simp; try with_reducible rfl)
            try simp only [Act.put, List.setIfInBounds_toArray, List.set_cons_zero, List.set_cons_succ]
            refine wpAnyH_take (i := 1) (v := ?_) rfl (by kernel_rfl) (by kernel_rfl) (by kernel_rfl) CalmP.onlyN_panic (Or.inl ⟨by kernel_rfl, ?_⟩) (by assumption) ?_
            rotate_left
            · (intro w_ hSw; (try dsimp only at hSw); go_simp; try with_reducible rfl)
            try simp only [Act.put, List.setIfInBounds_toArray, List.set_cons_zero, List.set_cons_succ]
            refine wpAnyH_take (i := 2) (v := ?_) rfl (by kernel_rfl) (by kernel_rfl) (by kernel_rfl) CalmP.onlyN_panic (Or.inl ⟨by kernel_rfl, ?_⟩) (by assumption) ?_
            rotate_left
            · (intro w_ hSw; (try dsimp only at hSw); go_simp; try with_reducible rfl)
            try simp only [Act.put, List.setIfInBounds_toArray, List.set_cons_zero, List.set_cons_succ]
            refine wpAnyH_take (i := 3) (v := undef) rfl (by kernel_rfl) (by kernel_rfl) (by kernel_rfl) CalmP.onlyN_panic (Or.inr ⟨by kernel_rfl, rfl⟩) (by assumption) ?_
            try simp only [Act.put, List.setIfInBounds_toArray, List.set_cons_zero, List.set_cons_succ]
            refine wpAnyH_take (i := 4) (v := undef) rfl (by kernel_rfl) (by kernel_rfl) (by kernel_rfl) CalmP.onlyN_panic (Or.inr ⟨by kernel_rfl, rfl⟩) (by assumption) ?_
            try simp only [Act.put, List.setIfInBounds_toArray, List.set_cons_zero, List.set_cons_succ]
            refine wpAnyH_take (i := 5) (v := undef) rfl (by kernel_rfl) (by kernel_rfl) (by kernel_rfl) CalmP.onlyN_panic (Or.inr ⟨by kernel_rfl, rfl⟩) (by assumption) ?_
            try simp only [Act.put, List.setIfInBounds_toArray, List.set_cons_zero, List.set_cons_succ]
            refine wpAnyH_take (i := 6) (v := undef) rfl (by kernel_rfl) (by kernel_rfl) (by kernel_rfl) CalmP.onlyN_panic (Or.inr ⟨by kernel_rfl, rfl⟩) (by assumption) ?_
            try simp only [Act.put, List.setIfInBounds_toArray, List.set_cons_zero, List.set_cons_succ]
            refine wpAnyH_take (i := 7) (v := ?_) rfl (by kernel_rfl) (by kernel_rfl) (by kernel_rfl) CalmP.onlyN_panic (Or.inl ⟨by kernel_rfl, ?_⟩) (by assumption) ?_
            rotate_left
            · (intro w_ hSw; (try dsimp only at hSw); go_simp; try with_reducible rfl)
            try simp only [Act.put, List.setIfInBounds_toArray, List.set_cons_zero, List.set_cons_succ]
            refine wpAnyH_take (i := 8) (v := ?_) rfl (by kernel_rfl) (by kernel_rfl) (by kernel_rfl) CalmP.onlyN_panic (Or.inl ⟨by kernel_rfl, ?_⟩) (by assumption) ?_
            rotate_left
            · (intro w_ hSw; (try dsimp only at hSw); go_simp; try with_reducible rfl)
            try simp only [Act.put, List.setIfInBounds_toArray, List.set_cons_zero, List.set_cons_succ]
            refine wpAnyH_take (i := 9) (v := ?_) rfl (by kernel_rfl) (by kernel_rfl) (by kernel_rfl) CalmP.onlyN_panic (Or.inl ⟨by kernel_rfl, ?_⟩) (by assumption) ?_
            rotate_left
            · (intro w_ hSw; (try dsimp only at hSw); go_simp; try with_reducible rfl)
            try simp only [Act.put, List.setIfInBounds_toArray, List.set_cons_zero, List.set_cons_succ]
            refine wpAnyH_take (i := 10) (v := ?_) rfl (by kernel_rfl) (by kernel_rfl) (by kernel_rfl) CalmP.onlyN_panic (Or.inl ⟨by kernel_rfl, ?_⟩) (by assumption) ?_
            rotate_left
            · (intro w_ hSw; (try dsimp only at hSw); go_simp; try with_reducible rfl)
            try simp only [Act.put, List.setIfInBounds_toArray, List.set_cons_zero, List.set_cons_succ]
            refine wpAnyH_take (i := 11) (v := ?_) rfl (by kernel_rfl) (by kernel_rfl) (by kernel_rfl) CalmP.onlyN_panic (Or.inl ⟨by kernel_rfl, ?_⟩) (by assumption) ?_
            rotate_left
            · (intro w_ hSw; (try dsimp only at hSw); go_simp; try with_reducible rfl)
            try simp only [Act.put, List.setIfInBounds_toArray, List.set_cons_zero, List.set_cons_succ]
            refine wpAnyH_take (i := 12) (v := ?_) rfl (by kernel_rfl) (by kernel_rfl) (by kernel_rfl) CalmP.onlyN_panic (Or.inl ⟨by kernel_rfl, ?_⟩) (by assumption) ?_
            rotate_left
            · (intro w_ hSw; (try dsimp only at hSw); go_simp; try with_reducible rfl)
            try simp only [Act.put, List.setIfInBounds_toArray, List.set_cons_zero, List.set_cons_succ]
            refine wpAnyH_take (i := 14) (v := ?_) rfl (by kernel_rfl) (by kernel_rfl) (by kernel_rfl) CalmP.onlyN_panic (Or.inl ⟨by kernel_rfl, ?_⟩) (by assumption) ?_
            rotate_left
            · (intro w_ hSw; (try dsimp only at hSw); go_simp; try with_reducible rfl)
            try simp only [Act.put, List.setIfInBounds_toArray, List.set_cons_zero, List.set_cons_succ]
            refine wpAnyH_take (i := 15) (v := ?_) rfl (by kernel_rfl) (by kernel_rfl) (by kernel_rfl) CalmP.onlyN_panic (Or.inl ⟨by kernel_rfl, ?_⟩) (by assumption) ?_
            rotate_left
            · (intro w_ hSw; (try dsimp only at hSw); go_simp; try with_reducible rfl)
            try simp only [Act.put, List.setIfInBounds_toArray, List.set_cons_zero, List.set_cons_succ]
            refine wpAnyH_take (i := 16) (v := ?_) rfl (by kernel_rfl) (by kernel_rfl) (by kernel_rfl) CalmP.onlyN_panic (Or.inl ⟨by kernel_rfl, ?_⟩) (by assumption) ?_
            rotate_left
            · (intro w_ hSw; (try dsimp only at hSw); go_simp; try with_reducible rfl)
            try simp only [Act.put, List.setIfInBounds_toArray, List.set_cons_zero, List.set_cons_succ]
            refine wpAnyH_take (i := 17) (v := ?_) rfl (by kernel_rfl) (by kernel_rfl) (by kernel_rfl) CalmP.onlyN_panic (Or.inl ⟨by kernel_rfl, ?_⟩) (by assumption) ?_
            rotate_left
            · (intro w_ hSw; (try dsimp only at hSw); go_simp; try with_reducible rfl)
            try simp only [Act.put, List.setIfInBounds_toArray, List.set_cons_zero, List.set_cons_succ]
            refine wpAnyH_ready (rs := [13]) (by kernel_rfl) (by simp) ?_
            refine AllReadyH.cons rfl (fun K_ hK => ?_) AllReadyH.nil
            go_simp
            refine (decrest_done D D own Fq _ (d7.below (Below.refl _ _).drew) he8).mono ?_
            rintro e V1 ⟨A11, c11, rfl, r11, d11, g11⟩
            rw [hil] at r11 ⊢
            have u1 := t7.drew.grown g11 (by have := hz7; show g ≤ w7.heap.size; omega) (by intro r er; cases er; omega)
            refine hK.out _ _ u1 (fun hHeld => ?_)
            clear hK K_
            try simp only [Act.put, List.setIfInBounds_toArray, List.set_cons_zero, List.set_cons_succ]
            refine wpAnyH_ready (rs := [18]) (by kernel_rfl) (by simp) ?_
            refine AllReadyH.cons rfl (fun K_ hK => ?_) AllReadyH.nil
            go_simp
            have sm := same_any A11 A (k - c) c11 (k - c) 0 _ _ Fq.inp ((bs.drop c).take (k - c)) V1 r11 (HCUT.out V1 u1) (by omega) (by omega)
            rw [hir, beq_self_eq_true] at sm
            refine sm.mono ?_
            rintro e V2 ⟨rfl, kq2, rfl⟩
            have u2 := below_drewN (k := kq2) u1
            refine hK.out _ _ u2 (fun hHeld => ?_)
            clear hK K_
            try simp only [Act.put, List.setIfInBounds_toArray, List.set_cons_zero, List.set_cons_succ]
            refine wpAnyH_take (i := 19) (v := ?_) rfl (by kernel_rfl) (by kernel_rfl) (by kernel_rfl) CalmP.onlyN_panic (Or.inl ⟨by kernel_rfl, ?_⟩) (by assumption) ?_
            rotate_left
            · (intro w_ hSw; (try dsimp only at hSw); go_simp; try with_reducible rfl)
            try simp only [Act.put, List.setIfInBounds_toArray, List.set_cons_zero, List.set_cons_succ]
            refine wpAnyH_take (i := 20) (v := ?_) rfl (by kernel_rfl) (by kernel_rfl) (by kernel_rfl) CalmP.onlyN_panic (Or.inl ⟨by kernel_rfl, ?_⟩) (by assumption) ?_
            rotate_left
            · (intro w_ hSw; (try dsimp only at hSw); go_simp; try with_reducible rfl)
            try simp only [Act.put, List.setIfInBounds_toArray, List.set_cons_zero, List.set_cons_succ]
            refine wpAnyH_take (i := 21) (v := ?_) rfl (by kernel_rfl) (by kernel_rfl) (by kernel_rfl) CalmP.onlyN_panic (Or.inl ⟨by kernel_rfl, ?_⟩) (by assumption) ?_
            rotate_left
            · (intro w_ hSw; (try dsimp only at hSw); go_simp; try with_reducible rfl)
            try simp only [Act.put, List.setIfInBounds_toArray, List.set_cons_zero, List.set_cons_succ]
            refine wpAnyH_ready (rs := [22]) (by kernel_rfl) (by simp) ?_
            refine AllReadyH.cons rfl (fun K_ hK => ?_) AllReadyH.nil
            go_simp
            refine (decrest_done D D none _ _ (d11.drewN kq2) he8).mono ?_
            rintro e V3 ⟨A12, c12, rfl, r12, d12, g12⟩
            have u3 := u2.grown g12 (by have := u2.size; omega) (by intro r er; cases er; omega)
            refine hK.out _ _ u3 (fun hHeld => ?_)
            clear hK K_
            try simp only [Act.put, List.setIfInBounds_toArray, List.set_cons_zero, List.set_cons_succ]
            refine wpAnyH_take (i := 23) (v := ?_) rfl (by kernel_rfl) (by kernel_rfl) (by kernel_rfl) CalmP.onlyN_panic (Or.inl ⟨by kernel_rfl, ?_⟩) (by assumption) ?_
            rotate_left
            · (intro w_ hSw; (try dsimp only at hSw); go_simp; try with_reducible rfl)
            try simp only [Act.put, List.setIfInBounds_toArray, List.set_cons_zero, List.set_cons_succ]
            refine wpAnyH_take (i := 24) (v := ?_) rfl (by kernel_rfl) (by kernel_rfl) (by kernel_rfl) CalmP.onlyN_panic (Or.inl ⟨by kernel_rfl, ?_⟩) (by assumption) ?_
            rotate_left
            · (intro w_ hSw; (try dsimp only at hSw); go_simp; try with_reducible rfl)
            try simp only [Act.put, List.setIfInBounds_toArray, List.set_cons_zero, List.set_cons_succ]
            refine wpAnyH_take (i := 25) (v := ?_) rfl (by kernel_rfl) (by kernel_rfl) (by kernel_rfl) CalmP.onlyN_panic (Or.inl ⟨by kernel_rfl, ?_⟩) (by assumption) ?_
            rotate_left
            · (intro w_ hSw; (try dsimp only at hSw); go_simp; try with_reducible rfl)
            try simp only [Act.put, List.setIfInBounds_toArray, List.set_cons_zero, List.set_cons_succ]
            refine wpAnyH_take (i := 26) (v := ?_) rfl (by kernel_rfl) (by kernel_rfl) (by kernel_rfl) CalmP.onlyN_panic (Or.inl ⟨by kernel_rfl, ?_⟩) (by assumption) ?_
            rotate_left
            · (intro w_ hSw; (try dsimp only at hSw); go_simp; try with_reducible rfl)
            try simp only [Act.put, List.setIfInBounds_toArray, List.set_cons_zero, List.set_cons_succ]
            refine wpAnyH_take (i := 27) (v := ?_) rfl (by kernel_rfl) (by kernel_rfl) (by kernel_rfl) CalmP.onlyN_panic (Or.inl ⟨by kernel_rfl, ?_⟩) (by assumption) ?_
            rotate_left
            · (intro w_ hSw; (try dsimp only at hSw); go_simp; try with_reducible rfl)
            try simp only [Act.put, List.setIfInBounds_toArray, List.set_cons_zero, List.set_cons_succ]
            refine wpAnyH_done (by kernel_rfl) ?_ _
            refine CalmP.onlyN_here (hQ.out _ _ ?_)
            clear hQ K0
            go_wp2_with fail
            go_ret
            exact ⟨rfl, u3⟩
          · have HCUT : Hid (∀ W : World, Below g w W → Rd W g 1 (A.map (fun x => x.add used)) (k - used) (bcells ((bs.drop used).take (k - used)))) := hide fun W b => by
              have := (h.below b).cut (k := used) (m := k) (cap := c) ru1 (by omega) hnc
              rw [if_neg hcu, Nat.mul_one, Nat.mul_one, bcells_drop, bcells_take] at this
              exact this
            go_wp2_with (at_builtin; refine wpl_append_ow _ rfl _ _ _ rfl (D + 1) 5 i0 _ 1 1 Tryd.underlying26 hi0 hz0 hz1 hz2 rfl (by omega) _ _ _ rfl _ _ _ _ _ rfl ho4 hr4 (bcells_one _) (by simp [maxLen]; omega) (by omega) hD4 ?_; intro v5 w5 x1 x2 x3 x4; obtain ⟨hd5, hw5, hb5, hz5, hov5, A5, c5, hv5⟩ := fin.out v5 w5 x1 x2 x3 x4; subst hv5)
            rw [Nat.add_zero] at x1 hov5
            have p3 := dectake_any D D own Fq 3 mx w5 hd5 (fun x e => Nat.lt_of_lt_of_le (hown4 x e) hz5) (by omega) f4 (by decide) (hmx.out w5 hb5) hmD
            rw [g1, g2] at p3
            generalize takeO 3 Fq = o7 at p3
            refine p3.mono ?_
            rintro e w6 ⟨A8, c8, rfl, -, d6, g6⟩
            have t6 := hb5.grown g6 (by have := hb5.size; omega) (by intro r er; cases er; omega)
            have hz6 := g6.size
            have ho6 : Ow w6 (D + 1) 1 (.slice A5 m c5) m (bcells out) := Ow.kept (by simpa [bcells] using x1) g6 (.inr fun e => by have := (x1.lt _ e).1; omega)
            have hw6 := hw5.kept g6 (.inr fun e => by have := WD.out _ e; omega)
            have sm := same_any A5 AW m c5 wn cw _ _ out W w6 ho6.rd hw6.rd (by omega) (by omega)
            rw [HW.out, beq_self_eq_true] at sm
            clear p3 x1 x2 x3 x4 hd5 hw5 hb5 hov5 g6 ho6 hw6
            go_wp2_with fail
            refine sm.mono ?_
            rintro e w7 ⟨rfl, kq, rfl⟩
            have t7 := below_drewN (k := kq) t6
            have d7 := d6.drewN kq
            have hz7 : D < (w6.drewN kq).heap.size := by show D < w6.heap.size; omega
            generalize w6.drewN kq = w7 at t7 d7 hz7 ⊢
            clear sm t6 d6
            go_upto_region 27 with (fail)
            refine CalmP.hideN (fun K0 hQ => ?_)
            refine wp_region_held_drew (S := fun W : World => Below g w W) (by kernel_rfl) t7.drew (fun hHeld => ?_)
            refine wpAnyH_take (i := 0) (v := ?_) rfl (by kernel_rfl) (by kernel_rfl) (by kernel_rfl) CalmP.onlyN_panic (Or.inl ⟨by kernel_rfl, ?_⟩) (by assumption) ?_
            rotate_left
            · (intro w_ hSw; (try dsimp only at hSw); go_simp; try with_reducible rfl)
            try simp only [Act.put, List.setIfInBounds_toArray, List.set_cons_zero, List.set_cons_succ]
            refine wpAnyH_take (i := 1) (v := ?_) rfl (by kernel_rfl) (by kernel_rfl) (by kernel_rfl) CalmP.onlyN_panic (Or.inl ⟨by kernel_rfl, ?_⟩) (by assumption) ?_
            rotate_left
            · (intro w_ hSw; (try dsimp only at hSw); go_simp; try with_reducible rfl)
            try simp only [Act.put, List.setIfInBounds_toArray, List.set_cons_zero, List.set_cons_succ]
            refine wpAnyH_take (i := 2) (v := ?_) rfl (by kernel_rfl) (by kernel_rfl) (by kernel_rfl) CalmP.onlyN_panic (Or.inl ⟨by kernel_rfl, ?_⟩) (by assumption) ?_
            rotate_left
            · (intro w_ hSw; (try dsimp only at hSw); go_simp; try with_reducible rfl)
            try simp only [Act.put, List.setIfInBounds_toArray, List.set_cons_zero, List.set_cons_succ]
            refine wpAnyH_take (i := 3) (v := undef) rfl (by kernel_rfl) (by kernel_rfl) (by kernel_rfl) CalmP.onlyN_panic (Or.inr ⟨by kernel_rfl, rfl⟩) (by assumption) ?_
            try simp only [Act.put, List.setIfInBounds_toArray, List.set_cons_zero, List.set_cons_succ]
            refine wpAnyH_take (i := 4) (v := undef) rfl (by kernel_rfl) (by kernel_rfl) (by kernel_rfl) CalmP.onlyN_panic (Or.inr ⟨by kernel_rfl, rfl⟩) (by assumption) ?_
            try simp only [Act.put, List.setIfInBounds_toArray, List.set_cons_zero, List.set_cons_succ]
            refine wpAnyH_take (i := 5) (v := undef) rfl (by kernel_rfl) (by kernel_rfl) (by kernel_rfl) CalmP.onlyN_panic (Or.inr ⟨by kernel_rfl, rfl⟩) (by assumption) ?_
            try simp only [Act.put, List.setIfInBounds_toArray, List.set_cons_zero, List.set_cons_succ]
            refine wpAnyH_take (i := 6) (v := undef) rfl (by kernel_rfl) (by kernel_rfl) (by kernel_rfl) CalmP.onlyN_panic (Or.inr ⟨by kernel_rfl, rfl⟩) (by assumption) ?_
            try simp only [Act.put, List.setIfInBounds_toArray, List.set_cons_zero, List.set_cons_succ]
            refine wpAnyH_take (i := 7) (v := ?_) rfl (by kernel_rfl) (by kernel_rfl) (by kernel_rfl) CalmP.onlyN_panic (Or.inl ⟨by kernel_rfl, ?_⟩) (by assumption) ?_
            rotate_left
            · (intro w_ hSw; (try dsimp only at hSw); go_simp; try with_reducible rfl)
            try simp only [Act.put, List.setIfInBounds_toArray, List.set_cons_zero, List.set_cons_succ]
            refine wpAnyH_take (i := 8) (v := ?_) rfl (by kernel_rfl) (by kernel_rfl) (by kernel_rfl) CalmP.onlyN_panic (Or.inl ⟨by kernel_rfl, ?_⟩) (by assumption) ?_
            rotate_left
            · (intro w_ hSw; (try dsimp only at hSw); go_simp; try with_reducible rfl)
            try simp only [Act.put, List.setIfInBounds_toArray, List.set_cons_zero, List.set_cons_succ]
            refine wpAnyH_take (i := 9) (v := ?_) rfl (by kernel_rfl) (by kernel_rfl) (by kernel_rfl) CalmP.onlyN_panic (Or.inl ⟨by kernel_rfl, ?_⟩) (by assumption) ?_
            rotate_left
            · (intro w_ hSw; (try dsimp only at hSw); go_simp; try with_reducible rfl)
            try simp only [Act.put, List.setIfInBounds_toArray, List.set_cons_zero, List.set_cons_succ]
            refine wpAnyH_take (i := 10) (v := ?_) rfl (by kernel_rfl) (by kernel_rfl) (by kernel_rfl) CalmP.onlyN_panic (Or.inl ⟨by kernel_rfl, ?_⟩) (by assumption) ?_
            rotate_left
            · (intro w_ hSw; (try dsimp only at hSw); go_simp; try with_reducible rfl)
            try simp only [Act.put, List.setIfInBounds_toArray, List.set_cons_zero, List.set_cons_succ]
            refine wpAnyH_take (i := 11) (v := ?_) rfl (by kernel_rfl) (by kernel_rfl) (by kernel_rfl) CalmP.onlyN_panic (Or.inl ⟨by kernel_rfl, ?_⟩) (by assumption) ?_
            rotate_left
            · (intro w_ hSw; (try dsimp only at hSw); go_simp; try with_reducible rfl)
            try simp only [Act.put, List.setIfInBounds_toArray, List.set_cons_zero, List.set_cons_succ]
            refine wpAnyH_take (i := 12) (v := ?_) rfl (by kernel_rfl) (by kernel_rfl) (by kernel_rfl) CalmP.onlyN_panic (Or.inl ⟨by kernel_rfl, ?_⟩) (by assumption) ?_
            rotate_left
            · (intro w_ hSw; (try dsimp only at hSw); go_simp; try with_reducible rfl)
            try simp only [Act.put, List.setIfInBounds_toArray, List.set_cons_zero, List.set_cons_succ]
            refine wpAnyH_take (i := 14) (v := ?_) rfl (by kernel_rfl) (by kernel_rfl) (by kernel_rfl) CalmP.onlyN_panic (Or.inl ⟨by kernel_rfl, ?_⟩) (by assumption) ?_
            rotate_left
            · (intro w_ hSw; (try dsimp only at hSw); go_simp; try with_reducible rfl)
            try simp only [Act.put, List.setIfInBounds_toArray, List.set_cons_zero, List.set_cons_succ]
            refine wpAnyH_take (i := 15) (v := ?_) rfl (by kernel_rfl) (by kernel_rfl) (by kernel_rfl) CalmP.onlyN_panic (Or.inl ⟨by kernel_rfl, ?_⟩) (by assumption) ?_
            rotate_left
            · (intro w_ hSw; (try dsimp only at hSw); go_simp; try with_reducible rfl)
            try simp only [Act.put, List.setIfInBounds_toArray, List.set_cons_zero, List.set_cons_succ]
            refine wpAnyH_take (i := 16) (v := ?_) rfl (by kernel_rfl) (by kernel_rfl) (by kernel_rfl) CalmP.onlyN_panic (Or.inl ⟨by kernel_rfl, ?_⟩) (by assumption) ?_
            rotate_left
            · (intro w_ hSw; (try dsimp only at hSw); go_simp; try with_reducible rfl)
            try simp only [Act.put, List.setIfInBounds_toArray, List.set_cons_zero, List.set_cons_succ]
            refine wpAnyH_take (i := 17) (v := ?_) rfl (by kernel_rfl) (by kernel_rfl) (by kernel_rfl) CalmP.onlyN_panic (Or.inl ⟨by kernel_rfl, ?_⟩) (by assumption) ?_
            rotate_left
            · (intro w_ hSw; (try dsimp only at hSw); go_simp; try with_reducible rfl)
            try simp only [Act.put, List.setIfInBounds_toArray, List.set_cons_zero, List.set_cons_succ]
            refine wpAnyH_ready (rs := [13]) (by kernel_rfl) (by simp) ?_
            refine AllReadyH.cons rfl (fun K_ hK => ?_) AllReadyH.nil
            go_simp
            refine (decrest_done D D own Fq _ (d7.below (Below.refl _ _).drew) he8).mono ?_
            rintro e V1 ⟨A11, c11, rfl, r11, d11, g11⟩
            rw [hil] at r11 ⊢
            have u1 := t7.drew.grown g11 (by have := hz7; show g ≤ w7.heap.size; omega) (by intro r er; cases er; omega)
            refine hK.out _ _ u1 (fun hHeld => ?_)
            clear hK K_
            try simp only [Act.put, List.setIfInBounds_toArray, List.set_cons_zero, List.set_cons_succ]
            refine wpAnyH_ready (rs := [18]) (by kernel_rfl) (by simp) ?_
            refine AllReadyH.cons rfl (fun K_ hK => ?_) AllReadyH.nil
            go_simp
            have sm := same_any A11 (A.map (fun x => x.add used)) (k - used) c11 (k - used) (c - used) _ _ Fq.inp ((bs.drop used).take (k - used)) V1 r11 (HCUT.out V1 u1) (by omega) (by omega)
            rw [hir, beq_self_eq_true] at sm
            refine sm.mono ?_
            rintro e V2 ⟨rfl, kq2, rfl⟩
            have u2 := below_drewN (k := kq2) u1
            refine hK.out _ _ u2 (fun hHeld => ?_)
            clear hK K_
            try simp only [Act.put, List.setIfInBounds_toArray, List.set_cons_zero, List.set_cons_succ]
            refine wpAnyH_take (i := 19) (v := ?_) rfl (by kernel_rfl) (by kernel_rfl) (by kernel_rfl) CalmP.onlyN_panic (Or.inl ⟨by kernel_rfl, ?_⟩) (by assumption) ?_
            rotate_left
            · (intro w_ hSw; (try dsimp only at hSw); go_simp; try with_reducible rfl)
            try simp only [Act.put, List.setIfInBounds_toArray, List.set_cons_zero, List.set_cons_succ]
            refine wpAnyH_take (i := 20) (v := ?_) rfl (by kernel_rfl) (by kernel_rfl) (by kernel_rfl) CalmP.onlyN_panic (Or.inl ⟨by kernel_rfl, ?_⟩) (by assumption) ?_
            rotate_left
            · (intro w_ hSw; (try dsimp only at hSw); go_simp; try with_reducible rfl)
            try simp only [Act.put, List.setIfInBounds_toArray, List.set_cons_zero, List.set_cons_succ]
            refine wpAnyH_take (i := 21) (v := ?_) rfl (by kernel_rfl) (by kernel_rfl) (by kernel_rfl) CalmP.onlyN_panic (Or.inl ⟨by kernel_rfl, ?_⟩) (by assumption) ?_
            rotate_left
            · (intro w_ hSw; (try dsimp only at hSw); go_simp; try with_reducible rfl)
            try simp only [Act.put, List.setIfInBounds_toArray, List.set_cons_zero, List.set_cons_succ]
            refine wpAnyH_ready (rs := [22]) (by kernel_rfl) (by simp) ?_
            refine AllReadyH.cons rfl (fun K_ hK => ?_) AllReadyH.nil
            go_simp
            refine (decrest_done D D none _ _ (d11.drewN kq2) he8).mono ?_
            rintro e V3 ⟨A12, c12, rfl, r12, d12, g12⟩
            have u3 := u2.grown g12 (by have := u2.size; omega) (by intro r er; cases er; omega)
            refine hK.out _ _ u3 (fun hHeld => ?_)
            clear hK K_
            try simp only [Act.put, List.setIfInBounds_toArray, List.set_cons_zero, List.set_cons_succ]
            refine wpAnyH_take (i := 23) (v := ?_) rfl (by kernel_rfl) (by kernel_rfl) (by kernel_rfl) CalmP.onlyN_panic (Or.inl ⟨by kernel_rfl, ?_⟩) (by assumption) ?_
            rotate_left
            · (intro w_ hSw; (try dsimp only at hSw); go_simp; try with_reducible rfl)
            try simp only [Act.put, List.setIfInBounds_toArray, List.set_cons_zero, List.set_cons_succ]
            refine wpAnyH_take (i := 24) (v := ?_) rfl (by kernel_rfl) (by kernel_rfl) (by kernel_rfl) CalmP.onlyN_panic (Or.inl ⟨by kernel_rfl, ?_⟩) (by assumption) ?_
            rotate_left
            · (intro w_ hSw; (try dsimp only at hSw); go_simp; try with_reducible rfl)
            try simp only [Act.put, List.setIfInBounds_toArray, List.set_cons_zero, List.set_cons_succ]
            refine wpAnyH_take (i := 25) (v := ?_) rfl (by kernel_rfl) (by kernel_rfl) (by kernel_rfl) CalmP.onlyN_panic (Or.inl ⟨by kernel_rfl, ?_⟩) (by assumption) ?_
            rotate_left
            · (intro w_ hSw; (try dsimp only at hSw); go_simp; try with_reducible rfl)
            try simp only [Act.put, List.setIfInBounds_toArray, List.set_cons_zero, List.set_cons_succ]
            refine wpAnyH_take (i := 26) (v := ?_) rfl (by kernel_rfl) (by kernel_rfl) (by kernel_rfl) CalmP.onlyN_panic (Or.inl ⟨by kernel_rfl, ?_⟩) (by assumption) ?_
            rotate_left
            · (intro w_ hSw; (try dsimp only at hSw); go_simp; try with_reducible rfl)
            try simp only [Act.put, List.setIfInBounds_toArray, List.set_cons_zero, List.set_cons_succ]
            refine wpAnyH_take (i := 27) (v := ?_) rfl (by kernel_rfl) (by kernel_rfl) (by kernel_rfl) CalmP.onlyN_panic (Or.inl ⟨by kernel_rfl, ?_⟩) (by assumption) ?_
            rotate_left
            · (intro w_ hSw; (try dsimp only at hSw); go_simp; try with_reducible rfl)
            try simp only [Act.put, List.setIfInBounds_toArray, List.set_cons_zero, List.set_cons_succ]
            refine wpAnyH_done (by kernel_rfl) ?_ _
            refine CalmP.onlyN_here (hQ.out _ _ ?_)
            clear hQ K0
            go_wp2_with fail
            go_ret
            exact ⟨rfl, u3⟩
        · have i8 : ((EN : Int) != 8) = true := by
            rw [bne_iff_ne, hE2]; split <;> omega
          have i5 : ((EN : Int) == 5) = false ∨ (((EN : Int) == 5) = true ∧ ¬ (k : Int) < (n : Int)) := by
            by_cases h5 : EN = 5
            · exact .inr ⟨by rw [beq_iff_eq]; omega, fun hk => hC ⟨h5, by omega⟩⟩
            · exact .inl (by rw [beq_eq_false_iff_ne]; omega)
          clear hE2 hx hC hFF
          rcases i5 with i5 | ⟨i5, i6⟩
          all_goals
            go_wp2_with (at_builtin; refine wpl_append_ow _ rfl _ _ _ rfl (D + 1) 5 i0 _ 1 1 Tryd.underlying26 hi0 hz0 hz1 hz2 rfl (by omega) _ _ _ rfl _ _ _ _ _ rfl ho4 hr4 (bcells_one _) (by simp [maxLen]; omega) (by omega) hD4 ?_; intro v5 w5 x1 x2 x3 x4; obtain ⟨hd5, hw5, hb5, hz5, hov5, A5, c5, hv5⟩ := fin.out v5 w5 x1 x2 x3 x4; subst hv5)
            rw [Nat.add_zero] at x1 hov5
            have p3 := dectake_any D D own Fq 3 mx w5 hd5 (fun x e => Nat.lt_of_lt_of_le (hown4 x e) hz5) (by omega) f4 (by decide) (hmx.out w5 hb5) hmD
            rw [g1, g2] at p3
            generalize takeO 3 Fq = o7 at p3
            refine p3.mono ?_
            rintro e w6 ⟨A8, c8, rfl, -, d6, g6⟩
            have t6 := hb5.grown g6 (by have := hb5.size; omega) (by intro r er; cases er; omega)
            have hz6 := g6.size
            have ho6 : Ow w6 (D + 1) 1 (.slice A5 m c5) m (bcells out) := Ow.kept (by simpa [bcells] using x1) g6 (.inr fun e => by have := (x1.lt _ e).1; omega)
            have hw6 := hw5.kept g6 (.inr fun e => by have := WD.out _ e; omega)
            have sm := same_any A5 AW m c5 wn cw _ _ out W w6 ho6.rd hw6.rd (by omega) (by omega)
            rw [HW.out, beq_self_eq_true] at sm
            clear p3 x1 x2 x3 x4 hd5 hw5 hb5 hov5 g6 ho6 hw6
            go_wp2_with fail
            refine sm.mono ?_
            rintro e w7 ⟨rfl, kq, rfl⟩
            have t7 := below_drewN (k := kq) t6
            have d7 := d6.drewN kq
            have hz7 : D < (w6.drewN kq).heap.size := by show D < w6.heap.size; omega
            generalize w6.drewN kq = w7 at t7 d7 hz7 ⊢
            clear sm t6 d6
            go_upto_region 27 with (fail)
            refine CalmP.hideN (fun K0 hQ => ?_)
            refine wp_region_held_drew (S := fun W : World => Below g w W) (by kernel_rfl) t7.drew (fun hHeld => ?_)
            refine wpAnyH_take (i := 0) (v := ?_) rfl (by kernel_rfl) (by kernel_rfl) (by kernel_rfl) CalmP.onlyN_panic (Or.inl ⟨by kernel_rfl, ?_⟩) (by assumption) ?_
            rotate_left
            · (intro w_ hSw; (try dsimp only at hSw); go_simp; try with_reducible rfl)
            try simp only [List.getElem_toArray, List.getElem_cons_succ, List.getElem_cons_zero, Act.put, List.setIfInBounds_toArray, List.set_cons_zero, List.set_cons_succ]
            refine wpAnyH_take (i := 1) (v := ?_) rfl (by kernel_rfl) (by kernel_rfl) (by kernel_rfl) CalmP.onlyN_panic (Or.inl ⟨by kernel_rfl, ?_⟩) (by assumption) ?_
            rotate_left
            · (intro w_ hSw; (try dsimp only at hSw); go_simp; try with_reducible rfl)
            try simp only [List.getElem_toArray, List.getElem_cons_succ, List.getElem_cons_zero, Act.put, List.setIfInBounds_toArray, List.set_cons_zero, List.set_cons_succ]
            refine wpAnyH_take (i := 2) (v := ?_) rfl (by kernel_rfl) (by kernel_rfl) (by kernel_rfl) CalmP.onlyN_panic (Or.inl ⟨by kernel_rfl, ?_⟩) (by assumption) ?_
            rotate_left
            · (intro w_ hSw; (try dsimp only at hSw); go_simp; try with_reducible rfl)
            try simp only [List.getElem_toArray, List.getElem_cons_succ, List.getElem_cons_zero, Act.put, List.setIfInBounds_toArray, List.set_cons_zero, List.set_cons_succ]
            refine wpAnyH_take (i := 3) (v := ?_) rfl (by kernel_rfl) (by kernel_rfl) (by kernel_rfl) CalmP.onlyN_panic (Or.inl ⟨by kernel_rfl, ?_⟩) (by assumption) ?_
            rotate_left
            · (intro w_ hSw; (try dsimp only at hSw); go_simp; try with_reducible rfl)
            try simp only [List.getElem_toArray, List.getElem_cons_succ, List.getElem_cons_zero, Act.put, List.setIfInBounds_toArray, List.set_cons_zero, List.set_cons_succ]
            refine wpAnyH_ready (rs := [4]) (by kernel_rfl) (by simp) ?_
            refine AllReadyH.cons rfl (fun K_ hK => ?_) AllReadyH.nil
            go_simp
            refine (decrest_not D D own Fq _ (d7.below (Below.refl _ _).drew) he8).mono ?_
            rintro e V1 ⟨rfl, rfl⟩
            refine hK.out _ _ t7.drew (fun hHeld => ?_)
            clear hK K_
            try simp only [List.getElem_toArray, List.getElem_cons_succ, List.getElem_cons_zero, Act.put, List.setIfInBounds_toArray, List.set_cons_zero, List.set_cons_succ]
            refine wpAnyH_take (i := 5) (v := ?_) rfl (by kernel_rfl) (by kernel_rfl) (by kernel_rfl) CalmP.onlyN_panic (Or.inl ⟨by kernel_rfl, ?_⟩) (by assumption) ?_
            rotate_left
            · (intro w_ hSw; (try dsimp only at hSw); go_simp; try with_reducible rfl)
            try simp only [List.getElem_toArray, List.getElem_cons_succ, List.getElem_cons_zero, Act.put, List.setIfInBounds_toArray, List.set_cons_zero, List.set_cons_succ]
            refine wpAnyH_take (i := 6) (v := ?_) rfl (by kernel_rfl) (by kernel_rfl) (by kernel_rfl) CalmP.onlyN_panic (Or.inl ⟨by kernel_rfl, ?_⟩) (by assumption) ?_
            rotate_left
            · (intro w_ hSw; (try dsimp only at hSw); go_simp; try with_reducible rfl)
            try simp only [List.getElem_toArray, List.getElem_cons_succ, List.getElem_cons_zero, Act.put, List.setIfInBounds_toArray, List.set_cons_zero, List.set_cons_succ]
            refine wpAnyH_take (i := 7) (v := ?_) rfl (by kernel_rfl) (by kernel_rfl) (by kernel_rfl) CalmP.onlyN_panic (Or.inl ⟨by kernel_rfl, ?_⟩) (by assumption) ?_
            rotate_left
            · (intro w_ hSw; (try dsimp only at hSw); go_simp; try with_reducible rfl)
            try simp only [List.getElem_toArray, List.getElem_cons_succ, List.getElem_cons_zero, Act.put, List.setIfInBounds_toArray, List.set_cons_zero, List.set_cons_succ]
            refine wpAnyH_take (i := 8) (v := ?_) rfl (by kernel_rfl) (by kernel_rfl) (by kernel_rfl) CalmP.onlyN_panic (Or.inl ⟨by kernel_rfl, ?_⟩) (by assumption) ?_
            rotate_left
            · (intro w_ hSw; (try dsimp only at hSw); go_simp; try with_reducible rfl)
            try simp only [List.getElem_toArray, List.getElem_cons_succ, List.getElem_cons_zero, Act.put, List.setIfInBounds_toArray, List.set_cons_zero, List.set_cons_succ]
            refine wpAnyH_take (i := 9) (v := undef) rfl (by kernel_rfl) (by kernel_rfl) (by kernel_rfl) CalmP.onlyN_panic (Or.inr ⟨by kernel_rfl, rfl⟩) (by assumption) ?_
            try simp only [List.getElem_toArray, List.getElem_cons_succ, List.getElem_cons_zero, Act.put, List.setIfInBounds_toArray, List.set_cons_zero, List.set_cons_succ]
            refine wpAnyH_take (i := 10) (v := undef) rfl (by kernel_rfl) (by kernel_rfl) (by kernel_rfl) CalmP.onlyN_panic (Or.inr ⟨by kernel_rfl, rfl⟩) (by assumption) ?_
            try simp only [List.getElem_toArray, List.getElem_cons_succ, List.getElem_cons_zero, Act.put, List.setIfInBounds_toArray, List.set_cons_zero, List.set_cons_succ]
            refine wpAnyH_take (i := 11) (v := undef) rfl (by kernel_rfl) (by kernel_rfl) (by kernel_rfl) CalmP.onlyN_panic (Or.inr ⟨by kernel_rfl, rfl⟩) (by assumption) ?_
            try simp only [List.getElem_toArray, List.getElem_cons_succ, List.getElem_cons_zero, Act.put, List.setIfInBounds_toArray, List.set_cons_zero, List.set_cons_succ]
            refine wpAnyH_take (i := 12) (v := undef) rfl (by kernel_rfl) (by kernel_rfl) (by kernel_rfl) CalmP.onlyN_panic (Or.inr ⟨by kernel_rfl, rfl⟩) (by assumption) ?_
            try simp only [List.getElem_toArray, List.getElem_cons_succ, List.getElem_cons_zero, Act.put, List.setIfInBounds_toArray, List.set_cons_zero, List.set_cons_succ]
            refine wpAnyH_take (i := 13) (v := undef) rfl (by kernel_rfl) (by kernel_rfl) (by kernel_rfl) CalmP.onlyN_panic (Or.inr ⟨by kernel_rfl, rfl⟩) (by assumption) ?_
            try simp only [List.getElem_toArray, List.getElem_cons_succ, List.getElem_cons_zero, Act.put, List.setIfInBounds_toArray, List.set_cons_zero, List.set_cons_succ]
            refine wpAnyH_take (i := 14) (v := undef) rfl (by kernel_rfl) (by kernel_rfl) (by kernel_rfl) CalmP.onlyN_panic (Or.inr ⟨by kernel_rfl, rfl⟩) (by assumption) ?_
            try simp only [List.getElem_toArray, List.getElem_cons_succ, List.getElem_cons_zero, Act.put, List.setIfInBounds_toArray, List.set_cons_zero, List.set_cons_succ]
            refine wpAnyH_take (i := 15) (v := undef) rfl (by kernel_rfl) (by kernel_rfl) (by kernel_rfl) CalmP.onlyN_panic (Or.inr ⟨by kernel_rfl, rfl⟩) (by assumption) ?_
            try simp only [List.getElem_toArray, List.getElem_cons_succ, List.getElem_cons_zero, Act.put, List.setIfInBounds_toArray, List.set_cons_zero, List.set_cons_succ]
            refine wpAnyH_take (i := 16) (v := undef) rfl (by kernel_rfl) (by kernel_rfl) (by kernel_rfl) CalmP.onlyN_panic (Or.inr ⟨by kernel_rfl, rfl⟩) (by assumption) ?_
            try simp only [List.getElem_toArray, List.getElem_cons_succ, List.getElem_cons_zero, Act.put, List.setIfInBounds_toArray, List.set_cons_zero, List.set_cons_succ]
            refine wpAnyH_take (i := 17) (v := undef) rfl (by kernel_rfl) (by kernel_rfl) (by kernel_rfl) CalmP.onlyN_panic (Or.inr ⟨by kernel_rfl, rfl⟩) (by assumption) ?_
            try simp only [List.getElem_toArray, List.getElem_cons_succ, List.getElem_cons_zero, Act.put, List.setIfInBounds_toArray, List.set_cons_zero, List.set_cons_succ]
            refine wpAnyH_take (i := 18) (v := undef) rfl (by kernel_rfl) (by kernel_rfl) (by kernel_rfl) CalmP.onlyN_panic (Or.inr ⟨by kernel_rfl, rfl⟩) (by assumption) ?_
            try simp only [List.getElem_toArray, List.getElem_cons_succ, List.getElem_cons_zero, Act.put, List.setIfInBounds_toArray, List.set_cons_zero, List.set_cons_succ]
            refine wpAnyH_take (i := 19) (v := undef) rfl (by kernel_rfl) (by kernel_rfl) (by kernel_rfl) CalmP.onlyN_panic (Or.inr ⟨by kernel_rfl, rfl⟩) (by assumption) ?_
            try simp only [List.getElem_toArray, List.getElem_cons_succ, List.getElem_cons_zero, Act.put, List.setIfInBounds_toArray, List.set_cons_zero, List.set_cons_succ]
            refine wpAnyH_take (i := 20) (v := undef) rfl (by kernel_rfl) (by kernel_rfl) (by kernel_rfl) CalmP.onlyN_panic (Or.inr ⟨by kernel_rfl, rfl⟩) (by assumption) ?_
            try simp only [List.getElem_toArray, List.getElem_cons_succ, List.getElem_cons_zero, Act.put, List.setIfInBounds_toArray, List.set_cons_zero, List.set_cons_succ]
            refine wpAnyH_take (i := 21) (v := undef) rfl (by kernel_rfl) (by kernel_rfl) (by kernel_rfl) CalmP.onlyN_panic (Or.inr ⟨by kernel_rfl, rfl⟩) (by assumption) ?_
            try simp only [List.getElem_toArray, List.getElem_cons_succ, List.getElem_cons_zero, Act.put, List.setIfInBounds_toArray, List.set_cons_zero, List.set_cons_succ]
            refine wpAnyH_take (i := 22) (v := undef) rfl (by kernel_rfl) (by kernel_rfl) (by kernel_rfl) CalmP.onlyN_panic (Or.inr ⟨by kernel_rfl, rfl⟩) (by assumption) ?_
            try simp only [List.getElem_toArray, List.getElem_cons_succ, List.getElem_cons_zero, Act.put, List.setIfInBounds_toArray, List.set_cons_zero, List.set_cons_succ]
            refine wpAnyH_take (i := 23) (v := undef) rfl (by kernel_rfl) (by kernel_rfl) (by kernel_rfl) CalmP.onlyN_panic (Or.inr ⟨by kernel_rfl, rfl⟩) (by assumption) ?_
            try simp only [List.getElem_toArray, List.getElem_cons_succ, List.getElem_cons_zero, Act.put, List.setIfInBounds_toArray, List.set_cons_zero, List.set_cons_succ]
            refine wpAnyH_take (i := 24) (v := undef) rfl (by kernel_rfl) (by kernel_rfl) (by kernel_rfl) CalmP.onlyN_panic (Or.inr ⟨by kernel_rfl, rfl⟩) (by assumption) ?_
            try simp only [List.getElem_toArray, List.getElem_cons_succ, List.getElem_cons_zero, Act.put, List.setIfInBounds_toArray, List.set_cons_zero, List.set_cons_succ]
            refine wpAnyH_take (i := 25) (v := undef) rfl (by kernel_rfl) (by kernel_rfl) (by kernel_rfl) CalmP.onlyN_panic (Or.inr ⟨by kernel_rfl, rfl⟩) (by assumption) ?_
            try simp only [List.getElem_toArray, List.getElem_cons_succ, List.getElem_cons_zero, Act.put, List.setIfInBounds_toArray, List.set_cons_zero, List.set_cons_succ]
            refine wpAnyH_take (i := 26) (v := ?_) rfl (by kernel_rfl) (by kernel_rfl) (by kernel_rfl) CalmP.onlyN_panic (Or.inl ⟨by kernel_rfl, ?_⟩) (by assumption) ?_
            rotate_left
            · (intro w_ hSw; (try dsimp only at hSw); go_simp; try with_reducible rfl)
            try simp only [List.getElem_toArray, List.getElem_cons_succ, List.getElem_cons_zero, Act.put, List.setIfInBounds_toArray, List.set_cons_zero, List.set_cons_succ]
            refine wpAnyH_take (i := 27) (v := ?_) rfl (by kernel_rfl) (by kernel_rfl) (by kernel_rfl) CalmP.onlyN_panic (Or.inl ⟨by kernel_rfl, ?_⟩) (by assumption) ?_
            rotate_left
            · (intro w_ hSw; (try dsimp only at hSw); go_simp; try with_reducible rfl)
            try simp only [List.getElem_toArray, List.getElem_cons_succ, List.getElem_cons_zero, Act.put, List.setIfInBounds_toArray, List.set_cons_zero, List.set_cons_succ]
            refine wpAnyH_done (by kernel_rfl) ?_ _
            refine CalmP.onlyN_here (hQ.out _ _ ?_)
            clear hQ K0
            go_wp2_with fail
            go_ret
            exact ⟨rfl, t7.drew⟩
    · have hpp : 1 ≤ pl := by
        rcases Nat.eq_zero_or_pos pl with h0 | h0
        · have : E = 0 := Classical.byContradiction fun e => hp0 ⟨h0, e⟩
          have := r3.1 this; omega
        · exact h0
      obtain ⟨f', hf1, hf2⟩ := HOL.out (m + pl) k hml hk (by omega)
      have REL : Hid (∀ (A5 : Option Addr) (c5 : Nat) (w5 : World), IsDec w5 D D own S1 → Ow w5 (D + 1) 1 (.slice A5 (m + pl) c5) (m + pl) (bcells out ++ bcells P) → (∀ x, own = some x → (Value.slice A5 (m + pl) c5).ownBlock ≠ some x) → Ow w5 g 1 (.slice AW wn cw) wn (bcells W) → Below g w w5 → w4.heap.size ≤ w5.heap.size →
          ∃ (fu m' k' j' : Nat) (S : DS) (out : List UInt8) (A4 : Option Addr) (c4 : Nat) (own : Option Nat), f' = fu ∧ (Value.slice A5 (m + pl) c5) = .slice A4 m' c4 ∧ (Value.int .i64 (k : Int)) = .int .i64 k' ∧ (Value.int .i64 ((j : Int) + 1)) = .int .i64 j' ∧ fu + k' + m' = n + wn ∧ k' ≤ n ∧ m' ≤ wn ∧ j' ≤ k' + m' ∧ out.length = m' ∧ RInv bs k' S out ∧ IsDec w5 D D own S ∧ (∀ x, own = some x → x < w5.heap.size) ∧ Ow w5 (D + 1) 1 (.slice A4 m' c4) m' (bcells out) ∧ (∀ x, own = some x → (Value.slice A4 m' c4).ownBlock ≠ some x) ∧ Ow w5 g 1 (.slice AW wn cw) wn (bcells W) ∧ Below g w w5) :=
        hide fun A5 c5 w5 q1 q2 q3 q4 q5 q6 => ⟨f', m + pl, k, j + 1, S1, out ++ P, A5, c5, own, rfl, rfl, rfl, by go_num, hf1, hk, hml, by have := HJ.out; omega, by rw [List.length_append, HOUT.out, ← HPL.out], R1.out, q1, fun x e => Nat.lt_of_lt_of_le (hown4 x e) q6, by rw [← bcells_append]; exact q2, q3, q4, q5⟩
      have u1 : ¬ ((x : Int) + 1 < (pl : Int)) := by omega
      have u2 : ¬ ((wn : Int) < ((m + pl : Nat) : Int)) := by omega
      have u2' : ¬ ((wn : Int) < (m : Int) + (pl : Int)) := by omega
      have u3 : ((pl : Int) == 0) = false := by rw [beq_eq_false_iff_ne]; omega
      have u3' : ¬ pl = 0 := by omega
      by_cases hE0 : E = 0
      · have hpx := r3.1 hE0
        have v1 : ((E : Int) == 0) = true := by rw [beq_iff_eq]; omega
        have v2 : ((pl : Int) == (x : Int) + 1) = true := by rw [beq_iff_eq]; omega
        have v3 : ((E : Int) != 0) = false := by simp; omega
        clear hE0 hpx r3 hp0 r2 HOL RS
        go_wp2_with (at_builtin; refine wpl_append_ow _ rfl _ _ _ rfl (D + 1) 5 i0 _ 1 1 Tryd.underlying26 hi0 hz0 hz1 hz2 rfl (by omega) _ _ _ rfl _ _ _ _ _ rfl ho4 hr4 (bcells_one _) (by simp [maxLen]; omega) (by omega) hD4 ?_; intro v5 w5 x1 x2 x3 x4; obtain ⟨hd5, hw5, hb5, hz5, hov5, A5, c5, hv5⟩ := fin.out v5 w5 x1 x2 x3 x4; subst hv5)
        go_roundg f'
        case measure => have := HFU.out; omega
        case rel => exact REL.out A5 c5 w5 hd5 x1 hov5 hw5 hb5 hz5
      · have hpx : ¬ pl = x + 1 := fun e => hE0 (r3.2 e)
        have v1 : ((E : Int) == 0) = false := by rw [beq_eq_false_iff_ne]; omega
        have v2 : ((pl : Int) == (x : Int) + 1) = false := by rw [beq_eq_false_iff_ne]; omega
        have v3 : ((E : Int) != 0) = true := by simp; omega
        clear hE0 hpx r3 hp0 r2 HOL RS
        go_wp2_with (at_builtin; refine wpl_append_ow _ rfl _ _ _ rfl (D + 1) 5 i0 _ 1 1 Tryd.underlying26 hi0 hz0 hz1 hz2 rfl (by omega) _ _ _ rfl _ _ _ _ _ rfl ho4 hr4 (bcells_one _) (by simp [maxLen]; omega) (by omega) hD4 ?_; intro v5 w5 x1 x2 x3 x4; obtain ⟨hd5, hw5, hb5, hz5, hov5, A5, c5, hv5⟩ := fin.out v5 w5 x1 x2 x3 x4; subst hv5)
        go_roundg f'
        case measure => have := HFU.out; omega
        case rel => exact REL.out A5 c5 w5 hd5 x1 hov5 hw5 hb5 hz5
noncomputable def laidWorld (os : Os) : World := laidWorld7 os
end Go.Proofs.YtdpcncpfbaigeaaDoor.ChunkReadsP
