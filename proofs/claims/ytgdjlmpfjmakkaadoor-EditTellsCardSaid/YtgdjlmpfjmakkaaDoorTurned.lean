/- edit.turned: the fields of a body in another coding. -/
import Derived.Test.YtgdjlmpfjmakkaaDoorWithout
import Derived.Test.YtgdjlmpfjmakkaaDoorEditSmall
import Derived.Deep.CutRange
import Derived.Deep.DeepCutAuto
namespace Go.Proofs.YtgdjlmpfjmakkaaDoor
open Go.RowKit

/-- A list of fields of the call's own. -/
def Lst (base : Nat) (v : Value) (W : World) (fs : List (List UInt8 × List UInt8)) : Prop := ∃ A n c, v = .slice A n c ∧ Ow W base 2 (.slice A n c) n (fcells fs) ∧ n ≤ c
theorem Lst.below {base : Nat} {v : Value} {W W' : World} {fs : List (List UInt8 × List UInt8)} (h : Lst base v W fs) (b : Below W.heap.size W W') : Lst base v W' fs := by
  obtain ⟨A, n, c, h1, h2, h3⟩ := h
  exact ⟨A, n, c, h1, h2.below b, h3⟩
theorem ow_flen {W : World} {base n : Nat} {v : Value} {fs : List (List UInt8 × List UInt8)} (h : Ow W base 2 v n (fcells fs)) : fs.length = n := by have := h.1; rw [fcells_length] at this; omega
def turnC : List (List UInt8) := [codeC, lenC, md5C, rangesC]
theorem turn_ok1 {fs : List (List UInt8 × List UInt8)} (h : ∀ f ∈ fs, f.1.length ≤ 500000 ∧ f.2.length ≤ 500000) : fsOk fs := fun f hf => by have := h f hf; omega
theorem turn_ok2 {fs : List (List UInt8 × List UInt8)} (h : ∀ f ∈ fs, f.1.length ≤ 500000 ∧ f.2.length ≤ 500000) : fsOk (turn2 fs) := by
  unfold turn2; split
  · have h1 := head_le (b := 500000) (fun f hf => (h f hf).2) etagC
    have h2 := weakL_len ((getL fs etagC).headD [])
    exact fsOk_set (turn_ok1 h) (by decide) (by omega)
  · exact turn_ok1 h
theorem turn_ok3 {fs : List (List UInt8 × List UInt8)} (h : fsOk fs) (kd : Nat) : fsOk (turn3 fs kd) := by
  unfold turn3; split
  · refine fsOk_set h (by decide) ?_
    have : (cnameL kd).length ≤ 10 := by rcases kd with _ | _ | _ | kd <;> simp [cnameL]
    omega
  · exact h
theorem turn3_len (fs : List (List UInt8 × List UInt8)) (kd : Nat) : (turn3 fs kd).length ≤ fs.length + 1 := by
  unfold turn3; split
  · exact setL_len _ _ _
  · omega
theorem pick4_0 (a b c d : ByteArray) (w : World) : (Instr.index 104 (.agg #[.string a, .string b, .string c, .string d]) (.int .i64 0)).run Tryd.prog w = .ok (.string a) w := by kernel_rfl
theorem pick4_1 (a b c d : ByteArray) (w : World) : (Instr.index 104 (.agg #[.string a, .string b, .string c, .string d]) (.int .i64 1)).run Tryd.prog w = .ok (.string b) w := by kernel_rfl
theorem pick4_2 (a b c d : ByteArray) (w : World) : (Instr.index 104 (.agg #[.string a, .string b, .string c, .string d]) (.int .i64 2)).run Tryd.prog w = .ok (.string c) w := by kernel_rfl
theorem pick4_3 (a b c d : ByteArray) (w : World) : (Instr.index 104 (.agg #[.string a, .string b, .string c, .string d]) (.int .i64 3)).run Tryd.prog w = .ok (.string d) w := by kernel_rfl
set_option maxRecDepth 100000 in
theorem cname_any (kd : Nat) (hkd : kd ≤ 2) (w : World) : Calls Tryd.prog 87 #[.int .i64 kd] w fun e w' => e = .returned (.string ⟨(cnameL kd).toArray⟩) ∧ w = w' := by
  have hc : kd = 0 ∨ kd = 1 ∨ kd = 2 := by omega
  rcases hc with rfl | rfl | rfl <;> simp only [cnameL] <;>
    (go_enter Tryd.func87, Tryd.ntmps87
     go_wp2
     go_ret
     exact ⟨rfl, rfl⟩)
set_option maxRecDepth 100000 in
theorem called_any (kd : Nat) (hkd : kd ≤ 2) (w : World) : Calls Tryd.prog 61 #[.int .i64 kd] w fun e w' => e = .returned (.string ⟨(cnameL kd).toArray⟩) ∧ Below w.heap.size w w' := by
  have hc : kd = 0 ∨ kd = 1 ∨ kd = 2 := by omega
  rcases hc with rfl | rfl | rfl <;> simp only [cnameL] <;>
    (go_enter Tryd.func61, Tryd.ntmps61
     go_wp2
     go_ret
     exact ⟨rfl, (Below.refl _ _).alloc (Nat.le_refl _) _⟩)

set_option maxRecDepth 100000 in
set_option maxHeartbeats 6400000 in
theorem turned_any (A : Option Addr) (n c B : Nat) (fs : List (List UInt8 × List UInt8)) (kd : Nat) (hkd : kd ≤ 2) (w : World) (h : Rd w B 2 A n (fcells fs)) (hB : B ≤ w.heap.size) (hn : n ≤ 990) (hok5 : ∀ f ∈ fs, f.1.length ≤ 500000 ∧ f.2.length ≤ 500000) :
    Calls Tryd.prog 58 #[.slice A n c, .int .i64 kd] w fun e w' => (∃ v, e = .returned v ∧ Lst w.heap.size v w' (turnedL fs kd)) ∧ Below w.heap.size w w' := by
  have hok := turn_ok1 hok5
  have hflen := h.flen
  have hp0 := pick4_0 ⟨codeC.toArray⟩ ⟨lenC.toArray⟩ ⟨md5C.toArray⟩ ⟨rangesC.toArray⟩
  have hp1 := pick4_1 ⟨codeC.toArray⟩ ⟨lenC.toArray⟩ ⟨md5C.toArray⟩ ⟨rangesC.toArray⟩
  have hp2 := pick4_2 ⟨codeC.toArray⟩ ⟨lenC.toArray⟩ ⟨md5C.toArray⟩ ⟨rangesC.toArray⟩
  have hp3 := pick4_3 ⟨codeC.toArray⟩ ⟨lenC.toArray⟩ ⟨md5C.toArray⟩ ⟨rangesC.toArray⟩
  simp only [codeC, lenC, md5C, rangesC] at hp0 hp1 hp2 hp3
  go_enter Tryd.func58, Tryd.ntmps58
  go_wp2_with fail
  go_loopw [0, 9] (fun v i wr2 => ∃ (j : Nat) (Al : Option Addr) (nl cl : Nat), j ≤ 4 ∧ i = .int .i64 j ∧ v = .slice Al nl cl ∧ nl ≤ n ∧ (∃ B', B' ≤ wr2.heap.size ∧ Rd wr2 B' 2 Al nl (fcells (dropsL fs (turnC.take j)))) ∧ (0 < j → nl ≤ cl ∧ Ow wr2 w.heap.size 2 v nl (fcells (dropsL fs (turnC.take j)))) ∧ Below w.heap.size w wr2) (fun _ i _ => 4 - (intOf i).toNat)
  case atStart => exact ⟨0, _, _, _, Nat.zero_le _, rfl, rfl, Nat.le_refl _, ⟨B, hB, h⟩, fun h => absurd h (by omega), Below.refl _ _⟩
  case round =>
    obtain ⟨j, Al, nl, cl, hj, rfl, rfl, hnl, ⟨B', hB', rl⟩, hol, hb⟩ := hrel
    have hcase : j = 0 ∨ j = 1 ∨ j = 2 ∨ j = 3 ∨ j = 4 := by omega
    rcases hcase with rfl | rfl | rfl | rfl | rfl
    · have hdr := drop_any Al nl cl B' (dropsL fs (turnC.take 0)) ⟨#[67, 111, 110, 116, 101, 110, 116, 45, 69, 110, 99, 111, 100, 105, 110, 103]⟩ wr rl hB' (by omega) (fsOk_drops hok _) (by decide)
      have hds : dropL (dropsL fs (turnC.take 0)) (⟨#[67, 111, 110, 116, 101, 110, 116, 45, 69, 110, 99, 111, 100, 105, 110, 103]⟩ : ByteArray).data.toList = dropsL fs (turnC.take 1) := rfl
      rw [hds] at hdr
      have hll := dropsL_len (turnC.take 1) fs
      rw [hflen] at hll
      obtain ⟨gs, hgs⟩ : ∃ gs, gs = dropsL fs (turnC.take 1) := ⟨_, rfl⟩
      rw [← hgs] at hdr hll
      obtain ⟨ng, hng⟩ : ∃ n, gs.length = n := ⟨_, rfl⟩
      rw [hng] at hdr hll
      have HGS := hide hgs
      clear hds hgs hng hol rl
      go_wp2_with fail
      refine hdr.mono ?_
      rintro e w5 ⟨A5, c5, rfl, o5, hc5, b5⟩
      have r5 := o5.rd
      have o5' := o5.base_ hb.size
      have t5 := hb.trans (b5.mono hb.size)
      clear hdr o5 hp0 hp1 hp2 hp3
      go_wp2
      go_roundw
      case rel => exact ⟨1, _, _, _, by omega, rfl, rfl, hll, ⟨_, Nat.le_refl _, by rw [← HGS.out]; exact r5⟩, fun _ => ⟨hc5, by rw [← HGS.out]; exact o5'⟩, t5⟩
      case measure => simp [intOf]
    · have hdr := drop_any Al nl cl B' (dropsL fs (turnC.take 1)) ⟨#[67, 111, 110, 116, 101, 110, 116, 45, 76, 101, 110, 103, 116, 104]⟩ wr rl hB' (by omega) (fsOk_drops hok _) (by decide)
      have hds : dropL (dropsL fs (turnC.take 1)) (⟨#[67, 111, 110, 116, 101, 110, 116, 45, 76, 101, 110, 103, 116, 104]⟩ : ByteArray).data.toList = dropsL fs (turnC.take 2) := rfl
      rw [hds] at hdr
      have hll := dropsL_len (turnC.take 2) fs
      rw [hflen] at hll
      obtain ⟨gs, hgs⟩ : ∃ gs, gs = dropsL fs (turnC.take 2) := ⟨_, rfl⟩
      rw [← hgs] at hdr hll
      obtain ⟨ng, hng⟩ : ∃ n, gs.length = n := ⟨_, rfl⟩
      rw [hng] at hdr hll
      have HGS := hide hgs
      clear hds hgs hng hol rl
      go_wp2_with fail
      refine hdr.mono ?_
      rintro e w5 ⟨A5, c5, rfl, o5, hc5, b5⟩
      have r5 := o5.rd
      have o5' := o5.base_ hb.size
      have t5 := hb.trans (b5.mono hb.size)
      clear hdr o5 hp0 hp1 hp2 hp3
      go_wp2
      go_roundw
      case rel => exact ⟨2, _, _, _, by omega, rfl, rfl, hll, ⟨_, Nat.le_refl _, by rw [← HGS.out]; exact r5⟩, fun _ => ⟨hc5, by rw [← HGS.out]; exact o5'⟩, t5⟩
      case measure => simp [intOf]
    · have hdr := drop_any Al nl cl B' (dropsL fs (turnC.take 2)) ⟨#[67, 111, 110, 116, 101, 110, 116, 45, 77, 68, 53]⟩ wr rl hB' (by omega) (fsOk_drops hok _) (by decide)
      have hds : dropL (dropsL fs (turnC.take 2)) (⟨#[67, 111, 110, 116, 101, 110, 116, 45, 77, 68, 53]⟩ : ByteArray).data.toList = dropsL fs (turnC.take 3) := rfl
      rw [hds] at hdr
      have hll := dropsL_len (turnC.take 3) fs
      rw [hflen] at hll
      obtain ⟨gs, hgs⟩ : ∃ gs, gs = dropsL fs (turnC.take 3) := ⟨_, rfl⟩
      rw [← hgs] at hdr hll
      obtain ⟨ng, hng⟩ : ∃ n, gs.length = n := ⟨_, rfl⟩
      rw [hng] at hdr hll
      have HGS := hide hgs
      clear hds hgs hng hol rl
      go_wp2_with fail
      refine hdr.mono ?_
      rintro e w5 ⟨A5, c5, rfl, o5, hc5, b5⟩
      have r5 := o5.rd
      have o5' := o5.base_ hb.size
      have t5 := hb.trans (b5.mono hb.size)
      clear hdr o5 hp0 hp1 hp2 hp3
      go_wp2
      go_roundw
      case rel => exact ⟨3, _, _, _, by omega, rfl, rfl, hll, ⟨_, Nat.le_refl _, by rw [← HGS.out]; exact r5⟩, fun _ => ⟨hc5, by rw [← HGS.out]; exact o5'⟩, t5⟩
      case measure => simp [intOf]
    · have hdr := drop_any Al nl cl B' (dropsL fs (turnC.take 3)) ⟨#[65, 99, 99, 101, 112, 116, 45, 82, 97, 110, 103, 101, 115]⟩ wr rl hB' (by omega) (fsOk_drops hok _) (by decide)
      have hds : dropL (dropsL fs (turnC.take 3)) (⟨#[65, 99, 99, 101, 112, 116, 45, 82, 97, 110, 103, 101, 115]⟩ : ByteArray).data.toList = dropsL fs (turnC.take 4) := rfl
      rw [hds] at hdr
      have hll := dropsL_len (turnC.take 4) fs
      rw [hflen] at hll
      obtain ⟨gs, hgs⟩ : ∃ gs, gs = dropsL fs (turnC.take 4) := ⟨_, rfl⟩
      rw [← hgs] at hdr hll
      obtain ⟨ng, hng⟩ : ∃ n, gs.length = n := ⟨_, rfl⟩
      rw [hng] at hdr hll
      have HGS := hide hgs
      clear hds hgs hng hol rl
      go_wp2_with fail
      refine hdr.mono ?_
      rintro e w5 ⟨A5, c5, rfl, o5, hc5, b5⟩
      have r5 := o5.rd
      have o5' := o5.base_ hb.size
      have t5 := hb.trans (b5.mono hb.size)
      clear hdr o5 hp0 hp1 hp2 hp3
      go_wp2
      go_roundw
      case rel => exact ⟨4, _, _, _, by omega, rfl, rfl, hll, ⟨_, Nat.le_refl _, by rw [← HGS.out]; exact r5⟩, fun _ => ⟨hc5, by rw [← HGS.out]; exact o5'⟩, t5⟩
      case measure => simp [intOf]
    · obtain ⟨h1, h2⟩ := hol (by omega)
      have e1 : dropsL fs (turnC.take 4) = turn1 fs := rfl
      rw [e1] at h2
      have hok1 : ∀ f ∈ turn1 fs, f.1.length ≤ 500000 ∧ f.2.length ≤ 500000 := fun f hf => by
        rw [turn1_drops, dropsL_filter] at hf
        exact hok5 f (List.mem_filter.1 hf).1
      obtain ⟨g1, hg1⟩ : ∃ g, g = turn1 fs := ⟨_, rfl⟩
      have hfin : turnedL fs kd = turn4 (turn3 (turn2 g1) kd) := by rw [hg1]; rfl
      rw [← hg1] at h2 hok1
      have HFIN := hide hfin
      have hgl := ow_flen h2
      have q1 := fun (W : World) (b : Below wr.heap.size wr W) => get_any Al nl cl _ g1 ⟨#[69, 84, 97, 103]⟩ W (h2.rd.below b) b.size (by omega) (turn_ok1 hok1) (by decide)
      change ∀ (W : World), _ → Calls Tryd.prog 72 _ W (fun e w' => ∃ A' c', e = .returned (.slice A' (getL g1 etagC).length c') ∧ w'.ownsRow W.heap.size 9 1 (.slice A' (getL g1 etagC).length c') (getL g1 etagC).length (scells (getL g1 etagC)) ∧ (getL g1 etagC).length ≤ c' ∧ Below W.heap.size W w') at q1
      have hhd := head_le (b := 500000) (fun f hf => (hok1 f hf).2) etagC
      have hok2 := turn_ok2 hok1
      have hln2 := turn2_len g1
      rw [hgl] at hln2
      obtain ⟨g2, hg2⟩ : ∃ g, g = turn2 g1 := ⟨_, rfl⟩
      have hg2' := hg2
      unfold turn2 at hg2'
      rw [← hg2] at hok2 hln2
      have HG2 := hide hg2'
      have HFIN2 := hide (show turnedL fs kd = turn4 (turn3 g2 kd) by rw [hg2]; exact hfin)
      have H1 := hide h1
      clear hol rl hg1 hg2 hg2' hfin HFIN hp0 hp1 hp2 hp3 e1 h1 hgl
      obtain ⟨T, hT⟩ : ∃ T, T = getL g1 etagC := ⟨_, rfl⟩
      rw [← hT] at HG2 hhd
      simp only [← hT] at q1
      have HT := hide hT
      obtain ⟨nT, hnT⟩ : ∃ n, T.length = n := ⟨_, rfl⟩
      simp only [hnT] at q1
      have HNT := hide hnT
      clear hT hnT
      go_wp2_with fail
      refine (q1 wr (Below.refl _ _)).mono ?_
      rintro e w1 ⟨A1, c1, rfl, o1, hc1, b1⟩
      have rT := Rd.of_own o1
      have h2' := h2.below b1
      have t1 := hb.trans (b1.mono hb.size)
      clear o1 q1 h2
      go_upto_if 20 with (fail)
      go_cut [0, 7] from 17 to 26 (fun s _ wx => Lst w.heap.size s wx g2 ∧ Below w.heap.size w wx)
      case first =>
        by_cases h0 : 0 < nT
        · have hl0 : 0 < T.length := by have := HNT.out; omega
          obtain ⟨a, rfl, -, hcell⟩ := rT.text (k := 0) h0 hl0
          rw [head_of hl0, Addr.add_zero'] at hcell
          obtain ⟨x, hx⟩ : ∃ x, x = T.headD [] := ⟨_, rfl⟩
          rw [← hx] at hcell hhd
          have hg2 : g2 = setL g1 etagC (weakL x) := by rw [HG2.out, if_pos hl0, hx]
          have hwk := fun W => weak_any ⟨x.toArray⟩ W (by rw [mk_size]; omega)
          rw [mk_list] at hwk
          obtain ⟨bw, hbw⟩ : ∃ b : ByteArray, b = ⟨(weakL x).toArray⟩ := ⟨_, rfl⟩
          have hst := fun (W : World) (b : Below w1.heap.size w1 W) => set_any Al nl cl _ g1 ⟨#[69, 84, 97, 103]⟩ bw W (h2'.rd.below b) b.size (by omega) (turn_ok1 hok1) (by decide)
          have e2 : setL g1 (⟨#[69, 84, 97, 103]⟩ : ByteArray).data.toList bw.data.toList = g2 := by rw [hg2, hbw]; rfl
          rw [e2] at hst
          simp only [← hbw] at hwk
          obtain ⟨sx, hsx⟩ : ∃ s : ByteArray, s = ⟨x.toArray⟩ := ⟨_, rfl⟩
          rw [← hsx] at hcell
          simp only [← hsx] at hwk
          obtain ⟨n2, hn2⟩ : ∃ n, g2.length = n := ⟨_, rfl⟩
          simp only [hn2] at hst
          clear hx hg2 hbw e2 hsx hn2 hl0
          go_wp2_with fail
          refine (hwk w1).mono ?_
          rintro e w2 ⟨rfl, b2⟩
          go_wp2_with fail
          refine (hst w2 b2).mono ?_
          rintro e w3 ⟨A3, c3, rfl, o3, hc3, b3⟩
          have o3' := (Ow.of_row o3).base_ (Nat.le_trans t1.size b2.size)
          have t3 := (t1.trans (b2.mono t1.size)).trans (b3.mono (Nat.le_trans t1.size b2.size))
          clear o3 hwk hst
          go_wp2_with fail
          go_meet
          exact ⟨⟨A3, n2, c3, rfl, o3', hc3⟩, t3⟩
        · have hg2 : g2 = g1 := by rw [HG2.out, if_neg (by have := HNT.out; omega)]
          have HG := hide hg2
          clear hg2
          go_wp2_with fail
          go_meet
          exact ⟨⟨Al, nl, cl, rfl, by rw [HG.out]; exact h2', H1.out⟩, t1⟩
      case rest =>
        obtain ⟨⟨A2, n2, c2, rfl, o2, hc2⟩, t2⟩ := hcut
        have hl2 := ow_flen o2
        rw [hl2] at hln2
        clear h2' rT HG2 HT HNT hhd hok1 b1 t1 hb hB' hok5 hok hl2
        have hok3 := turn_ok3 hok2 kd
        have hln3 := turn3_len g2 kd
        rw [ow_flen o2] at hln3
        obtain ⟨g3, hg3⟩ : ∃ g, g = turn3 g2 kd := ⟨_, rfl⟩
        have hg3' := hg3
        unfold turn3 at hg3'
        rw [← hg3] at hok3 hln3
        have HG3 := hide hg3'
        have HFIN3 := hide (show turnedL fs kd = turn4 g3 by rw [hg3]; exact HFIN2.out)
        clear hg3 hg3' HFIN2
        go_upto_if 28 with (fail)
        go_cut [0] from 27 to 32 (fun s wx => Lst w.heap.size s wx g3 ∧ Below w.heap.size w wx)
        case first =>
          by_cases hk0 : kd = 0
          · subst hk0
            have hg := HG3.out
            rw [if_neg (by simp)] at hg
            have HG := hide hg
            clear hg
            go_wp2_with fail
            go_meet
            exact ⟨⟨A2, n2, c2, rfl, by rw [HG.out]; exact o2, hc2⟩, t2⟩
          · have hg := HG3.out
            rw [if_pos hk0] at hg
            have hnm := fun W => cname_any kd hkd W
            obtain ⟨bn, hbn⟩ : ∃ b : ByteArray, b = ⟨(cnameL kd).toArray⟩ := ⟨_, rfl⟩
            have hst := fun (W : World) (b : Below wc.heap.size wc W) => set_any A2 n2 c2 _ g2 ⟨#[67, 111, 110, 116, 101, 110, 116, 45, 69, 110, 99, 111, 100, 105, 110, 103]⟩ bn W (o2.rd.below b) b.size (by omega) hok2 (by decide)
            have e2 : setL g2 (⟨#[67, 111, 110, 116, 101, 110, 116, 45, 69, 110, 99, 111, 100, 105, 110, 103]⟩ : ByteArray).data.toList bn.data.toList = g3 := by rw [hg, hbn]; rfl
            rw [e2] at hst
            simp only [← hbn] at hnm
            obtain ⟨n3, hn3⟩ : ∃ n, g3.length = n := ⟨_, rfl⟩
            simp only [hn3] at hst
            have hk1 : ((kd : Int) == 0) = false := by simpa using hk0
            have hk2 : ((kd : Int) != 0) = true := by simpa using hk0
            clear hg hbn e2 hn3 hk0
            go_wp2_with fail
            refine (hnm wc).mono ?_
            rintro e w4 ⟨rfl, rfl⟩
            go_wp2_with fail
            refine (hst wc (Below.refl _ _)).mono ?_
            rintro e w5 ⟨A5, c5, rfl, o5, hc5, b5⟩
            have o5' := (Ow.of_row o5).base_ t2.size
            have t5 := t2.trans (b5.mono t2.size)
            clear o5 hnm hst
            go_wp2_with fail
            go_meet
            exact ⟨⟨A5, n3, c5, rfl, o5', hc5⟩, t5⟩
        case rest =>
          obtain ⟨⟨A3, n3, c3, rfl, o3, hc3⟩, t3⟩ := hcut
          have hl3 := ow_flen o3
          rw [hl3] at hln3
          clear o2 t2 HG3 hok2 hc2 hl3
          have q1 := fun (W : World) (b : Below wc.heap.size wc W) => has_any A3 n3 c3 _ g3 ⟨#[86, 97, 114, 121]⟩ ⟨#[65, 99, 99, 101, 112, 116, 45, 69, 110, 99, 111, 100, 105, 110, 103]⟩ W (o3.rd.below b) b.size (by omega) hok3 (by decide) (by decide)
          have q2 := fun (W : World) (b : Below wc.heap.size wc W) => has_any A3 n3 c3 _ g3 ⟨#[86, 97, 114, 121]⟩ ⟨#[42]⟩ W (o3.rd.below b) b.size (by omega) hok3 (by decide) (by decide)
          change ∀ (W : World), _ → Calls Tryd.prog 69 _ W (fun e w' => e = .returned (.bool (hasL g3 varyC aeC)) ∧ _) at q1
          change ∀ (W : World), _ → Calls Tryd.prog 69 _ W (fun e w' => e = .returned (.bool (hasL g3 varyC [42])) ∧ _) at q2
          have hwi := fun (W : World) (b : Below wc.heap.size wc W) => with_any A3 n3 c3 _ g3 ⟨#[86, 97, 114, 121]⟩ ⟨#[65, 99, 99, 101, 112, 116, 45, 69, 110, 99, 111, 100, 105, 110, 103]⟩ W (o3.rd.below b) b.size (by omega)
          have hfin := HFIN3.out
          unfold turn4 at hfin
          obtain ⟨x1, hx1⟩ : ∃ x, x = hasL g3 varyC aeC := ⟨_, rfl⟩
          obtain ⟨x2, hx2⟩ : ∃ x, x = hasL g3 varyC [42] := ⟨_, rfl⟩
          rw [← hx1] at q1 hfin
          rw [← hx2] at q2 hfin
          have HF := hide hfin
          clear hx1 hx2 hfin HFIN3
          rcases x1 with _ | _
          · rcases x2 with _ | _
            · go_wp2_with fail
              refine (q1 wc (Below.refl _ _)).mono ?_
              rintro e w6 ⟨rfl, b6⟩
              go_wp2_with fail
              refine (q2 w6 b6).mono ?_
              rintro e w7 ⟨rfl, b7⟩
              have b67 := b6.trans (b7.mono b6.size)
              go_wp2_with fail
              refine (hwi w7 b67).mono ?_
              rintro e w8 ⟨A8, c8, rfl, o8, hc8, b8⟩
              have t8 := t3.trans ((b67.trans (b8.mono b67.size)).mono t3.size)
              have o8' := o8.base_ (Nat.le_trans t3.size b67.size)
              clear o8 q1 q2 hwi
              go_wp2
              go_ret
              exact ⟨⟨_, rfl, A8, n3 + 1, c8, rfl, by rw [HF.out, if_pos (by simp)]; exact o8', hc8⟩, t8⟩
            · go_wp2_with fail
              refine (q1 wc (Below.refl _ _)).mono ?_
              rintro e w6 ⟨rfl, b6⟩
              go_wp2_with fail
              refine (q2 w6 b6).mono ?_
              rintro e w7 ⟨rfl, b7⟩
              have b67 := b6.trans (b7.mono b6.size)
              go_wp2
              go_ret
              exact ⟨⟨_, rfl, A3, n3, c3, rfl, by rw [HF.out, if_neg (by simp)]; exact o3.below b67, hc3⟩, t3.trans (b67.mono t3.size)⟩
          · go_wp2_with fail
            refine (q1 wc (Below.refl _ _)).mono ?_
            rintro e w6 ⟨rfl, b6⟩
            go_wp2
            go_ret
            exact ⟨⟨_, rfl, A3, n3, c3, rfl, by rw [HF.out, if_neg (by simp)]; exact o3.below b6, hc3⟩, t3.trans (b6.mono t3.size)⟩
end Go.Proofs.YtgdjlmpfjmakkaaDoor
