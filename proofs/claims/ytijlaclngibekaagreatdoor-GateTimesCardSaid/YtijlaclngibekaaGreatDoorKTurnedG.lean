/- edit.turned: the fields of a body in another coding. -/
import Derived.Test.YtijlaclngibekaaGreatDoorKMemberG
import Derived.Test.YtijlaclngibekaaGreatDoorKHasG
import Derived.Deep.CutRange
import Derived.Deep.DeepCutAuto
import Derived.Test.YtijlaclngibekaaGreatDoorKBoxG
import Derived.Deep.CutBlock
import Derived.Test.YtijlaclngibekaaGreatDoorKBase
namespace Go.Proofs.YtijlaclngibekaaGreatDoor
open Go.RowKit

/-- A list of fields of the call's own. -/
def Lst (base : Nat) (v : Value) (W : World) (fs : List (List UInt8 × List UInt8)) : Prop := ∃ A n c, v = .slice A n c ∧ Ow W base 2 (.slice A n c) n (fcells fs) ∧ n ≤ c
theorem Lst.below {base : Nat} {v : Value} {W W' : World} {fs : List (List UInt8 × List UInt8)} (h : Lst base v W fs) (b : Below W.heap.size W W') : Lst base v W' fs := by
  obtain ⟨A, n, c, h1, h2, h3⟩ := h
  exact ⟨A, n, c, h1, h2.below b, h3⟩
theorem ow_flen {W : World} {base n : Nat} {v : Value} {fs : List (List UInt8 × List UInt8)} (h : Ow W base 2 v n (fcells fs)) : fs.length = n := by have := h.1; rw [fcells_length] at this; omega
def turnC : List (List UInt8) := [codeC, lenC, md5C, rangesC]
theorem turn_ok1 {fs : List (List UInt8 × List UInt8)} (h : ∀ f ∈ fs, f.1.length ≤ 500000 ∧ f.2.length ≤ 500000) : fsOk fs := fun f hf => by have := h f hf; omega
theorem turn_ok2 {fs : List (List UInt8 × List UInt8)} (h : ∀ f ∈ fs, f.1.length ≤ 500000 ∧ f.2.length ≤ 500000) : fsOk (turn2 fs) := by
  unfold turn2; split
  · have h1 := head_le (b := 500000) (fun f hf => (h f hf).2) etagC
    have h2 := weakL_len ((getL fs etagC).headD [])
    exact fsOk_set (turn_ok1 h) (by decide) (by omega)
  · exact turn_ok1 h
theorem turn_ok3 {fs : List (List UInt8 × List UInt8)} (h : fsOk fs) (kd : Nat) : fsOk (turn3 fs kd) := by
  unfold turn3; split
  · refine fsOk_set h (by decide) ?_
    have : (cnameL kd).length ≤ 10 := by rcases kd with _ | _ | _ | kd <;> simp [cnameL]
    omega
  · exact h
theorem turn3_len (fs : List (List UInt8 × List UInt8)) (kd : Nat) : (turn3 fs kd).length ≤ fs.length + 1 := by
  unfold turn3; split
  · exact setL_len _ _ _
  · omega
theorem pick4_0 (a b c d : ByteArray) (w : World) : (Instr.index 259 (.agg #[.string a, .string b, .string c, .string d]) (.int .i64 0)).run Tryz.prog w = .ok (.string a) w := by kernel_rfl
theorem pick4_1 (a b c d : ByteArray) (w : World) : (Instr.index 259 (.agg #[.string a, .string b, .string c, .string d]) (.int .i64 1)).run Tryz.prog w = .ok (.string b) w := by kernel_rfl
theorem pick4_2 (a b c d : ByteArray) (w : World) : (Instr.index 259 (.agg #[.string a, .string b, .string c, .string d]) (.int .i64 2)).run Tryz.prog w = .ok (.string c) w := by kernel_rfl
theorem pick4_3 (a b c d : ByteArray) (w : World) : (Instr.index 259 (.agg #[.string a, .string b, .string c, .string d]) (.int .i64 3)).run Tryz.prog w = .ok (.string d) w := by kernel_rfl
set_option maxRecDepth 100000 in
theorem cname_any (kd : Nat) (hkd : kd ≤ 2) (w : World) : Calls Tryz.prog 253 #[.int .i64 kd] w fun e w' => e = .returned (.string ⟨(cnameL kd).toArray⟩) ∧ w = w' := by
  have hc : kd = 0 ∨ kd = 1 ∨ kd = 2 := by omega
  rcases hc with rfl | rfl | rfl <;> simp only [cnameL] <;>
    (go_enter Tryz.func253, Tryz.ntmps253
     go_wp2
     go_ret
     exact ⟨rfl, rfl⟩)
set_option maxRecDepth 100000 in
set_option maxHeartbeats 6400000 in
theorem turned_any (A : Option Addr) (n c B : Nat) (fs : List (List UInt8 × List UInt8)) (kd : Nat) (hkd : kd ≤ 2) (w : World) (h : Rd w B 2 A n (fcells fs)) (hB : B ≤ w.heap.size) (hn : n ≤ 990) (hok5 : ∀ f ∈ fs, f.1.length ≤ 500000 ∧ f.2.length ≤ 500000) :
    Calls Tryz.prog 201 #[.slice A n c, .int .i64 kd] w fun e w' => (∃ v, e = .returned v ∧ Lst w.heap.size v w' (turnedL fs kd)) ∧ Below w.heap.size w w' := by
  have hok := turn_ok1 hok5
  have hflen := h.flen
  have hp0 := pick4_0 ⟨codeC.toArray⟩ ⟨lenC.toArray⟩ ⟨md5C.toArray⟩ ⟨rangesC.toArray⟩
  have hp1 := pick4_1 ⟨codeC.toArray⟩ ⟨lenC.toArray⟩ ⟨md5C.toArray⟩ ⟨rangesC.toArray⟩
  have hp2 := pick4_2 ⟨codeC.toArray⟩ ⟨lenC.toArray⟩ ⟨md5C.toArray⟩ ⟨rangesC.toArray⟩
  have hp3 := pick4_3 ⟨codeC.toArray⟩ ⟨lenC.toArray⟩ ⟨md5C.toArray⟩ ⟨rangesC.toArray⟩
  simp only [codeC, lenC, md5C, rangesC] at hp0 hp1 hp2 hp3
  go_enter Tryz.func201, Tryz.ntmps201
  go_wp2_with fail
  go_loopw [0, 9] (fun v i wr2 => ∃ (j : Nat) (Al : Option Addr) (nl cl : Nat), j ≤ 4 ∧ i = .int .i64 j ∧ v = .slice Al nl cl ∧ nl ≤ n ∧ (∃ B', B' ≤ wr2.heap.size ∧ Rd wr2 B' 2 Al nl (fcells (dropsL fs (turnC.take j)))) ∧ (0 < j → nl ≤ cl ∧ Ow wr2 w.heap.size 2 v nl (fcells (dropsL fs (turnC.take j)))) ∧ Below w.heap.size w wr2) (fun _ i _ => 4 - (intOf i).toNat)
  case atStart => exact ⟨0, _, _, _, Nat.zero_le _, rfl, rfl, Nat.le_refl _, ⟨B, hB, h⟩, fun h => absurd h (by omega), Below.refl _ _⟩
  case round =>
    obtain ⟨j, Al, nl, cl, hj, rfl, rfl, hnl, ⟨B', hB', rl⟩, hol, hb⟩ := hrel
    have hcase : j = 0 ∨ j = 1 ∨ j = 2 ∨ j = 3 ∨ j = 4 := by omega
    rcases hcase with rfl | rfl | rfl | rfl | rfl
    · have hdr := drop_any Al nl cl B' (dropsL fs (turnC.take 0)) ⟨#[67, 111, 110, 116, 101, 110, 116, 45, 69, 110, 99, 111, 100, 105, 110, 103]⟩ wr rl hB' (by omega) (fsOk_drops hok _) (by decide)
      have hds : dropL (dropsL fs (turnC.take 0)) (⟨#[67, 111, 110, 116, 101, 110, 116, 45, 69, 110, 99, 111, 100, 105, 110, 103]⟩ : ByteArray).data.toList = dropsL fs (turnC.take 1) := rfl
      rw [hds] at hdr
      have hll := dropsL_len (turnC.take 1) fs
      rw [hflen] at hll
      obtain ⟨gs, hgs⟩ : ∃ gs, gs = dropsL fs (turnC.take 1) := ⟨_, rfl⟩
      rw [← hgs] at hdr hll
      obtain ⟨ng, hng⟩ : ∃ n, gs.length = n := ⟨_, rfl⟩
      rw [hng] at hdr hll
      have HGS := hide hgs
      clear hds hgs hng hol rl
      go_wp2_with fail
      refine hdr.mono ?_
      rintro e w5 ⟨A5, c5, rfl, o5, hc5, b5⟩
      have r5 := o5.rd
      have o5' := o5.base_ hb.size
      have t5 := hb.trans (b5.mono hb.size)
      clear hdr o5 hp0 hp1 hp2 hp3
      go_wp2
      go_roundw
      case rel => exact ⟨1, _, _, _, by omega, rfl, rfl, hll, ⟨_, Nat.le_refl _, by rw [← HGS.out]; exact r5⟩, fun _ => ⟨hc5, by rw [← HGS.out]; exact o5'⟩, t5⟩
      case measure => simp [intOf]
    · have hdr := drop_any Al nl cl B' (dropsL fs (turnC.take 1)) ⟨#[67, 111, 110, 116, 101, 110, 116, 45, 76, 101, 110, 103, 116, 104]⟩ wr rl hB' (by omega) (fsOk_drops hok _) (by decide)
      have hds : dropL (dropsL fs (turnC.take 1)) (⟨#[67, 111, 110, 116, 101, 110, 116, 45, 76, 101, 110, 103, 116, 104]⟩ : ByteArray).data.toList = dropsL fs (turnC.take 2) := rfl
      rw [hds] at hdr
      have hll := dropsL_len (turnC.take 2) fs
      rw [hflen] at hll
      obtain ⟨gs, hgs⟩ : ∃ gs, gs = dropsL fs (turnC.take 2) := ⟨_, rfl⟩
      rw [← hgs] at hdr hll
      obtain ⟨ng, hng⟩ : ∃ n, gs.length = n := ⟨_, rfl⟩
      rw [hng] at hdr hll
      have HGS := hide hgs
      clear hds hgs hng hol rl
      go_wp2_with fail
      refine hdr.mono ?_
      rintro e w5 ⟨A5, c5, rfl, o5, hc5, b5⟩
      have r5 := o5.rd
      have o5' := o5.base_ hb.size
      have t5 := hb.trans (b5.mono hb.size)
      clear hdr o5 hp0 hp1 hp2 hp3
      go_wp2
      go_roundw
      case rel => exact ⟨2, _, _, _, by omega, rfl, rfl, hll, ⟨_, Nat.le_refl _, by rw [← HGS.out]; exact r5⟩, fun _ => ⟨hc5, by rw [← HGS.out]; exact o5'⟩, t5⟩
      case measure => simp [intOf]
    · have hdr := drop_any Al nl cl B' (dropsL fs (turnC.take 2)) ⟨#[67, 111, 110, 116, 101, 110, 116, 45, 77, 68, 53]⟩ wr rl hB' (by omega) (fsOk_drops hok _) (by decide)
      have hds : dropL (dropsL fs (turnC.take 2)) (⟨#[67, 111, 110, 116, 101, 110, 116, 45, 77, 68, 53]⟩ : ByteArray).data.toList = dropsL fs (turnC.take 3) := rfl
      rw [hds] at hdr
      have hll := dropsL_len (turnC.take 3) fs
      rw [hflen] at hll
      obtain ⟨gs, hgs⟩ : ∃ gs, gs = dropsL fs (turnC.take 3) := ⟨_, rfl⟩
      rw [← hgs] at hdr hll
      obtain ⟨ng, hng⟩ : ∃ n, gs.length = n := ⟨_, rfl⟩
      rw [hng] at hdr hll
      have HGS := hide hgs
      clear hds hgs hng hol rl
      go_wp2_with fail
      refine hdr.mono ?_
      rintro e w5 ⟨A5, c5, rfl, o5, hc5, b5⟩
      have r5 := o5.rd
      have o5' := o5.base_ hb.size
      have t5 := hb.trans (b5.mono hb.size)
      clear hdr o5 hp0 hp1 hp2 hp3
      go_wp2
      go_roundw
      case rel => exact ⟨3, _, _, _, by omega, rfl, rfl, hll, ⟨_, Nat.le_refl _, by rw [← HGS.out]; exact r5⟩, fun _ => ⟨hc5, by rw [← HGS.out]; exact o5'⟩, t5⟩
      case measure => simp [intOf]
    · have hdr := drop_any Al nl cl B' (dropsL fs (turnC.take 3)) ⟨#[65, 99, 99, 101, 112, 116, 45, 82, 97, 110, 103, 101, 115]⟩ wr rl hB' (by omega) (fsOk_drops hok _) (by decide)
      have hds : dropL (dropsL fs (turnC.take 3)) (⟨#[65, 99, 99, 101, 112, 116, 45, 82, 97, 110, 103, 101, 115]⟩ : ByteArray).data.toList = dropsL fs (turnC.take 4) := rfl
      rw [hds] at hdr
      have hll := dropsL_len (turnC.take 4) fs
      rw [hflen] at hll
      obtain ⟨gs, hgs⟩ : ∃ gs, gs = dropsL fs (turnC.take 4) := ⟨_, rfl⟩
      rw [← hgs] at hdr hll
      obtain ⟨ng, hng⟩ : ∃ n, gs.length = n := ⟨_, rfl⟩
      rw [hng] at hdr hll
      have HGS := hide hgs
      clear hds hgs hng hol rl
      go_wp2_with fail
      refine hdr.mono ?_
      rintro e w5 ⟨A5, c5, rfl, o5, hc5, b5⟩
      have r5 := o5.rd
      have o5' := o5.base_ hb.size
      have t5 := hb.trans (b5.mono hb.size)
      clear hdr o5 hp0 hp1 hp2 hp3
      go_wp2
      go_roundw
      case rel => exact ⟨4, _, _, _, by omega, rfl, rfl, hll, ⟨_, Nat.le_refl _, by rw [← HGS.out]; exact r5⟩, fun _ => ⟨hc5, by rw [← HGS.out]; exact o5'⟩, t5⟩
      case measure => simp [intOf]
    · obtain ⟨h1, h2⟩ := hol (by omega)
      have e1 : dropsL fs (turnC.take 4) = turn1 fs := rfl
      rw [e1] at h2
      have hok1 : ∀ f ∈ turn1 fs, f.1.length ≤ 500000 ∧ f.2.length ≤ 500000 := fun f hf => by
        rw [turn1_drops, dropsL_filter] at hf
        exact hok5 f (List.mem_filter.1 hf).1
      obtain ⟨g1, hg1⟩ : ∃ g, g = turn1 fs := ⟨_, rfl⟩
      have hfin : turnedL fs kd = turn4 (turn3 (turn2 g1) kd) := by rw [hg1]; rfl
      rw [← hg1] at h2 hok1
      have HFIN := hide hfin
      have hgl := ow_flen h2
      have q1 := fun (W : World) (b : Below wr.heap.size wr W) => get_any Al nl cl _ g1 ⟨#[69, 84, 97, 103]⟩ W (h2.rd.below b) b.size (by omega) (turn_ok1 hok1) (by decide)
      change ∀ (W : World), _ → Calls Tryz.prog 139 _ W (fun e w' => ∃ A' c', e = .returned (.slice A' (getL g1 etagC).length c') ∧ w'.ownsRow W.heap.size 9 1 (.slice A' (getL g1 etagC).length c') (getL g1 etagC).length (scells (getL g1 etagC)) ∧ (getL g1 etagC).length ≤ c' ∧ Below W.heap.size W w') at q1
      have hhd := head_le (b := 500000) (fun f hf => (hok1 f hf).2) etagC
      have hok2 := turn_ok2 hok1
      have hln2 := turn2_len g1
      rw [hgl] at hln2
      obtain ⟨g2, hg2⟩ : ∃ g, g = turn2 g1 := ⟨_, rfl⟩
      have hg2' := hg2
      unfold turn2 at hg2'
      rw [← hg2] at hok2 hln2
      have HG2 := hide hg2'
      have HFIN2 := hide (show turnedL fs kd = turn4 (turn3 g2 kd) by rw [hg2]; exact hfin)
      have H1 := hide h1
      clear hol rl hg1 hg2 hg2' hfin HFIN hp0 hp1 hp2 hp3 e1 h1 hgl
      obtain ⟨T, hT⟩ : ∃ T, T = getL g1 etagC := ⟨_, rfl⟩
      rw [← hT] at HG2 hhd
      simp only [← hT] at q1
      have HT := hide hT
      obtain ⟨nT, hnT⟩ : ∃ n, T.length = n := ⟨_, rfl⟩
      simp only [hnT] at q1
      have HNT := hide hnT
      clear hT hnT
      go_wp2_with fail
      refine (q1 wr (Below.refl _ _)).mono ?_
      rintro e w1 ⟨A1, c1, rfl, o1, hc1, b1⟩
      have rT := Rd.of_own o1
      have h2' := h2.below b1
      have t1 := hb.trans (b1.mono hb.size)
      clear o1 q1 h2
      go_upto_if 20 with (fail)
      go_cut [0, 7] from 17 to 26 (fun s _ wx => Lst w.heap.size s wx g2 ∧ Below w.heap.size w wx)
      case first =>
        by_cases h0 : 0 < nT
        · have hl0 : 0 < T.length := by have := HNT.out; omega
          obtain ⟨a, rfl, -, hcell⟩ := rT.text (k := 0) h0 hl0
          rw [head_of hl0, Addr.add_zero'] at hcell
          obtain ⟨x, hx⟩ : ∃ x, x = T.headD [] := ⟨_, rfl⟩
          rw [← hx] at hcell hhd
          have hg2 : g2 = setL g1 etagC (weakL x) := by rw [HG2.out, if_pos hl0, hx]
          have hwk := fun W => weak_any ⟨x.toArray⟩ W (by rw [mk_size]; omega)
          rw [mk_list] at hwk
          obtain ⟨bw, hbw⟩ : ∃ b : ByteArray, b = ⟨(weakL x).toArray⟩ := ⟨_, rfl⟩
          have hst := fun (W : World) (b : Below w1.heap.size w1 W) => set_any Al nl cl _ g1 ⟨#[69, 84, 97, 103]⟩ bw W (h2'.rd.below b) b.size (by omega) (turn_ok1 hok1) (by decide)
          have e2 : setL g1 (⟨#[69, 84, 97, 103]⟩ : ByteArray).data.toList bw.data.toList = g2 := by rw [hg2, hbw]; rfl
          rw [e2] at hst
          simp only [← hbw] at hwk
          obtain ⟨sx, hsx⟩ : ∃ s : ByteArray, s = ⟨x.toArray⟩ := ⟨_, rfl⟩
          rw [← hsx] at hcell
          simp only [← hsx] at hwk
          obtain ⟨n2, hn2⟩ : ∃ n, g2.length = n := ⟨_, rfl⟩
          simp only [hn2] at hst
          clear hx hg2 hbw e2 hsx hn2 hl0
          go_wp2_with fail
          refine (hwk w1).mono ?_
          rintro e w2 ⟨rfl, b2⟩
          go_wp2_with fail
          refine (hst w2 b2).mono ?_
          rintro e w3 ⟨A3, c3, rfl, o3, hc3, b3⟩
          have o3' := (Ow.of_row o3).base_ (Nat.le_trans t1.size b2.size)
          have t3 := (t1.trans (b2.mono t1.size)).trans (b3.mono (Nat.le_trans t1.size b2.size))
          clear o3 hwk hst
          go_wp2_with fail
          go_meet
          exact ⟨⟨A3, n2, c3, rfl, o3', hc3⟩, t3⟩
        · have hg2 : g2 = g1 := by rw [HG2.out, if_neg (by have := HNT.out; omega)]
          have HG := hide hg2
          clear hg2
          go_wp2_with fail
          go_meet
          exact ⟨⟨Al, nl, cl, rfl, by rw [HG.out]; exact h2', H1.out⟩, t1⟩
      case rest =>
        obtain ⟨⟨A2, n2, c2, rfl, o2, hc2⟩, t2⟩ := hcut
        have hl2 := ow_flen o2
        rw [hl2] at hln2
        clear h2' rT HG2 HT HNT hhd hok1 b1 t1 hb hB' hok5 hok hl2
        have hok3 := turn_ok3 hok2 kd
        have hln3 := turn3_len g2 kd
        rw [ow_flen o2] at hln3
        obtain ⟨g3, hg3⟩ : ∃ g, g = turn3 g2 kd := ⟨_, rfl⟩
        have hg3' := hg3
        unfold turn3 at hg3'
        rw [← hg3] at hok3 hln3
        have HG3 := hide hg3'
        have HFIN3 := hide (show turnedL fs kd = turn4 g3 by rw [hg3]; exact HFIN2.out)
        clear hg3 hg3' HFIN2
        go_upto_if 28 with (fail)
        go_cut [0] from 27 to 32 (fun s wx => Lst w.heap.size s wx g3 ∧ Below w.heap.size w wx)
        case first =>
          by_cases hk0 : kd = 0
          · subst hk0
            have hg := HG3.out
            rw [if_neg (by simp)] at hg
            have HG := hide hg
            clear hg
            go_wp2_with fail
            go_meet
            exact ⟨⟨A2, n2, c2, rfl, by rw [HG.out]; exact o2, hc2⟩, t2⟩
          · have hg := HG3.out
            rw [if_pos hk0] at hg
            have hnm := fun W => cname_any kd hkd W
            obtain ⟨bn, hbn⟩ : ∃ b : ByteArray, b = ⟨(cnameL kd).toArray⟩ := ⟨_, rfl⟩
            have hst := fun (W : World) (b : Below wc.heap.size wc W) => set_any A2 n2 c2 _ g2 ⟨#[67, 111, 110, 116, 101, 110, 116, 45, 69, 110, 99, 111, 100, 105, 110, 103]⟩ bn W (o2.rd.below b) b.size (by omega) hok2 (by decide)
            have e2 : setL g2 (⟨#[67, 111, 110, 116, 101, 110, 116, 45, 69, 110, 99, 111, 100, 105, 110, 103]⟩ : ByteArray).data.toList bn.data.toList = g3 := by rw [hg, hbn]; rfl
            rw [e2] at hst
            simp only [← hbn] at hnm
            obtain ⟨n3, hn3⟩ : ∃ n, g3.length = n := ⟨_, rfl⟩
            simp only [hn3] at hst
            have hk1 : ((kd : Int) == 0) = false := by simpa using hk0
            have hk2 : ((kd : Int) != 0) = true := by simpa using hk0
            clear hg hbn e2 hn3 hk0
            go_wp2_with fail
            refine (hnm wc).mono ?_
            rintro e w4 ⟨rfl, rfl⟩
            go_wp2_with fail
            refine (hst wc (Below.refl _ _)).mono ?_
            rintro e w5 ⟨A5, c5, rfl, o5, hc5, b5⟩
            have o5' := (Ow.of_row o5).base_ t2.size
            have t5 := t2.trans (b5.mono t2.size)
            clear o5 hnm hst
            go_wp2_with fail
            go_meet
            exact ⟨⟨A5, n3, c5, rfl, o5', hc5⟩, t5⟩
        case rest =>
          obtain ⟨⟨A3, n3, c3, rfl, o3, hc3⟩, t3⟩ := hcut
          have hl3 := ow_flen o3
          rw [hl3] at hln3
          clear o2 t2 HG3 hok2 hc2 hl3
          have q1 := fun (W : World) (b : Below wc.heap.size wc W) => has_any A3 n3 c3 _ g3 ⟨#[86, 97, 114, 121]⟩ ⟨#[65, 99, 99, 101, 112, 116, 45, 69, 110, 99, 111, 100, 105, 110, 103]⟩ W (o3.rd.below b) b.size (by omega) hok3 (by decide) (by decide)
          have q2 := fun (W : World) (b : Below wc.heap.size wc W) => has_any A3 n3 c3 _ g3 ⟨#[86, 97, 114, 121]⟩ ⟨#[42]⟩ W (o3.rd.below b) b.size (by omega) hok3 (by decide) (by decide)
          change ∀ (W : World), _ → Calls Tryz.prog 144 _ W (fun e w' => e = .returned (.bool (hasL g3 varyC aeC)) ∧ _) at q1
          change ∀ (W : World), _ → Calls Tryz.prog 144 _ W (fun e w' => e = .returned (.bool (hasL g3 varyC [42])) ∧ _) at q2
          have hwi := fun (W : World) (b : Below wc.heap.size wc W) => with_any A3 n3 c3 _ g3 ⟨#[86, 97, 114, 121]⟩ ⟨#[65, 99, 99, 101, 112, 116, 45, 69, 110, 99, 111, 100, 105, 110, 103]⟩ W (o3.rd.below b) b.size (by omega)
          have hfin := HFIN3.out
          unfold turn4 at hfin
          obtain ⟨x1, hx1⟩ : ∃ x, x = hasL g3 varyC aeC := ⟨_, rfl⟩
          obtain ⟨x2, hx2⟩ : ∃ x, x = hasL g3 varyC [42] := ⟨_, rfl⟩
          rw [← hx1] at q1 hfin
          rw [← hx2] at q2 hfin
          have HF := hide hfin
          clear hx1 hx2 hfin HFIN3
          rcases x1 with _ | _
          · rcases x2 with _ | _
            · go_wp2_with fail
              refine (q1 wc (Below.refl _ _)).mono ?_
              rintro e w6 ⟨rfl, b6⟩
              go_wp2_with fail
              refine (q2 w6 b6).mono ?_
              rintro e w7 ⟨rfl, b7⟩
              have b67 := b6.trans (b7.mono b6.size)
              go_wp2_with fail
              refine (hwi w7 b67).mono ?_
              rintro e w8 ⟨A8, c8, rfl, o8, hc8, b8⟩
              have t8 := t3.trans ((b67.trans (b8.mono b67.size)).mono t3.size)
              have o8' := o8.base_ (Nat.le_trans t3.size b67.size)
              clear o8 q1 q2 hwi
              go_wp2
              go_ret
              exact ⟨⟨_, rfl, A8, n3 + 1, c8, rfl, by rw [HF.out, if_pos (by simp)]; exact o8', hc8⟩, t8⟩
            · go_wp2_with fail
              refine (q1 wc (Below.refl _ _)).mono ?_
              rintro e w6 ⟨rfl, b6⟩
              go_wp2_with fail
              refine (q2 w6 b6).mono ?_
              rintro e w7 ⟨rfl, b7⟩
              have b67 := b6.trans (b7.mono b6.size)
              go_wp2
              go_ret
              exact ⟨⟨_, rfl, A3, n3, c3, rfl, by rw [HF.out, if_neg (by simp)]; exact o3.below b67, hc3⟩, t3.trans (b67.mono t3.size)⟩
          · go_wp2_with fail
            refine (q1 wc (Below.refl _ _)).mono ?_
            rintro e w6 ⟨rfl, b6⟩
            go_wp2
            go_ret
            exact ⟨⟨_, rfl, A3, n3, c3, rfl, by rw [HF.out, if_neg (by simp)]; exact o3.below b6, hc3⟩, t3.trans (b6.mono t3.size)⟩
end Go.Proofs.YtijlaclngibekaaGreatDoor
/- edit.Response. -/
namespace Go.Proofs.YtijlaclngibekaaGreatDoor
open Go.RowKit
open FrameSmugglesP (allocs allocs_size allocs_below allocs_cell allocs_rd)

theorem without_le {fs : List (List UInt8 × List UInt8)} (h : ∀ f ∈ fs, f.1.length ≤ 500000 ∧ f.2.length ≤ 500000) : ∀ f ∈ withoutL fs, f.1.length ≤ 500000 ∧ f.2.length ≤ 500000 := fun f hf => by
  unfold withoutL at hf
  rw [dropsL_filter] at hf
  exact h f (List.mem_filter.1 hf).1
theorem Box.put3 {w : World} {g : Nat} {a b c d x : Value} (h : Box w g [a, b, c, d]) : Box (w.setCell ⟨g, 3, none⟩ x) g [a, b, c, x] := h.set (k := 3) (x := x) (by simp)
theorem Box.put0 {w : World} {g : Nat} {a b c d x : Value} (h : Box w g [a, b, c, d]) : Box (w.setCell ⟨g, 0, none⟩ x) g [x, b, c, d] := h.set (k := 0) (x := x) (by simp)
theorem Box.put01 {w : World} {g : Nat} {a b x y : Value} (h : Box w g [a, b]) : Box ((w.setCell ⟨g, 0, none⟩ x).setCell ⟨g, 1, none⟩ y) g [x, y] := (h.set (k := 0) (x := x) (by simp)).set (k := 1) (x := y) (by simp)
theorem box_drew {w : World} {g : Nat} {cs : List Value} (h : Box w g cs) : Box w.drew g cs := ⟨h.1, fun j u hu => h.2 j u hu⟩
theorem ow_drew {w : World} {base size n : Nat} {v : Value} {xs : List Value} (h : Ow w base size v n xs) : Ow w.drew base size v n xs := h.drewN 1
theorem turn2_le (fs : List (List UInt8 × List UInt8)) (kd : Nat) : (turnedL fs kd).length ≤ fs.length + 3 := by
  have h1 : (turn1 fs).length ≤ fs.length := by rw [turn1_drops]; exact dropsL_len _ _
  have h2 := turn2_len (turn1 fs)
  have h3 := turn3_len (turn2 (turn1 fs)) kd
  unfold turnedL turn4
  split <;> simp <;> omega

set_option maxRecDepth 100000 in
set_option maxHeartbeats 6400000 in
theorem editresp_any (minor0 status : Int) (s_ : ByteArray) (A : Option Addr) (n c B : Nat) (fs : List (List UInt8 × List UInt8)) (pass : Bool) (fr kd kind len minor : Int) (keep : Bool) (w : World) (h : Rd w B 2 A n (fcells fs)) (hB : B ≤ w.heap.size) (hn : n ≤ 900) (hok5 : ∀ f ∈ fs, f.1.length ≤ 500000 ∧ f.2.length ≤ 500000) (hkd : pass = true ∨ (0 ≤ kd ∧ kd ≤ 2)) :
    Calls Tryz.prog 160 #[.agg #[.int .i64 minor0, .int .i64 status, .string s_, .slice A n c], .agg #[.bool pass, .int .i64 fr, .int .i64 kd], .agg #[.int .i64 kind, .int .i64 len], .int .i64 minor, .bool keep] w fun e w' => ∃ A' n' c', e = .returned (.tuple #[.agg #[.int .i64 1, .int .i64 status, .string s_, .slice A' n' c'], .agg #[.int .i64 (respK pass kind minor), .int .i64 (respN pass kind len)]]) ∧
      Ow w' w.heap.size 2 (.slice A' n' c') n' (fcells (respF fs pass kd.toNat kind minor keep)) ∧ n' ≤ c' ∧ Below w.heap.size w w' := by
  have hok := turn_ok1 hok5
  obtain ⟨objs, hobjs⟩ : ∃ l : List Obj, l = [.cells #[.int .i64 minor0, .int .i64 status, .string s_, .slice A n c] 46, .cells #[.bool pass, .int .i64 fr, .int .i64 kd] 191, .cells #[.int .i64 kind, .int .i64 len] 67, .cells #[.int .i64 0, .int .i64 0, .string ⟨#[]⟩, .slice none 0 0] 46, .cells #[.int .i64 0, .int .i64 0] 67] := ⟨_, rfl⟩
  have hW : ((((w.alloc (.cells #[.int .i64 minor0, .int .i64 status, .string s_, .slice A n c] 46)).alloc (.cells #[.bool pass, .int .i64 fr, .int .i64 kd] 191)).alloc (.cells #[.int .i64 kind, .int .i64 len] 67)).alloc (.cells #[.int .i64 0, .int .i64 0, .string ⟨#[]⟩, .slice none 0 0] 46)).alloc (.cells #[.int .i64 0, .int .i64 0] 67) = allocs w objs := by rw [hobjs]; rfl
  have tW := allocs_below objs w
  have b1 : Box (allocs w objs) w.heap.size [.int .i64 minor0, .int .i64 status, .string s_, .slice A n c] := box_allocs objs w 0 _ _ (by rw [hobjs]; rfl)
  have b2 : Box (allocs w objs) (w.heap.size + 1) [.bool pass, .int .i64 fr, .int .i64 kd] := box_allocs objs w 1 _ _ (by rw [hobjs]; rfl)
  have b3 : Box (allocs w objs) (w.heap.size + 1 + 1) [.int .i64 kind, .int .i64 len] := box_allocs objs w 2 _ _ (by rw [hobjs]; rfl)
  have b4 : Box (allocs w objs) (w.heap.size + 1 + 1 + 1) [.int .i64 0, .int .i64 0, .string ⟨#[]⟩, .slice none 0 0] := box_allocs objs w 3 _ _ (by rw [hobjs]; rfl)
  have b5 : Box (allocs w objs) (w.heap.size + 1 + 1 + 1 + 1) [.int .i64 0, .int .i64 0] := box_allocs objs w 4 _ _ (by rw [hobjs]; rfl)
  have hfl := dropsL_len (hopL ++ namesL fs) fs
  rw [h.flen] at hfl
  change (withoutL fs).length ≤ n at hfl
  have hwle := without_le hok5
  clear hobjs
  go_enter Tryz.func160, Tryz.ntmps160
  go_upto_region 1 with (fail)
  have rl := h.below (tW.mono hB)
  generalize allocs w objs = w0 at b1 b2 b3 b4 b5 tW rl ⊢
  obtain ⟨g, hg⟩ : ∃ g, g = w.heap.size := ⟨_, rfl⟩
  rw [← hg] at b1 b2 b3 b4 b5 tW hB
  rw [← hg]
  have HG := hide hg
  clear hg hW h
  obtain ⟨c0, c1, c2, c3⟩ := b1.four
  obtain ⟨f0, f1, f2, f3⟩ := b1.free4
  go_upto_region 2 with (fail)
  have b1' := b1.put0 (x := .int .i64 1)
  have b2' := b2.far (g' := g) (k := 0) (x := .int .i64 1) (by omega)
  have b3' := b3.far (g' := g) (k := 0) (x := .int .i64 1) (by omega)
  have b4' := b4.far (g' := g) (k := 0) (x := .int .i64 1) (by omega)
  have b5' := b5.far (g' := g) (k := 0) (x := .int .i64 1) (by omega)
  have t1 : Below g w (w0.setCell ⟨g, 0, none⟩ (.int .i64 1)) := tW.setCell (Nat.le_refl _) _
  have rl1 := rl.far (g := g) (k := 0) (x := .int .i64 1) hB
  clear b1 b2 b3 b4 b5 tW rl c0 c1 c2 c3 f0 f1 f2 f3
  generalize w0.setCell _ _ = w1 at b1' b2' b3' b4' b5' t1 rl1 ⊢
  obtain ⟨c0, c1, c2, c3⟩ := b1'.four
  have hg1 := b5'.1
  have hg11 := b1'.1
  go_wp2_with fail
  refine (without_any A n c B fs w1 rl1 (by omega) (by omega) hok).mono ?_
  rintro e w2 ⟨A2, c2', rfl, o2, hc2, b⟩
  have b1 := b1'.below b
  have b2 := b2'.below b
  have b3 := b3'.below b
  have b4 := b4'.below b
  have b5 := b5'.below b
  have t2 := t1.trans (b.mono (Nat.le_of_lt hg11))
  have hbz2 := b.size
  clear b1' b2' b3' b4' b5' t1 rl1 c0 c1 c2 c3 b
  obtain ⟨gw, hgw⟩ : ∃ g, g = withoutL fs := ⟨_, rfl⟩
  have hrf : respF fs pass kd.toNat kind minor keep = (if pass then gw else turnedL gw kd.toNat) ++ (if ¬ (kind = 0 ∨ pass = true ∧ kind = 1) ∧ minor = 1 then [chunkF] else []) ++ (if keep = false ∨ respK pass kind minor = 3 then [closeF] else []) := by rw [hgw]; rfl
  rw [← hgw] at o2 hc2 hfl hwle
  rw [← hgw]
  have HRF := hide hrf
  clear hgw hrf hok hok5
  obtain ⟨L, hL⟩ : ∃ L, gw.length = L := ⟨_, rfl⟩
  rw [hL] at o2 hc2 hfl
  rw [hL]
  have HL := hide hL
  clear hL
  -- a list that is newer than the boxes
  obtain ⟨gb, hgb⟩ : ∃ gb, gb = w1.heap.size := ⟨_, rfl⟩
  rw [← hgb] at o2 hg1 hg11 hbz2
  clear hgb
  obtain ⟨p0, p1, p2⟩ := b2.three
  go_upto_if 19 with (fail)
  obtain ⟨gt, hgt⟩ : ∃ l, l = (if pass then gw else turnedL gw kd.toNat) := ⟨_, rfl⟩
  have hgtl : gt.length ≤ L + 3 := by
    rw [hgt]; split
    · have := HL.out; omega
    · have := turn2_le gw kd.toNat; have := HL.out; omega
  have HGT := hide hgt
  clear hgt
  go_cut [12] from 20 to 23 (fun s wx => Lst gb s wx gt ∧ Below w2.heap.size w2 wx)
  case first =>
    rcases pass with _ | _
    · obtain ⟨hk0, hk2⟩ : 0 ≤ kd ∧ kd ≤ 2 := by simpa using hkd
      obtain ⟨kn, rfl⟩ : ∃ k : Nat, kd = k := ⟨kd.toNat, by omega⟩
      have hgt := HGT.out
      rw [if_neg (by simp), Int.toNat_natCast] at hgt
      have HG2 := hide hgt
      clear hgt
      go_wp2_with fail
      refine (turned_any A2 L c2' _ gw kn (by omega) w2 o2.rd (Nat.le_refl _) (by omega) hwle).mono ?_
      rintro e w3 ⟨⟨v, rfl, A3, n3, c3, rfl, o3, hc3⟩, k3⟩
      go_wp2_with fail
      go_meet
      exact ⟨⟨A3, n3, c3, rfl, by rw [HG2.out]; exact o3.base_ hbz2, hc3⟩, k3⟩
    · have hgt := HGT.out
      rw [if_pos rfl] at hgt
      have HG2 := hide hgt
      clear hgt
      go_wp2_with fail
      go_meet
      exact ⟨⟨A2, L, c2', rfl, by rw [HG2.out]; exact o2, hc2⟩, Below.refl _ _⟩
  case rest =>
    obtain ⟨⟨A3, n3, c3, rfl, o3, hc3⟩, t3⟩ := hcut
    have hl3 := ow_flen o3
    rw [hl3] at hgtl
    clear hl3 o2 p0 p1 p2
    have hgbz := Nat.le_trans hbz2 t3.size
    replace b1 := b1.below t3
    replace b2 := b2.below t3
    replace b3 := b3.below t3
    replace b4 := b4.below t3
    replace b5 := b5.below t3
    replace t3 := t2.trans (t3.mono (Nat.le_trans (Nat.le_of_lt hg11) hbz2))
    obtain ⟨p0, p1, p2⟩ := b2.three
    obtain ⟨k0, k1⟩ := b3.two
    go_upto_block 0 with fail
    obtain ⟨K', hK'⟩ : ∃ k, k = respK pass kind minor := ⟨_, rfl⟩
    obtain ⟨N', hN'⟩ : ∃ k, k = respN pass kind len := ⟨_, rfl⟩
    rw [← hK'] at HRF
    have HKE := hide hK'
    have HNE := hide hN'
    have hKK := hK'
    have hNN := hN'
    unfold respK at hKK
    unfold respN at hNN
    have HKK := hide hKK
    have HNN := hide hNN
    clear hK' hN' hKK hNN
    obtain ⟨X, hX⟩ : ∃ l, l = (if ¬ (kind = 0 ∨ pass = true ∧ kind = 1) ∧ minor = 1 then [chunkF] else []) := ⟨_, rfl⟩
    rw [← hX, ← HGT.out] at HRF
    have HX := hide hX
    have hxl : X.length ≤ 1 := by rw [HX.out]; split <;> simp
    clear hX HGT HL
    obtain ⟨f0, f1⟩ := b3.free2
    have hgg : g ≤ g + 1 + 1 := by omega
    have hap2 : (Value.slice A3 n3 c3).ownBlock ≠ some (g + 1 + 1) := ow_apart o3 (by omega)
    go_cut [12] from 24 to 43 (fun s wx => Lst gb s wx (gt ++ X) ∧ Box wx (g + 1 + 1) [.int .i64 K', .int .i64 N'] ∧ Box wx g [.int .i64 1, .int .i64 status, .string s_, .slice A n c] ∧ Box wx (g + 1 + 1 + 1) [.int .i64 0, .int .i64 0, .string ⟨#[]⟩, .slice none 0 0] ∧ Box wx (g + 1 + 1 + 1 + 1) [.int .i64 0, .int .i64 0] ∧ Below g w wx ∧ gb ≤ wx.heap.size)
    case first =>
      go_upto_region 6 with (fail)
      go_cut [25] from 26 to 37 (fun s wx => s = .bool (decide (kind = 0 ∨ pass = true ∧ kind = 1)) ∧ wx = wc)
      case first =>
        by_cases h0 : kind = 0
        · have e0 : (kind == 0) = true := by simpa using h0
          have HD := hide (show decide (kind = 0 ∨ pass = true ∧ kind = 1) = true by simp [h0])
          clear h0
          go_wp2_with fail
          go_meet
          exact ⟨by rw [HD.out], rfl⟩
        · have e0 : (kind == 0) = false := by simpa using h0
          rcases pass with _ | _
          · have HD := hide (show decide (kind = 0 ∨ false = true ∧ kind = 1) = false by simp [h0])
            clear h0
            go_wp2_with fail
            go_meet
            exact ⟨by rw [HD.out], rfl⟩
          · by_cases h1 : kind = 1
            · have e1 : (kind == 1) = true := by simpa using h1
              have HD := hide (show decide (kind = 0 ∨ true = true ∧ kind = 1) = true by simp [h1])
              clear h0 h1
              go_wp2_with fail
              go_meet
              exact ⟨by rw [HD.out], rfl⟩
            · have e1 : (kind == 1) = false := by simpa using h1
              have HD := hide (show decide (kind = 0 ∨ true = true ∧ kind = 1) = false by simp [h0, h1])
              clear h0 h1
              go_wp2_with fail
              go_meet
              exact ⟨by rw [HD.out], rfl⟩
      case rest =>
        obtain ⟨rfl, rfl⟩ := hcut
        clear p0 p1 p2 b2
        obtain ⟨c1, hc1⟩ : ∃ b, b = decide (kind = 0 ∨ pass = true ∧ kind = 1) := ⟨_, rfl⟩
        rw [← hc1]
        have HC1 := hide hc1
        clear hc1
        rcases c1 with _ | _
        · have hc : ¬ (kind = 0 ∨ pass = true ∧ kind = 1) := of_decide_eq_false HC1.out.symm
          have hk := HKK.out
          have hn' := HNN.out
          rw [if_neg hc] at hk hn'
          by_cases hm : minor = 1
          · have hx := HX.out
            rw [if_pos ⟨hc, hm⟩] at hx
            rw [if_pos hm] at hk
            have hme : (minor == 1) = true := by simpa using hm
            subst hk hn' hx
            clear hc hm HKK HNN HX HC1 HKE HNE HRF
            go_upto_region 9 with (fail)
            have b1' := b1.far2 (g' := g + 1 + 1) (by omega) (.int .i64 2) (.int .i64 0)
            have b3' := b3.fill2 (.int .i64 2) (.int .i64 0)
            have b4' := b4.far2 (g' := g + 1 + 1) (by omega) (.int .i64 2) (.int .i64 0)
            have b5' := b5.far2 (g' := g + 1 + 1) (by omega) (.int .i64 2) (.int .i64 0)
            have o3' := o3.far2 hap2 (.int .i64 2) (.int .i64 0)
            have t3' := below_fill2 t3 hgg (.int .i64 2) (.int .i64 0)
            change Box ((wc.setCell ⟨g + 1 + 1, 0, none⟩ (.int .i64 2)).setCell ⟨g + 1 + 1, 1, none⟩ (.int .i64 0)) _ _ at b1' b3' b4' b5'
            change Ow ((wc.setCell ⟨g + 1 + 1, 0, none⟩ (.int .i64 2)).setCell ⟨g + 1 + 1, 1, none⟩ (.int .i64 0)) _ _ _ _ _ at o3'
            change Below g w ((wc.setCell ⟨g + 1 + 1, 0, none⟩ (.int .i64 2)).setCell ⟨g + 1 + 1, 1, none⟩ (.int .i64 0)) at t3'
            clear b1 b3 b4 b5 o3 t3 f0 f1 k0 k1
            have hgz : gb ≤ ((wc.setCell ⟨g + 1 + 1, 0, none⟩ (.int .i64 2)).setCell ⟨g + 1 + 1, 1, none⟩ (.int .i64 0)).heap.size := by simpa [World.setCell] using hgbz
            generalize (wc.setCell ⟨g + 1 + 1, 0, none⟩ (.int .i64 2)).setCell ⟨g + 1 + 1, 1, none⟩ (.int .i64 0) = w4 at b1' b3' b4' b5' o3' t3' hgz ⊢
            go_wp2_with fail
            refine (with_any A3 n3 c3 _ gt ⟨#[84, 114, 97, 110, 115, 102, 101, 114, 45, 69, 110, 99, 111, 100, 105, 110, 103]⟩ ⟨#[99, 104, 117, 110, 107, 101, 100]⟩ w4 o3'.rd (Nat.le_refl _) (by omega)).mono ?_
            rintro e w5 ⟨A5, c5, rfl, o5, hc5, k5⟩
            go_wp2_with fail
            go_meet
            exact ⟨⟨A5, n3 + 1, c5, rfl, o5.base_ hgz, hc5⟩, b3'.below k5, b1'.below k5, b4'.below k5, b5'.below k5, t3'.trans (k5.mono (by have := b1'.1; omega)), Nat.le_trans hgz k5.size⟩
          · have hx := HX.out
            rw [if_neg (fun h => hm h.2)] at hx
            rw [if_neg hm] at hk
            have hme : (minor == 1) = false := by simpa using hm
            subst hk hn' hx
            clear hc hm HKK HNN HX HC1 HKE HNE HRF
            go_wp2_with fail
            go_meet
            exact ⟨⟨A3, n3, c3, rfl, by rw [List.append_nil]; exact o3.far2 hap2 _ _, hc3⟩, b3.fill2 _ _, b1.far2 (g' := g + 1 + 1) (by omega) _ _, b4.far2 (g' := g + 1 + 1) (by omega) _ _, b5.far2 (g' := g + 1 + 1) (by omega) _ _, below_fill2 t3 hgg _ _, by simpa [World.setCell] using hgbz⟩
        · have hc : kind = 0 ∨ pass = true ∧ kind = 1 := of_decide_eq_true HC1.out.symm
          have hk := HKK.out
          have hn' := HNN.out
          have hx := HX.out
          rw [if_pos hc] at hk hn'
          rw [if_neg (fun h => h.1 hc)] at hx
          subst hk hn' hx
          clear hc HKK HNN HX HC1 HKE HNE HRF
          go_wp2_with fail
          go_meet
          exact ⟨⟨A3, n3, c3, rfl, by rw [List.append_nil]; exact o3, hc3⟩, b3, b1, b4, b5, t3, hgbz⟩
    case rest =>
      obtain ⟨⟨A4, n4, c4, rfl, o4, hc4⟩, b3', b1', b4', b5', t4, hgz4⟩ := hcut
      have hl4 := ow_flen o4
      rw [List.length_append, ow_flen o3] at hl4
      clear b1 b2 b3 b4 b5 t3 o3 hgbz k0 k1 f0 f1 p0 p1 p2 hap2 HX HKK HNN
      obtain ⟨Y, hY⟩ : ∃ l, l = (if keep = false ∨ K' = 3 then [closeF] else []) := ⟨_, rfl⟩
      rw [← hY] at HRF
      obtain ⟨Z, hZ⟩ : ∃ l, l = gt ++ X := ⟨_, rfl⟩
      rw [← hZ] at o4 HRF
      have HY := hide hY
      obtain ⟨k0, k1⟩ := b3'.two
      clear hY hZ
      go_upto_region 10 with (fail)
      go_cut [50] from 44 to 49 (fun s wx => s = .bool (decide (keep = false ∨ K' = 3)) ∧ wx = wc)
      case first =>
        rcases keep with _ | _
        · have HD := hide (show decide (false = false ∨ K' = 3) = true by simp)
          go_wp2_with fail
          go_meet
          exact ⟨by rw [HD.out], rfl⟩
        · by_cases h3 : K' = 3
          · have e3 : (K' == 3) = true := by simpa using h3
            have HD := hide (show decide (true = false ∨ K' = 3) = true by simp [h3])
            clear h3
            go_wp2_with fail
            go_meet
            exact ⟨by rw [HD.out], rfl⟩
          · have e3 : (K' == 3) = false := by simpa using h3
            have HD := hide (show decide (true = false ∨ K' = 3) = false by simp [h3])
            clear h3
            go_wp2_with fail
            go_meet
            exact ⟨by rw [HD.out], rfl⟩
      case rest =>
        obtain ⟨rfl, rfl⟩ := hcut
        obtain ⟨c1, hc1⟩ : ∃ b, b = decide (keep = false ∨ K' = 3) := ⟨_, rfl⟩
        rw [← hc1]
        have HC1 := hide hc1
        clear hc1 k0 k1
        go_upto_if 50 with (fail)
        go_cut [12] from 51 to 52 (fun s wx => Lst gb s wx (Z ++ Y) ∧ Below wc.heap.size wc wx)
        case first =>
          rcases c1 with _ | _
          · have hy := HY.out
            rw [if_neg (of_decide_eq_false HC1.out.symm)] at hy
            subst hy
            clear HY HC1 HRF
            go_wp2_with fail
            go_meet
            exact ⟨⟨A4, n4, c4, rfl, by rw [List.append_nil]; exact o4, hc4⟩, Below.refl _ _⟩
          · have hy := HY.out
            rw [if_pos (of_decide_eq_true HC1.out.symm)] at hy
            subst hy
            clear HY HC1 HRF
            go_wp2_with fail
            refine (with_any A4 n4 c4 _ Z ⟨#[67, 111, 110, 110, 101, 99, 116, 105, 111, 110]⟩ ⟨#[99, 108, 111, 115, 101]⟩ wc o4.rd (Nat.le_refl _) (by omega)).mono ?_
            rintro e w5 ⟨A5, c5, rfl, o5, hc5, k5⟩
            go_wp2_with fail
            go_meet
            exact ⟨⟨A5, n4 + 1, c5, rfl, o5.base_ hgz4, hc5⟩, k5⟩
        case rest =>
          obtain ⟨⟨A5, n5, c5, rfl, o5, hc5⟩, t5⟩ := hcut
          replace b1' := b1'.below t5
          replace b3' := b3'.below t5
          replace b4' := b4'.below t5
          replace b5' := b5'.below t5
          replace t5 := t4.trans (t5.mono (by omega))
          clear o4 t4 HY HC1
          obtain ⟨c0, c1, c2, c3⟩ := b1'.four
          obtain ⟨f0, f1, f2, f3⟩ := b1'.free4
          go_upto_region 13 with (fail)
          have a1 := ow_apart o5 hg11
          have a2 := ow_apart o5 (show g + 1 + 1 + 1 < gb by omega)
          have a3 := ow_apart o5 (show g + 1 + 1 + 1 + 1 < gb by omega)
          have b1 := b1'.put3 (x := .slice A5 n5 c5)
          have b3 := b3'.far (g' := g) (k := 3) (x := .slice A5 n5 c5) (by omega)
          have b4 := b4'.far (g' := g) (k := 3) (x := .slice A5 n5 c5) (by omega)
          have b5 := b5'.far (g' := g) (k := 3) (x := .slice A5 n5 c5) (by omega)
          have t6 : Below g w (wc.setCell ⟨g, 3, none⟩ (.slice A5 n5 c5)) := t5.setCell (Nat.le_refl _) _
          have o6 := o5.store_far (a := ⟨g, 3, none⟩) a1 (.slice A5 n5 c5)
          clear b1' b3' b4' b5' t5 o5 c0 c1 c2 c3 f0 f1 f2 f3
          generalize wc.setCell _ _ = w6 at b1 b3 b4 b5 t6 o6 ⊢
          obtain ⟨c0, c1, c2, c3⟩ := b1.four
          obtain ⟨k0, k1⟩ := b3.two
          obtain ⟨d0, d1, d2, d3⟩ := b4.four
          obtain ⟨f0, f1, f2, f3⟩ := b4.free4
          obtain ⟨e0, e1⟩ := b5.two
          obtain ⟨h0, h1⟩ := b5.free2
          go_region
          have r1 := box_drew ((b4.fill4 (.int .i64 1) (.int .i64 status) (.string s_) (.slice A5 n5 c5)).far2 (g' := g + 1 + 1 + 1 + 1) (by omega) (.int .i64 K') (.int .i64 N'))
          have r2 := box_drew ((b5.far4 (g' := g + 1 + 1 + 1) (by omega) (.int .i64 1) (.int .i64 status) (.string s_) (.slice A5 n5 c5)).fill2 (.int .i64 K') (.int .i64 N'))
          have r3 := ow_drew (((o6.far4 a2 (.int .i64 1) (.int .i64 status) (.string s_) (.slice A5 n5 c5)).far2 a3 (.int .i64 K') (.int .i64 N')).base_ (Nat.le_of_lt hg11))
          have r4 := below_drewN (k := 1) (below_fill2 (below_fill4 t6 (show g ≤ g + 1 + 1 + 1 by omega) (.int .i64 1) (.int .i64 status) (.string s_) (.slice A5 n5 c5)) (show g ≤ g + 1 + 1 + 1 + 1 by omega) (.int .i64 K') (.int .i64 N'))
          change Below g w (fill2 (fill4 w6 (g + 1 + 1 + 1) (.int .i64 1) (.int .i64 status) (.string s_) (.slice A5 n5 c5)) (g + 1 + 1 + 1 + 1) (.int .i64 K') (.int .i64 N')).drew at r4
          clear b1 b3 b4 b5 o6 t6 c0 c1 c2 c3 k0 k1 d0 d1 d2 d3 f0 f1 f2 f3 e0 e1 h0 h1
          change _ at r1
          have hw7 : ((((((w6.setCell ⟨g + 1 + 1 + 1, 0, none⟩ (.int .i64 1)).setCell ⟨g + 1 + 1 + 1, 1, none⟩ (.int .i64 status)).setCell ⟨g + 1 + 1 + 1, 2, none⟩ (.string s_)).setCell ⟨g + 1 + 1 + 1, 3, none⟩ (.slice A5 n5 c5)).setCell ⟨g + 1 + 1 + 1 + 1, 0, none⟩ (.int .i64 K')).setCell ⟨g + 1 + 1 + 1 + 1, 1, none⟩ (.int .i64 N')).drew = (fill2 (fill4 w6 (g + 1 + 1 + 1) (.int .i64 1) (.int .i64 status) (.string s_) (.slice A5 n5 c5)) (g + 1 + 1 + 1 + 1) (.int .i64 K') (.int .i64 N')).drew := rfl
          rw [hw7]
          generalize (fill2 (fill4 w6 (g + 1 + 1 + 1) (.int .i64 1) (.int .i64 status) (.string s_) (.slice A5 n5 c5)) (g + 1 + 1 + 1 + 1) (.int .i64 K') (.int .i64 N')).drew = w7 at r1 r2 r3 r4 ⊢
          clear hw7
          go_wp2
          refine bodyPost_ret (v := .tuple #[.agg #[.int .i64 1, .int .i64 status, .string s_, .slice A5 n5 c5], .agg #[.int .i64 K', .int .i64 N']]) (results_rsf Tryz.results160 _ w7 _ _ _ _ _ _ _ _ r1 r2 rfl rfl) rfl ?_
          refine ⟨A5, n5, c5, by rw [← HKE.out, ← HNE.out], ?_, hc5, ?_⟩
          · rw [HRF.out, ← HG.out]
            exact r3
          · rw [← HG.out]
            exact r4
end Go.Proofs.YtijlaclngibekaaGreatDoor
/- The gateway's own answers: reasons and numbers. -/
namespace Go.Proofs.YtijlaclngibekaaGreatDoor
open Go.RowKit

def reasonN : Nat → List UInt8
  | 0 => [66, 97, 100, 32, 82, 101, 113, 117, 101, 115, 116]
  | 1 => [78, 111, 116, 32, 70, 111, 117, 110, 100]
  | 2 => [78, 111, 116, 32, 65, 99, 99, 101, 112, 116, 97, 98, 108, 101]
  | 3 => [67, 111, 110, 116, 101, 110, 116, 32, 84, 111, 111, 32, 76, 97, 114, 103, 101]
  | 4 => [82, 101, 113, 117, 101, 115, 116, 32, 72, 101, 97, 100, 101, 114, 32, 70, 105, 101, 108, 100, 115, 32, 84, 111, 111, 32, 76, 97, 114, 103, 101]
  | 5 => [78, 111, 116, 32, 73, 109, 112, 108, 101, 109, 101, 110, 116, 101, 100]
  | 6 => [66, 97, 100, 32, 71, 97, 116, 101, 119, 97, 121]
  | 7 => [71, 97, 116, 101, 119, 97, 121, 32, 84, 105, 109, 101, 111, 117, 116]
  | _ => [69, 114, 114, 111, 114]
def reasonI (status : Int) : Nat := if status = 400 then 0 else if status = 404 then 1 else if status = 406 then 2 else if status = 413 then 3 else if status = 431 then 4 else if status = 501 then 5 else if status = 502 then 6 else if status = 504 then 7 else 8
def reasonL (status : Int) : List UInt8 := reasonN (reasonI status)
theorem reason_cases (status : Int) : (status = 400 ∨ status = 404 ∨ status = 406 ∨ status = 413 ∨ status = 431 ∨ status = 501 ∨ status = 502 ∨ status = 504) ∨ (status ≠ 400 ∧ status ≠ 404 ∧ status ≠ 406 ∧ status ≠ 413 ∧ status ≠ 431 ∧ status ≠ 501 ∧ status ≠ 502 ∧ status ≠ 504) := by omega
theorem reason_len (status : Int) : (reasonL status).length + 1 ∈ [12, 10, 15, 18, 32, 16, 6] := by
  unfold reasonL reasonI
  repeat' split
  all_goals decide
set_option maxRecDepth 100000 in
set_option maxHeartbeats 6400000 in
theorem reason_any (status : Int) (w : World) : Calls Tryz.prog 74 #[.int .i64 status] w fun e w' => e = .returned (.string ⟨(reasonL status).toArray⟩) ∧ w = w' := by
  rcases reason_cases status with h | ⟨h1, h2, h3, h4, h5, h6, h7, h8⟩
  · rcases h with rfl | rfl | rfl | rfl | rfl | rfl | rfl | rfl <;>
    (go_enter Tryz.func74, Tryz.ntmps74
     go_wp2
     go_ret
     exact ⟨rfl, rfl⟩)
  · have hr : reasonL status = reasonN 8 := by unfold reasonL reasonI; rw [if_neg h1, if_neg h2, if_neg h3, if_neg h4, if_neg h5, if_neg h6, if_neg h7, if_neg h8]
    rw [hr]
    have e1 : (status == 400) = false := by simpa using h1
    have e2 : (status == 404) = false := by simpa using h2
    have e3 : (status == 406) = false := by simpa using h3
    have e4 : (status == 413) = false := by simpa using h4
    have e5 : (status == 431) = false := by simpa using h5
    have e6 : (status == 501) = false := by simpa using h6
    have e7 : (status == 502) = false := by simpa using h7
    have e8 : (status == 504) = false := by simpa using h8
    clear h1 h2 h3 h4 h5 h6 h7 h8
    go_enter Tryz.func74, Tryz.ntmps74
    go_wp2
    go_ret
    exact ⟨rfl, rfl⟩
set_option maxRecDepth 100000 in
set_option maxHeartbeats 6400000 in
theorem itoa_own (n : Nat) (hn : n ∈ [12, 10, 15, 18, 32, 16, 6]) (w : World) : Calls Tryz.prog 75 #[.int .i64 n] w fun e w' => e = .returned (.string ⟨(udig n).toArray⟩) ∧ Below w.heap.size w w' := by
  simp only [List.mem_cons, List.not_mem_nil, or_false] at hn
  rcases hn with rfl | rfl | rfl | rfl | rfl | rfl | rfl
  · have e : udig 12 = [49, 50] := by simp [udig]
    rw [e]
    clear e
    go_enter Tryz.func75, Tryz.ntmps75
    go_wp2
    go_ret
    exact ⟨by kernel_rfl, Below.refl _ _⟩
  · have e : udig 10 = [49, 48] := by simp [udig]
    rw [e]
    clear e
    go_enter Tryz.func75, Tryz.ntmps75
    go_wp2
    go_ret
    exact ⟨by kernel_rfl, Below.refl _ _⟩
  · have e : udig 15 = [49, 53] := by simp [udig]
    rw [e]
    clear e
    go_enter Tryz.func75, Tryz.ntmps75
    go_wp2
    go_ret
    exact ⟨by kernel_rfl, Below.refl _ _⟩
  · have e : udig 18 = [49, 56] := by simp [udig]
    rw [e]
    clear e
    go_enter Tryz.func75, Tryz.ntmps75
    go_wp2
    go_ret
    exact ⟨by kernel_rfl, Below.refl _ _⟩
  · have e : udig 32 = [51, 50] := by simp [udig]
    rw [e]
    clear e
    go_enter Tryz.func75, Tryz.ntmps75
    go_wp2
    go_ret
    exact ⟨by kernel_rfl, Below.refl _ _⟩
  · have e : udig 16 = [49, 54] := by simp [udig]
    rw [e]
    clear e
    go_enter Tryz.func75, Tryz.ntmps75
    go_wp2
    go_ret
    exact ⟨by kernel_rfl, Below.refl _ _⟩
  · have e : udig 6 = [54] := by simp [udig]
    rw [e]
    clear e
    go_enter Tryz.func75, Tryz.ntmps75
    go_wp2
    go_ret
    exact ⟨by kernel_rfl, Below.refl _ _⟩
end Go.Proofs.YtijlaclngibekaaGreatDoor
/- edit.Answer. -/
namespace Go.Proofs.YtijlaclngibekaaGreatDoor
open Go.RowKit
open FrameSmugglesP (allocs allocs_size allocs_below allocs_cell allocs_rd)

def typeF : List UInt8 × List UInt8 := ([67, 111, 110, 116, 101, 110, 116, 45, 84, 121, 112, 101], [116, 101, 120, 116, 47, 112, 108, 97, 105, 110])
def ansBF (status : Int) : List (List UInt8 × List UInt8) := [typeF, (lenC, udig ((reasonL status).length + 1))]
def ansF (status : Int) (keep : Bool) : List (List UInt8 × List UInt8) := if keep then ansBF status else ansBF status ++ [closeF]
theorem results_rsb {fn : Func} {p u : Tmp} (h : fn.results = #[.cell p 46, .tmp u]) (tmps : Array Value) (w : World) (g : Nat) (a b c d v : Value) (hb : Box w g [a, b, c, d]) (hp : tmps.getD p undef = .pointer (some ⟨g, 0, none⟩)) (hu : tmps.getD u undef = v) :
    (results fn tmps).run Tryz.prog w = .ok (.tuple #[.agg #[a, b, c, d], v]) w := by
  have hp' : tmps[p]?.getD undef = .pointer (some ⟨g, 0, none⟩) := by simpa using hp
  have hu' : tmps[u]?.getD undef = v := by simpa using hu
  obtain ⟨k0, k1, k2, k3⟩ := hb.four
  simp [results, h, hp', hu', go_sem, k0, k1, k2, k3]
set_option maxRecDepth 100000 in
set_option maxHeartbeats 6400000 in
theorem answer_any (status : Int) (keep : Bool) (w : World) : Calls Tryz.prog 49 #[.int .i64 status, .bool keep] w fun e w' => ∃ A' n' c' Ab cb, e = .returned (.tuple #[.agg #[.int .i64 1, .int .i64 status, .string ⟨(reasonL status).toArray⟩, .slice A' n' c'], .slice Ab ((reasonL status).length + 1) cb]) ∧
    Rd w' w'.heap.size 2 A' n' (fcells (ansF status keep)) ∧ Rd w' w'.heap.size 1 Ab ((reasonL status).length + 1) (bcells (reasonL status ++ [10])) ∧ Below w.heap.size w w' := by
  have tW : Below w.heap.size w (w.alloc (.cells #[.int .i64 0, .int .i64 0, .string ⟨#[]⟩, .slice none 0 0] 46)) := (Below.refl _ _).alloc (Nat.le_refl _) _
  have b0 := Box.new w #[.int .i64 0, .int .i64 0, .string ⟨#[]⟩, .slice none 0 0] 46
  have hrl := reason_len status
  have hrz : (reasonL status).length ≤ 40 := by
    simp only [List.mem_cons, List.not_mem_nil, or_false] at hrl; omega
  have hre := fun W => reason_any status W
  obtain ⟨bs, hbs⟩ : ∃ b : ByteArray, b = ⟨(reasonL status).toArray⟩ := ⟨_, rfl⟩
  simp only [← hbs] at hre
  rw [← hbs]
  have hbl : bs.data.toList = reasonL status := by rw [hbs]
  obtain ⟨N, hN⟩ : ∃ N, N = (reasonL status).length + 1 := ⟨_, rfl⟩
  rw [← hN] at hrl
  rw [← hN]
  have hbz : bs.size + 1 = N := by rw [size_of, hbl, hN]
  have hbz2 : bs.size ≤ 40 := by omega
  have hN41 : N ≤ 41 := by omega
  have hN1 : 0 < N := by omega
  obtain ⟨sB, hsB⟩ : ∃ b : ByteArray, b = bs ++ ⟨#[10]⟩ := ⟨_, rfl⟩
  have hsl : sB.data.toList = reasonL status ++ [10] := by rw [hsB]; simp [hbl]
  have hsz : sB.size = N := by rw [size_of, hsl, hN]; simp
  have hit := fun W => itoa_own N hrl W
  obtain ⟨bd, hbd⟩ : ∃ b : ByteArray, b = ⟨(udig N).toArray⟩ := ⟨_, rfl⟩
  simp only [← hbd] at hit
  have hcells : (fcells (ansBF status)) = [.string ⟨#[67, 111, 110, 116, 101, 110, 116, 45, 84, 121, 112, 101]⟩, .string ⟨#[116, 101, 120, 116, 47, 112, 108, 97, 105, 110]⟩, .string ⟨#[67, 111, 110, 116, 101, 110, 116, 45, 76, 101, 110, 103, 116, 104]⟩, .string bd] := by
    rw [hbd, hN]; rfl
  have HCELLS := hide hcells
  have HSL := hide hsl
  have HBS := hide hbs
  have HN := hide hN
  have hcv := fun w => run_bytes_of_string (P := Tryz.prog) w 9 35 5 sB Tryz.underlying9 Tryz.underlying35 Tryz.underlying5
  go_enter Tryz.func49, Tryz.ntmps49
  go_upto_region 1 with (fail)
  generalize w.alloc _ = w0 at b0 tW ⊢
  obtain ⟨g, hg⟩ : ∃ g, g = w.heap.size := ⟨_, rfl⟩
  rw [← hg] at b0 tW
  rw [← hg]
  have HG := hide hg
  obtain ⟨c, hc⟩ : ∃ c, c = grownCap w0 sB.size 0 5 := ⟨_, rfl⟩
  have hc1 : sB.size ≤ c := by rw [hc]; exact grownCap_ge _ _ _ _
  have hc2 : c ≤ maxLen := by rw [hc]; exact grownCap_le_maxLen _ _ _ _ (by simp [maxLen]; omega)
  have hcv1 := hcv w0
  rw [← hc] at hcv1
  have ho := ow_of_string w0 5 sB c hc1 hc2
  have tb : Below w0.heap.size w0 (w0.drew.alloc (.cells (bytesRow sB c) 5 ((bytesRow sB c).size, (bytesRow sB c).size + 1))) := (Below.refl _ _).drew.alloc (Nat.le_refl _) _
  rw [hsz] at hcv1 ho
  have hsB' := hsB.symm
  clear hcv hc hg hcells hsl hbs hN hbl hsB hbd hbz
  go_wp2_with fail
  refine (hre w0).mono ?_
  rintro e w1 ⟨rfl, rfl⟩
  go_upto_region 3 with (fail)
  obtain ⟨w1, hw1⟩ : ∃ x, x = w0.drew.alloc (.cells (bytesRow sB c) 5 ((bytesRow sB c).size, (bytesRow sB c).size + 1)) := ⟨_, rfl⟩
  rw [← hw1] at ho tb
  first
    | rw [← hw1]
    | rw [show (w0.alloc (.cells (bytesRow sB c) 5 ((bytesRow sB c).size, (bytesRow sB c).size + 1))).drew = w1 by rw [hw1]; rfl]
  clear hw1 hcv1 hsB'
  have hg0 := b0.1
  replace b0 := b0.below tb
  have t1 := tW.trans (tb.mono (Nat.le_of_lt hg0))
  have rb := ho.rd
  have hbytes : (sB.data.toList.map fun b => Value.int .u8 (b.toNat : Int)) = bcells (reasonL status ++ [10]) := by rw [HSL.out]; rfl
  rw [hbytes] at rb
  clear ho tb tW hbytes
  have hgbb : g < w0.heap.size := hg0
  generalize w0.heap.size = gb at rb hgbb ⊢
  go_wp2_with fail
  refine (hit w1).mono ?_
  rintro e w2 ⟨rfl, k2⟩
  go_upto_region 4 with (fail)
  obtain ⟨objs2, ho2⟩ : ∃ l : List Obj, l = [.cells #[.string ⟨#[67, 111, 110, 116, 101, 110, 116, 45, 84, 121, 112, 101]⟩, .string ⟨#[116, 101, 120, 116, 47, 112, 108, 97, 105, 110]⟩, .string ⟨#[67, 111, 110, 116, 101, 110, 116, 45, 76, 101, 110, 103, 116, 104]⟩, .string bd] 110, .cells #[.int .i64 1, .int .i64 status, .string bs, .slice (some ⟨w2.heap.size, 0, none⟩) 2 2] 46] := ⟨_, rfl⟩
  have hW2 : (w2.alloc (.cells #[.string ⟨#[67, 111, 110, 116, 101, 110, 116, 45, 84, 121, 112, 101]⟩, .string ⟨#[116, 101, 120, 116, 47, 112, 108, 97, 105, 110]⟩, .string ⟨#[67, 111, 110, 116, 101, 110, 116, 45, 76, 101, 110, 103, 116, 104]⟩, .string bd] 110)).alloc (.cells #[.int .i64 1, .int .i64 status, .string bs, .slice (some ⟨w2.heap.size, 0, none⟩) 2 2] 46) = allocs w2 objs2 := by rw [ho2]; rfl
  have bx : Box (allocs w2 objs2) (w2.heap.size + 1) [.int .i64 1, .int .i64 status, .string bs, .slice (some ⟨w2.heap.size, 0, none⟩) 2 2] := box_allocs objs2 w2 1 _ _ (by rw [ho2]; rfl)
  have rf := allocs_rd objs2 w2 0 2 2 #[.string ⟨#[67, 111, 110, 116, 101, 110, 116, 45, 84, 121, 112, 101]⟩, .string ⟨#[116, 101, 120, 116, 47, 112, 108, 97, 105, 110]⟩, .string ⟨#[67, 111, 110, 116, 101, 110, 116, 45, 76, 101, 110, 103, 116, 104]⟩, .string bd] 110 (by rw [ho2]; rfl) rfl
  have ka := allocs_below objs2 w2
  have k := k2.trans (ka.mono k2.size)
  have hg1 := b0.1
  replace b0 := b0.below k
  have rb2 := (rb.below k).mono k.size
  have t2 := t1.trans (k.mono (Nat.le_of_lt hg1))
  rw [hW2]
  have rf2 : Rd (allocs w2 objs2) (allocs w2 objs2).heap.size 2 (some ⟨w2.heap.size, 0, none⟩) 2 (fcells (ansBF status)) := by rw [HCELLS.out]; exact rf
  have hgx : g < w2.heap.size := Nat.lt_of_lt_of_le hg1 k2.size
  have hgb1 : gb < w2.heap.size := by
    obtain ⟨a, ha, hlt, _⟩ := rb.at_ (k := 0) hN1
    cases ha
    exact Nat.lt_of_lt_of_le hlt k2.size
  clear rf ka k rb hit hre ho2 hW2
  obtain ⟨gx, hgxe⟩ : ∃ x, x = w2.heap.size := ⟨_, rfl⟩
  rw [← hgxe] at bx rf2 hgx hgb1
  rw [← hgxe]
  generalize allocs w2 objs2 = w3 at b0 bx rf2 rb2 t2 ⊢
  clear hgxe k2 t1 objs2
  rcases keep with _ | _
  · obtain ⟨x0, x1, x2, x3⟩ := bx.four
    go_wp2_with fail
    refine (with_any (some ⟨gx, 0, none⟩) 2 2 _ (ansBF status) ⟨#[67, 111, 110, 110, 101, 99, 116, 105, 111, 110]⟩ ⟨#[99, 108, 111, 115, 101]⟩ w3 rf2 (Nat.le_refl _) (by omega)).mono ?_
    rintro e w4 ⟨A4, c4, rfl, o4, hc4, k⟩
    have hg3 := b0.1
    have hx3 := bx.1
    replace b0 := b0.below k
    replace bx := bx.below k
    have rb3 := (rb2.below k).mono k.size
    have t3 := t2.trans (k.mono (Nat.le_of_lt hg3))
    have ap1 := ow_apart o4 hx3
    have ap2 := ow_apart o4 hg3
    clear k x0 x1 x2 x3 rb2 rf2 t2
    obtain ⟨x0, x1, x2, x3⟩ := bx.four
    obtain ⟨f0, f1, f2, f3⟩ := bx.free4
    go_upto_region 6 with (fail)
    have bx' := bx.put3 (x := .slice A4 (2 + 1) c4)
    have b0' := b0.far (g' := gx + 1) (k := 3) (x := .slice A4 (2 + 1) c4) (by omega)
    have o5 := o4.store_far (a := ⟨gx + 1, 3, none⟩) ap1 (.slice A4 (2 + 1) c4)
    have t4 : Below g w (w4.setCell ⟨gx + 1, 3, none⟩ (.slice A4 (2 + 1) c4)) := t3.setCell (show g ≤ gx + 1 by omega) _
    have rb4 : Rd (w4.setCell ⟨gx + 1, 3, none⟩ (.slice A4 (2 + 1) c4)) (w4.setCell ⟨gx + 1, 3, none⟩ (.slice A4 (2 + 1) c4)).heap.size 1 (some ⟨gb, 0, none⟩) N (bcells (reasonL status ++ [10])) :=
      (rb3.grown (w' := w4.setCell ⟨gx + 1, 3, none⟩ (.slice A4 (2 + 1) c4)) (grown_setCells (gx + 1) [.slice A4 (2 + 1) c4] 3 w4) (Nat.le_refl _) (by intro a ha e; cases ha; have h : gx + 1 = gb := Option.some.inj e; omega)).mono (by simp [World.setCell])
    clear b0 bx o4 rb3 t3 x0 x1 x2 x3 f0 f1 f2 f3
    generalize w4.setCell _ _ = w5 at bx' b0' o5 t4 rb4 ⊢
    obtain ⟨x0, x1, x2, x3⟩ := bx'.four
    obtain ⟨y0, y1, y2, y3⟩ := b0'.four
    obtain ⟨f0, f1, f2, f3⟩ := b0'.free4
    have r1 := b0'.fill4 (.int .i64 1) (.int .i64 status) (.string bs) (.slice A4 (2 + 1) c4)
    have o6 := (o5.far4 (g := g) ap2 (.int .i64 1) (.int .i64 status) (.string bs) (.slice A4 (2 + 1) c4)).rd
    have rb5 := (rb4.grown (grown_setCells g [.int .i64 1, .int .i64 status, .string bs, .slice A4 (2 + 1) c4] 0 w5) (Nat.le_refl _) (by intro a ha e; cases ha; have h : g = gb := Option.some.inj e; omega)).mono (show w5.heap.size ≤ (fill4 w5 g (.int .i64 1) (.int .i64 status) (.string bs) (.slice A4 (2 + 1) c4)).heap.size by rw [size4]; exact Nat.le_refl _)
    have t5 := below_fill4 t4 (Nat.le_refl g) (.int .i64 1) (.int .i64 status) (.string bs) (.slice A4 (2 + 1) c4)
    go_wp2
    refine bodyPost_ret (v := .tuple #[.agg #[.int .i64 1, .int .i64 status, .string bs, .slice A4 (2 + 1) c4], .slice (some ⟨gb, 0, none⟩) N c]) (results_rsb Tryz.results49 _ (fill4 w5 g (.int .i64 1) (.int .i64 status) (.string bs) (.slice A4 (2 + 1) c4)) _ _ _ _ _ _ r1 rfl rfl) rfl ?_
    exact ⟨A4, 3, c4, some ⟨gb, 0, none⟩, c, rfl, o6, rb5, by rw [← HG.out]; exact t5⟩
  · obtain ⟨x0, x1, x2, x3⟩ := bx.four
    obtain ⟨y0, y1, y2, y3⟩ := b0.four
    obtain ⟨f0, f1, f2, f3⟩ := b0.free4
    have r1 := b0.fill4 (.int .i64 1) (.int .i64 status) (.string bs) (.slice (some ⟨gx, 0, none⟩) 2 2)
    have gr := grown_setCells g [.int .i64 1, .int .i64 status, .string bs, (.slice (some ⟨gx, 0, none⟩) 2 2)] 0 w3
    have hsz4 : w3.heap.size ≤ (fill4 w3 g (.int .i64 1) (.int .i64 status) (.string bs) (.slice (some ⟨gx, 0, none⟩) 2 2)).heap.size := by rw [size4]; exact Nat.le_refl _
    have rf3 := (rf2.grown (w' := fill4 w3 g (.int .i64 1) (.int .i64 status) (.string bs) (.slice (some ⟨gx, 0, none⟩) 2 2)) gr (Nat.le_refl _) (by intro a ha e; cases ha; have h : g = gx := Option.some.inj e; omega)).mono hsz4
    have rb3 := (rb2.grown (w' := fill4 w3 g (.int .i64 1) (.int .i64 status) (.string bs) (.slice (some ⟨gx, 0, none⟩) 2 2)) gr (Nat.le_refl _) (by intro a ha e; cases ha; have h : g = gb := Option.some.inj e; omega)).mono hsz4
    have t5 := below_fill4 t2 (Nat.le_refl g) (.int .i64 1) (.int .i64 status) (.string bs) (.slice (some ⟨gx, 0, none⟩) 2 2)
    go_wp2
    refine bodyPost_ret (v := .tuple #[.agg #[.int .i64 1, .int .i64 status, .string bs, (.slice (some ⟨gx, 0, none⟩) 2 2)], .slice (some ⟨gb, 0, none⟩) N c]) (results_rsb Tryz.results49 _ (fill4 w3 g (.int .i64 1) (.int .i64 status) (.string bs) (.slice (some ⟨gx, 0, none⟩) 2 2)) _ _ _ _ _ _ r1 rfl rfl) rfl ?_
    exact ⟨some ⟨gx, 0, none⟩, 2, 2, some ⟨gb, 0, none⟩, c, rfl, rf3, rb3, by rw [← HG.out]; exact t5⟩
end Go.Proofs.YtijlaclngibekaaGreatDoor
