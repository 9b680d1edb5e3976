/- concertinaref27.Same of two that are the same. -/
import Derived.Test.YtbgbggodjhbgbaaDoorScrArgs
import Derived.Test.YtbgbggodjhbgbaaDoorSame
import Derived.Test.YtbgbggodjhbgbaaDoorTexts
import Derived.Deep.QuietTactic
import Derived.BigQuiet
namespace Go.Proofs.YtbgbggodjhbgbaaDoor
open Go.RowKit
set_option linter.unusedVariables false
set_option linter.unusedSimpArgs false

theorem al_one (w : World) (o : Obj) : (w.alloc o).heap.size = w.heap.size + 1 := by simp
theorem mem_totA' (l : List AcI) (x : AcI) (h : x ∈ l) : x.2.2.2.length ≤ totA l := by
  induction l with
  | nil => cases h
  | cons y l ih =>
    rw [totA, List.map_cons, List.sum_cons, ← totA]
    rcases List.mem_cons.mp h with rfl | h
    · omega
    · have := ih h; omega
theorem mk_beq (x : ByteArray) : (x.toList == x.toList) = true := by simp
set_option maxRecDepth 100000 in
set_option maxHeartbeats 3200000 in
theorem scrsame_any (AR AR' AT AT' A A' : Option Addr) (nR nT n cR cR' cT cT' cA cA' : Nat) (a b c d e : Int) (rs : List RtI) (ts : List (List UInt8)) (al : List AcI) (ps ps' : List Pl) (w : World) (B : Nat)
    (hC : CfgA.In ⟨AR, nR, cR, AT, nT, cT, a, b, c, d, e, rs, ts⟩ w B) (hD : CfgA.In ⟨AR', nR, cR', AT', nT, cT', a, b, c, d, e, rs, ts⟩ w B) (hS : ActA.In ⟨A, n, cA, al, ps⟩ w B) (hT : ActA.In ⟨A', n, cA', al, ps'⟩ w B) (hB : B ≤ w.heap.size) (hn : nR ≤ 100000 ∧ nT ≤ 100000 ∧ n ≤ 100000) (ht : totA al ≤ 2000000) :
    Calls Tryd.prog 12 #[(CfgA.mk AR nR cR AT nT cT a b c d e rs ts).val, (CfgA.mk AR' nR cR' AT' nT cT' a b c d e rs ts).val, (ActA.mk A n cA al ps).val, (ActA.mk A' n cA' al ps').val] w fun e w' => e = .returned (.bool true) ∧ Below w.heap.size w w' := by
  simp only [CfgA.val, ActA.val] at *
  obtain ⟨g, hg⟩ : ∃ g, w.heap.size = g := ⟨_, rfl⟩
  have bx := Box.new w #[.slice AR nR cR, .slice AT nT cT, .int .i64 a, .int .i64 b, .int .i64 c, .int .i64 d, .int .i64 e] 25
  have t0 : Below g w (w.alloc (.cells #[.slice AR nR cR, .slice AT nT cT, .int .i64 a, .int .i64 b, .int .i64 c, .int .i64 d, .int .i64 e] 25)) := (Below.refl _ _).alloc (Nat.le_of_eq hg.symm) _
  rw [hg] at bx
  obtain ⟨w1, hw1⟩ : ∃ w1, w1 = w.alloc (.cells #[.slice AR nR cR, .slice AT nT cT, .int .i64 a, .int .i64 b, .int .i64 c, .int .i64 d, .int .i64 e] 25) := ⟨_, rfl⟩
  have hg1 : w1.heap.size = g + 1 := by rw [hw1, al_one, hg]
  have by0 := Box.new w1 #[.slice AR' nR cR', .slice AT' nT cT', .int .i64 a, .int .i64 b, .int .i64 c, .int .i64 d, .int .i64 e] 25
  have t1 : Below g w (w1.alloc (.cells #[.slice AR' nR cR', .slice AT' nT cT', .int .i64 a, .int .i64 b, .int .i64 c, .int .i64 d, .int .i64 e] 25)) := (hw1 ▸ t0).alloc (by rw [hg1]; exact Nat.le_succ g) _
  have t2 : Below (g + 1) w1 (w1.alloc (.cells #[.slice AR' nR cR', .slice AT' nT cT', .int .i64 a, .int .i64 b, .int .i64 c, .int .i64 d, .int .i64 e] 25)) := (Below.refl _ _).alloc (Nat.le_of_eq hg1.symm) _
  rw [hg1] at by0
  rw [← hw1] at bx
  have bx2 := bx.below3 t2 (Nat.lt_succ_self g)
  obtain ⟨n1, n2, n3⟩ := hn
  have HC := hide hC
  have HD := hide hD
  have HS := hide hS
  have HT := hide hT
  have HTA := hide ht
  have HTX : Hid (∀ W, Below B w W → Calls Tryd.prog 25 #[.slice AT nT cT, .slice AT' nT cT'] W fun e w' => e = .returned (.bool true) ∧ ∃ k, w' = W.drewN k) := hide fun W hb => (texts_any AT AT' nT cT nT cT' B B ts ts W (hC.2.below hb) (hD.2.below hb) (by omega) (by omega)).mono fun _ _ h => ⟨by rw [h.1, beq_self_eq_true], h.2⟩
  clear hC hD hS hT ht t0 t2 bx
  have HW1 := hide hw1
  go_enter Tryd.func12, Tryd.ntmps12
  go_upto_region 1 with (fail)
  rw [← HW1.out]
  obtain ⟨w2, hw2⟩ : ∃ w2, w2 = w1.alloc (.cells #[.slice AR' nR cR', .slice AT' nT cT', .int .i64 a, .int .i64 b, .int .i64 c, .int .i64 d, .int .i64 e] 25) := ⟨_, rfl⟩
  rw [← hw2] at bx2 by0 t1 ⊢
  have hg2 : g + 2 ≤ w2.heap.size := by rw [hw2, al_one, hg1]; exact Nat.le_refl _
  clear hw2 hw1
  obtain ⟨k0, -⟩ := bx2.2 0 _ rfl
  obtain ⟨k1, -⟩ := bx2.2 1 _ rfl
  obtain ⟨k2, -⟩ := bx2.2 2 _ rfl
  obtain ⟨k3, -⟩ := bx2.2 3 _ rfl
  obtain ⟨k4, -⟩ := bx2.2 4 _ rfl
  obtain ⟨k5, -⟩ := bx2.2 5 _ rfl
  obtain ⟨k6, -⟩ := bx2.2 6 _ rfl
  obtain ⟨m0, -⟩ := by0.2 0 _ rfl
  obtain ⟨m1, -⟩ := by0.2 1 _ rfl
  obtain ⟨m2, -⟩ := by0.2 2 _ rfl
  obtain ⟨m3, -⟩ := by0.2 3 _ rfl
  obtain ⟨m4, -⟩ := by0.2 4 _ rfl
  obtain ⟨m5, -⟩ := by0.2 5 _ rfl
  obtain ⟨m6, -⟩ := by0.2 6 _ rfl
  have HTB := hide (HTX.out w2 (t1.mono (hg ▸ hB)))
  have HB2 := hide (And.intro bx2 by0)
  have HT1 := hide t1
  clear bx2 by0 t1
  go_cut [67] from 11 to 67 (fun v wx => v = .bool false ∧ ∃ m, wx = w2.drewN m)
  case first =>
    go_wp2_with fail
    refine (HTB.out).mono ?_
    rintro e' wq ⟨rfl, m, rfl⟩
    go_wp2_with fail
    go_meet
    exact ⟨rfl, _, rfl⟩
  case rest =>
  obtain ⟨rfl, m, hwc⟩ := hcut
  obtain ⟨bx3, by3⟩ := HB2.out
  have hd0 : Below (g + 2) w2 wc := hwc ▸ below_drewN (Below.refl (g + 2) w2)
  have hb3 : Below g w wc := HT1.out.trans (hd0.mono (by omega))
  have HBW := hide (And.intro (bx3.below3 hd0 (by omega)) (by3.below3 hd0 (by omega)))
  have hg3 : g + 2 ≤ wc.heap.size := Nat.le_trans hg2 hd0.size
  clear hwc bx3 by3 hd0 k0 k1 k2 k3 k4 k5 k6 m0 m1 m2 m3 m4 m5 m6 hg1 hg2
  go_wp2_with fail
  go_loopw [9] (fun i wr => ∃ k : Nat, k ≤ nR ∧ i = .int .i64 k ∧ Below (g + 2) wc wr) (fun i _ => nR - (intOf i).toNat)
  case atStart => exact ⟨0, Nat.zero_le _, rfl, Below.refl _ _⟩
  case round =>
    obtain ⟨k, hk, rfl, hb⟩ := hrel
    have hbr : Below g w wr := hb3.trans (hb.mono (by omega))
    have bx4 := HBW.out.1.below3 hb (by omega)
    have by4 := HBW.out.2.below3 hb (by omega)
    obtain ⟨k0, -⟩ := bx4.2 0 _ rfl
    obtain ⟨m0, -⟩ := by4.2 0 _ rfl
    clear bx4 by4
    by_cases hlt : k < nR
    · have hlt' : (k : Int) < (nR : Int) := by omega
      obtain ⟨hl, ab, ao, rfl, hab, r0, r1, r2⟩ := (HC.out.below (hbr.mono (by omega))).rt hlt
      obtain ⟨hl', ab', ao', rfl, hab', s0, s1, s2⟩ := (HD.out.below (hbr.mono (by omega))).rt hlt
      simp only at r0 r1 r2 s0 s1 s2
      obtain ⟨x, hx⟩ : ∃ x, x = rs[k] := ⟨_, rfl⟩
      rw [← hx] at r0 r1 r2 s0 s1 s2
      obtain ⟨x0, hx0⟩ : ∃ y : ByteArray, y = ⟨x.1.toArray⟩ := ⟨_, rfl⟩
      obtain ⟨x1, hx1⟩ : ∃ y : ByteArray, y = ⟨x.2.1.toArray⟩ := ⟨_, rfl⟩
      obtain ⟨x2, hx2⟩ : ∃ y : Int, y = x.2.2 := ⟨_, rfl⟩
      rw [← hx0] at r0 s0
      rw [← hx1] at r1 s1
      rw [← hx2] at r2 s2
      have e0 := mk_beq x0
      have e1 := mk_beq x1
      clear hx hx0 hx1 hx2
      go_upto_region 6 with (fail)
      go_quiet (fail)
      go_wp2
      go_roundw
      case rel => exact ⟨k + 1, by omega, by go_num, below_drewN hb⟩
      case measure => simp [intOf]; omega
    · have hlt' : ¬ (k : Int) < (nR : Int) := by omega
      go_wp2_with fail
      clear k0 m0
      go_loopw [10] (fun i W => ∃ k : Nat, k ≤ n ∧ i = .int .i64 k ∧ Below g w W) (fun i _ => n - (intOf i).toNat)
      case atStart => exact ⟨0, Nat.zero_le _, rfl, hbr⟩
      case round =>
        clear hbr hb
        obtain ⟨q, hq, rfl, hb⟩ := hrel
        have hgr : g ≤ wr.heap.size := hg ▸ hb.size
        by_cases hql : q < n
        · have hql' : (q : Int) < (n : Int) := by omega
          obtain ⟨hl, hl2, ab, ao, rfl, hab, r0, r1, r2, r3, hR⟩ := (HS.out.below (hb.mono (by omega))).ac hql
          obtain ⟨hl', hl2', ab', ao', rfl, hab', s0, s1, s2, s3, hR'⟩ := (HT.out.below (hb.mono (by omega))).ac hql
          simp only at r0 r1 r2 r3 s0 s1 s2 s3 hR hR'
          have hmm := mem_totA' al al[q] (List.getElem_mem _)
          obtain ⟨x, hx⟩ : ∃ x, x = al[q] := ⟨_, rfl⟩
          rw [← hx] at r0 r1 r2 r3 s0 s1 s2 s3 hR hR' hmm
          have hx9 := HTA.out
          obtain ⟨pA, hpA⟩ : ∃ v, v = (ps[q]).1 := ⟨_, rfl⟩
          obtain ⟨pc, hpc⟩ : ∃ v, v = (ps[q]).2 := ⟨_, rfl⟩
          obtain ⟨pA', hpA'⟩ : ∃ v, v = (ps'[q]).1 := ⟨_, rfl⟩
          obtain ⟨pc', hpc'⟩ : ∃ v, v = (ps'[q]).2 := ⟨_, rfl⟩
          rw [← hpA, ← hpc] at r3
          rw [← hpA', ← hpc'] at s3
          rw [← hpA] at hR
          rw [← hpA'] at hR'
          have hsm : ∀ m, Calls Tryd.prog 26 #[.slice pA x.2.2.2.length pc, .slice pA' x.2.2.2.length pc'] (wr.drewN m) fun e w'' => e = .returned (.bool true) ∧ ∃ k, w'' = wr.drewN k := fun m =>
            (same_any pA pA' x.2.2.2.length pc x.2.2.2.length pc' B B x.2.2.2 x.2.2.2 (wr.drewN m) (hR.below (below_drewN (Below.refl _ _))) (hR'.below (below_drewN (Below.refl _ _))) (by omega) (by omega)).mono fun _ _ h => ⟨by rw [h.1, beq_self_eq_true], by obtain ⟨k, hk⟩ := h.2; exact ⟨_, hk.trans (World.drewN_drewN _ _ _)⟩⟩
          have HSM := hide hsm
          obtain ⟨pn, hpn⟩ : ∃ v, v = x.2.2.2.length := ⟨_, rfl⟩
          rw [← hpn] at r3 s3 HSM
          obtain ⟨x0, hx0⟩ : ∃ y : Int, y = x.1 := ⟨_, rfl⟩
          obtain ⟨x1, hx1⟩ : ∃ y : Int, y = x.2.1 := ⟨_, rfl⟩
          obtain ⟨x2, hx2⟩ : ∃ y : Int, y = x.2.2.1 := ⟨_, rfl⟩
          rw [← hx0] at r0 s0
          rw [← hx1] at r1 s1
          rw [← hx2] at r2 s2
          have e0 : (x0 != x0) = false := by simp
          have e1 : (x1 != x1) = false := by simp
          have e2 : (x2 != x2) = false := by simp
          clear hx hx0 hx1 hx2 hpA hpA' hpc hpc' hpn hmm hx9 hsm hR hR'
          go_upto_region 11 with (fail)
          go_quiet ((go_at_call 26; exact HSM.out _))
          go_wp2
          go_roundw
          case rel => exact ⟨q + 1, by omega, by go_num, below_drewN hb⟩
          case measure => simp [intOf]; omega
        · have hql' : ¬ (q : Int) < (n : Int) := by omega
          go_wp2_with fail
          go_ret
          exact ⟨rfl, hg ▸ hb⟩
