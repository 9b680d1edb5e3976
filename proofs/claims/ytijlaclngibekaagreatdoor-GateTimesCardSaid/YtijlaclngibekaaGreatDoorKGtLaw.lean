/- The law's own small and sound. -/
import Derived.Test.YtijlaclngibekaaGreatDoorKConfigG
import Derived.Test.YtijlaclngibekaaGreatDoorKBase
import Derived.Deep.QuietTactic
import Derived.BigQuiet
namespace Go.Proofs.YtijlaclngibekaaGreatDoor
open Go.RowKit
set_option linter.unusedVariables false
set_option linter.unusedSimpArgs false

theorem Box.below3 {w w' : World} {g B : Nat} {cs : List Value} (h : Box w g cs) (hb : Below B w w') (hg : g < B) : Box w' g cs :=
  ⟨Nat.lt_of_lt_of_le h.1 hb.size, fun j u hj => ⟨(hb.cell (p := ⟨g, j, none⟩) hg).trans (h.2 j u hj).1, (World.frozen?_of_block (a := ⟨g, j, none⟩) (hb.block g hg)).trans (h.2 j u hj).2⟩⟩
def CfgZ (C : CfgA) : Prop := C.nR ≤ 140737488355328 ∧ C.nT ≤ 140737488355328 ∧ (∀ r ∈ C.rs, r.1.length ≤ 140737488355328 ∧ r.2.1.length ≤ 140737488355328) ∧ ∀ t ∈ C.ts, t.length ≤ 140737488355328
def IsB (e : Ending) : Prop := ∃ b : Bool, e = .returned (.bool b)
def SoundP (C : CfgA) (e : Ending) : Prop := ∃ b : Bool, e = .returned (.bool b) ∧ (b = true → 16384 ≤ C.d ∧ C.d ≤ 32768 ∧ 0 ≤ C.a ∧ C.a ≤ 9 ∧ 0 ≤ C.b ∧ 0 ≤ C.c ∧ 1 ≤ C.e ∧ C.e ≤ 1073741824 ∧ C.nR ≤ 32 ∧ C.nT ≤ 32)
set_option maxRecDepth 100000 in
set_option maxHeartbeats 3200000 in
theorem lawsmall_any (C : CfgA) (w : World) (B : Nat) (hC : C.In w B) (hB : B ≤ w.heap.size) (hz : CfgZ C) :
    Calls Tryz.prog 5 #[C.val] w fun e w' => IsB e ∧ Below w.heap.size w w' := by
  obtain ⟨AR, nR, cR, AT, nT, cT, a, b, c, d, e, rs, ts⟩ := C
  simp only [CfgA.val] at *
  obtain ⟨g, hg⟩ : ∃ g, w.heap.size = g := ⟨_, rfl⟩
  have bx := Box.new w #[.slice AR nR cR, .slice AT nT cT, .int .i64 a, .int .i64 b, .int .i64 c, .int .i64 d, .int .i64 e] 25
  have t0 : Below g w (w.alloc (.cells #[.slice AR nR cR, .slice AT nT cT, .int .i64 a, .int .i64 b, .int .i64 c, .int .i64 d, .int .i64 e] 25)) := (Below.refl _ _).alloc (Nat.le_of_eq hg.symm) _
  rw [hg] at bx hB
  obtain ⟨n1, n2, z1, z2⟩ := hz
  simp only at n1 n2 z1 z2
  have HC := hide (fun W (b : Below g w W) => hC.below (b.mono hB))
  have hnr := hC.nR
  have hnt := hC.nT
  simp only at hnr hnt
  have HNR := hide hnr
  have HNT := hide hnt
  have HZ1 := hide z1
  have HZ2 := hide z2
  clear hC hnr hnt z1 z2
  go_enter Tryz.func5, Tryz.ntmps5
  go_upto_region 1 with (fail)
  generalize w.alloc _ = w1 at bx t0 ⊢
  obtain ⟨k0, -⟩ := bx.2 0 _ rfl
  obtain ⟨k1, -⟩ := bx.2 1 _ rfl
  have hgs : g + 1 ≤ w1.heap.size := bx.1
  have HBX := hide bx
  clear bx
  have sm : ∀ (i : Nat), i < 100 → True := fun _ _ => trivial
  clear sm
  go_wp2_with fail
  go_loopw [4, 3] (fun i v wr => ∃ k N : Nat, k ≤ nR ∧ k ≤ 100 ∧ i = .int .i64 k ∧ v = .int .i64 N ∧ N ≤ k * 300000000000000 ∧ Below (g + 1) w1 wr) (fun i _ _ => 100 - (intOf i).toNat)
  case atStart => exact ⟨0, 0, Nat.zero_le _, Nat.zero_le _, rfl, rfl, by omega, Below.refl _ _⟩
  case round =>
    obtain ⟨k, N, hk, hk2, rfl, rfl, hN, hb⟩ := hrel
    have hbr := t0.trans (hb.mono (Nat.le_succ g))
    have bx2 := HBX.out.below3 hb (Nat.lt_succ_self g)
    clear k0 k1
    obtain ⟨k0, -⟩ := bx2.2 0 _ rfl
    obtain ⟨k1, -⟩ := bx2.2 1 _ rfl
    clear bx2
    obtain ⟨bb, hbb⟩ : ∃ bb : Bool, bb = (decide (k < nR) && decide (k < 100)) := ⟨_, rfl⟩
    have HBB := hide hbb
    clear hbb
    go_upto_region 3 with (fail)
    go_cut [14] from 6 to 14 (fun v wx => v = .bool bb ∧ wx = wr)
    case first =>
      by_cases h1 : k < nR
      · have h1' : (k : Int) < (nR : Int) := by omega
        by_cases h2 : k < 100
        · have h2' : (k : Int) < 100 := by omega
          go_wp2_with fail
          go_meet
          exact ⟨congrArg Value.bool (by rw [HBB.out]; simp [h1, h2]), rfl⟩
        · have h2' : ¬ (k : Int) < 100 := by omega
          go_wp2_with fail
          go_meet
          exact ⟨congrArg Value.bool (by rw [HBB.out]; simp [h2]), rfl⟩
      · have h1' : ¬ (k : Int) < (nR : Int) := by omega
        go_wp2_with fail
        go_meet
        exact ⟨congrArg Value.bool (by rw [HBB.out]; simp [h1]), rfl⟩
    case rest =>
    obtain ⟨rfl, hw⟩ := hcut
    obtain rfl : wr = wc := hw.symm
    clear hw
    have hkn : bb = true → k < nR ∧ k < 100 := fun h => by
      have := HBB.out; rw [h] at this; simpa using this.symm
    rcases bb with _ | _
    · obtain ⟨w2, hw2⟩ : ∃ w2, w2 = wr := ⟨_, rfl⟩
      rw [← hw2] at hb hbr k0 k1 ⊢
      clear hw2 hkn HBB
      have t2 := hb
      have hN0 : N ≤ 100 * 300000000000000 := Nat.le_trans hN (Nat.mul_le_mul_right _ hk2)
      clear hb hbr hN
      go_wp2_with fail
      go_loopw [5, 3] (fun i v wr => ∃ k M : Nat, k ≤ nT ∧ k ≤ 100 ∧ i = .int .i64 k ∧ v = .int .i64 M ∧ M ≤ 100 * 300000000000000 + k * 300000000000000 ∧ Below (g + 1) w1 wr) (fun i _ _ => 100 - (intOf i).toNat)
      case atStart => exact ⟨0, N, Nat.zero_le _, Nat.zero_le _, rfl, rfl, by omega, t2⟩
      case round =>
        obtain ⟨k, M, hk, hk2, rfl, rfl, hM, hb⟩ := hrel
        have hbr := t0.trans (hb.mono (Nat.le_succ g))
        have bx2 := HBX.out.below3 hb (Nat.lt_succ_self g)
        clear k0 k1
        obtain ⟨k0, -⟩ := bx2.2 0 _ rfl
        obtain ⟨k1, -⟩ := bx2.2 1 _ rfl
        clear bx2
        obtain ⟨bb, hbb⟩ : ∃ bb : Bool, bb = (decide (k < nT) && decide (k < 100)) := ⟨_, rfl⟩
        have HBB := hide hbb
        clear hbb
        go_upto_region 7 with (fail)
        go_cut [42] from 34 to 42 (fun v wx => v = .bool bb ∧ wx = wr)
        case first =>
          by_cases h1 : k < nT
          · have h1' : (k : Int) < (nT : Int) := by omega
            by_cases h2 : k < 100
            · have h2' : (k : Int) < 100 := by omega
              go_wp2_with fail
              go_meet
              exact ⟨congrArg Value.bool (by rw [HBB.out]; simp [h1, h2]), rfl⟩
            · have h2' : ¬ (k : Int) < 100 := by omega
              go_wp2_with fail
              go_meet
              exact ⟨congrArg Value.bool (by rw [HBB.out]; simp [h2]), rfl⟩
          · have h1' : ¬ (k : Int) < (nT : Int) := by omega
            go_wp2_with fail
            go_meet
            exact ⟨congrArg Value.bool (by rw [HBB.out]; simp [h1]), rfl⟩
        case rest =>
        obtain ⟨rfl, hw⟩ := hcut
        obtain rfl : wr = wc := hw.symm
        clear hw
        have hkn : bb = true → k < nT ∧ k < 100 := fun h => by
          have := HBB.out; rw [h] at this; simpa using this.symm
        rcases bb with _ | _
        · clear hkn HBB
          by_cases h2 : M ≤ 20000
          · have h2' : (M : Int) ≤ 20000 := by omega
            go_wp2_with fail
            go_ret
            exact ⟨⟨_, rfl⟩, hg ▸ hbr⟩
          · have h2' : ¬ (M : Int) ≤ 20000 := by omega
            go_wp2_with fail
            go_ret
            exact ⟨⟨_, rfl⟩, hg ▸ hbr⟩
        · obtain ⟨h1, h2⟩ := hkn rfl
          clear hkn HBB
          have h1' : (k : Int) < (nT : Int) := by omega
          have hl : k < ts.length := by have := HNT.out; omega
          obtain ⟨aa, rfl, hab, r0⟩ := (HC.out _ hbr).2.text h1 hl
          obtain ⟨ab, ao, ap⟩ := aa
          have hz := HZ2.out ts[k] (List.getElem_mem _)
          obtain ⟨x0, hx0⟩ : ∃ y : ByteArray, y = ⟨(ts[k]).toArray⟩ := ⟨_, rfl⟩
          have e0 : (ts[k]).length = x0.size := by rw [hx0]; simp [ByteArray.size]
          rw [← hx0] at r0
          rw [e0] at hz
          have hnl : M + x0.size ≤ 100 * 300000000000000 + (k + 1) * 300000000000000 := by omega
          have hkl : (k + 1) * 300000000000000 ≤ 100 * 300000000000000 := Nat.mul_le_mul_right _ (by omega)
          have g1 : IntKind.i64.wrap ((M : Int) + (x0.size : Int)) = (M : Int) + (x0.size : Int) := by rw [IntKind.wrap_i64]; omega
          have HNL := hide hnl
          clear hx0 e0 hz hnl hkl hM
          go_upto_region 9 with (fail)
          go_wp2
          go_roundw
          case rel => exact ⟨k + 1, M + x0.size, by omega, by omega, by go_num, by go_num, HNL.out, hb⟩
          case measure => simp [intOf]; omega
    · obtain ⟨h1, h2⟩ := hkn rfl
      clear hkn HBB
      have h1' : (k : Int) < (nR : Int) := by omega
      obtain ⟨hl, ab, ao, rfl, hab, r0, r1, r2⟩ := (HC.out _ hbr).rt h1
      simp only at r0 r1
      have hz := HZ1.out rs[k] (List.getElem_mem _)
      obtain ⟨x0, hx0⟩ : ∃ y : ByteArray, y = ⟨(rs[k]).1.toArray⟩ := ⟨_, rfl⟩
      obtain ⟨x1, hx1⟩ : ∃ y : ByteArray, y = ⟨(rs[k]).2.1.toArray⟩ := ⟨_, rfl⟩
      have e0 : (rs[k]).1.length = x0.size := by rw [hx0]; simp [ByteArray.size]
      have e1 : (rs[k]).2.1.length = x1.size := by rw [hx1]; simp [ByteArray.size]
      rw [← hx0] at r0
      rw [← hx1] at r1
      rw [e0, e1] at hz
      have hnl : N + x0.size + x1.size ≤ (k + 1) * 300000000000000 := by omega
      have hkl : (k + 1) * 300000000000000 ≤ 100 * 300000000000000 := Nat.mul_le_mul_right _ (by omega)
      have g1 : IntKind.i64.wrap ((N : Int) + (x0.size : Int)) = (N : Int) + (x0.size : Int) := by rw [IntKind.wrap_i64]; omega
      have g2 : IntKind.i64.wrap ((N : Int) + (x0.size : Int) + (x1.size : Int)) = (N : Int) + (x0.size : Int) + (x1.size : Int) := by rw [IntKind.wrap_i64]; omega
      have HNL := hide hnl
      clear hx0 hx1 e0 e1 r2 hz hnl hkl hN
      go_upto_region 5 with (fail)
      go_quiet (fail)
      go_wp2
      go_roundw
      case rel => exact ⟨k + 1, N + x0.size + x1.size, by omega, by omega, by go_num, by go_num, HNL.out, below_drewN hb⟩
      case measure => simp [intOf]; omega
set_option maxRecDepth 100000 in
set_option maxHeartbeats 3200000 in
theorem lawsound_any (C : CfgA) (w : World) (B : Nat) (hC : C.In w B) (hB : B ≤ w.heap.size) (hz : CfgZ C) :
    Calls Tryz.prog 6 #[C.val] w fun e w' => SoundP C e ∧ Below w.heap.size w w' := by
  obtain ⟨AR, nR, cR, AT, nT, cT, a, b, c, d, e, rs, ts⟩ := C
  simp only [CfgA.val] at *
  obtain ⟨g, hg⟩ : ∃ g, w.heap.size = g := ⟨_, rfl⟩
  have bx := Box.new w #[.slice AR nR cR, .slice AT nT cT, .int .i64 a, .int .i64 b, .int .i64 c, .int .i64 d, .int .i64 e] 25
  have t0 : Below g w (w.alloc (.cells #[.slice AR nR cR, .slice AT nT cT, .int .i64 a, .int .i64 b, .int .i64 c, .int .i64 d, .int .i64 e] 25)) := (Below.refl _ _).alloc (Nat.le_of_eq hg.symm) _
  rw [hg] at bx hB
  obtain ⟨n1, n2, z1, z2⟩ := hz
  simp only at n1 n2
  have HC := hide (fun W (b : Below g w W) => hC.below (b.mono hB))
  have hnr := hC.nR
  simp only at hnr
  have HNR := hide hnr
  clear hC hnr z1 z2
  go_enter Tryz.func6, Tryz.ntmps6
  go_upto_region 1 with (fail)
  generalize w.alloc _ = w1 at bx t0 ⊢
  obtain ⟨k0, -⟩ := bx.2 0 _ rfl
  obtain ⟨k1, -⟩ := bx.2 1 _ rfl
  obtain ⟨k2, -⟩ := bx.2 2 _ rfl
  obtain ⟨k3, -⟩ := bx.2 3 _ rfl
  obtain ⟨k4, -⟩ := bx.2 4 _ rfl
  obtain ⟨k5, -⟩ := bx.2 5 _ rfl
  obtain ⟨k6, -⟩ := bx.2 6 _ rfl
  have hC1 := HC.out w1 t0
  clear HC bx
  go_wp2_with fail
  go_loopw [3] (fun i wr => wr = w1 ∧ ∃ k : Nat, k ≤ nR ∧ i = .int .i64 k) (fun i _ => nR - (intOf i).toNat)
  case atStart => exact ⟨rfl, 0, Nat.zero_le _, rfl⟩
  case round =>
    obtain ⟨hw, k, hk, rfl⟩ := hrel
    obtain rfl := hw
    by_cases h1 : k < nR
    · have h1' : (k : Int) < (nR : Int) := by omega
      obtain ⟨hl, ab, ao, rfl, hab, r0, r1, r2⟩ := hC1.rt h1
      simp only at r2
      obtain ⟨u, hu⟩ : ∃ u, u = (rs[k]).2.2 := ⟨_, rfl⟩
      rw [← hu] at r2
      clear hu r0 r1
      by_cases hneg : u < 0
      · go_wp2_with fail
        go_ret
        exact ⟨⟨false, rfl, fun h => by cases h⟩, hg ▸ t0⟩
      · go_wp2_with fail
        go_roundw
        case rel => exact ⟨by first | rfl | trivial, k + 1, by omega, by go_num⟩
        case measure => simp [intOf]; omega
    · have h1' : ¬ (k : Int) < (nR : Int) := by omega
      obtain rfl : k = nR := by omega
      clear hC1 HNR
      by_cases c1 : 16384 ≤ d
      rotate_left
      · go_wp2_with fail
        go_ret
        exact ⟨⟨false, rfl, fun h => by cases h⟩, hg ▸ t0⟩
      by_cases c2 : d ≤ 32768
      rotate_left
      · go_wp2_with fail
        go_ret
        exact ⟨⟨false, rfl, fun h => by cases h⟩, hg ▸ t0⟩
      by_cases c3 : 0 ≤ a
      rotate_left
      · go_wp2_with fail
        go_ret
        exact ⟨⟨false, rfl, fun h => by cases h⟩, hg ▸ t0⟩
      by_cases c4 : a ≤ 9
      rotate_left
      · go_wp2_with fail
        go_ret
        exact ⟨⟨false, rfl, fun h => by cases h⟩, hg ▸ t0⟩
      by_cases c5 : 0 ≤ b
      rotate_left
      · go_wp2_with fail
        go_ret
        exact ⟨⟨false, rfl, fun h => by cases h⟩, hg ▸ t0⟩
      by_cases c6 : 0 ≤ c
      rotate_left
      · go_wp2_with fail
        go_ret
        exact ⟨⟨false, rfl, fun h => by cases h⟩, hg ▸ t0⟩
      by_cases c7 : 1 ≤ e
      rotate_left
      · go_wp2_with fail
        go_ret
        exact ⟨⟨false, rfl, fun h => by cases h⟩, hg ▸ t0⟩
      by_cases c8 : e ≤ 1073741824
      rotate_left
      · go_wp2_with fail
        go_ret
        exact ⟨⟨false, rfl, fun h => by cases h⟩, hg ▸ t0⟩
      by_cases c9 : k ≤ 32
      rotate_left
      · have c9' : ¬ (k : Int) ≤ 32 := by omega
        go_wp2_with fail
        go_ret
        exact ⟨⟨false, rfl, fun h => by cases h⟩, hg ▸ t0⟩
      by_cases c10 : nT ≤ 32
      rotate_left
      · have c9' : (k : Int) ≤ 32 := by omega
        have c10' : ¬ (nT : Int) ≤ 32 := by omega
        go_wp2_with fail
        go_ret
        exact ⟨⟨false, rfl, fun h => by cases h⟩, hg ▸ t0⟩
      have c9' : (k : Int) ≤ 32 := by omega
      have c10' : (nT : Int) ≤ 32 := by omega
      go_wp2_with fail
      go_ret
      exact ⟨⟨true, rfl, fun _ => ⟨c1, c2, c3, c4, c5, c6, c7, c8, c9, c10⟩⟩, hg ▸ t0⟩
end Go.Proofs.YtijlaclngibekaaGreatDoor
