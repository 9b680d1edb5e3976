/- concertinalaw27.light. -/
import Derived.Test.YtbgbggodjhbgbaaDoorScrArgs
import Derived.Test.YtbgbggodjhbgbaaDoorTexts
import Derived.Deep.QuietTactic
import Derived.BigQuiet
namespace Go.Proofs.YtbgbggodjhbgbaaDoor
open Go.RowKit
set_option linter.unusedVariables false
set_option linter.unusedSimpArgs false

def LightPost (C : CfgA) (S : ActA) (w : World) (e : Ending) (w' : World) : Prop :=
  ∃ b, e = .returned (.bool b) ∧ Below w.heap.size w w' ∧ (b = true → totR C.rs + totT C.ts + totA S.al + 20 * (C.nR + C.nT + S.n) < 20000)
def LightBounds (C : CfgA) (S : ActA) : Prop :=
  C.nR ≤ 140737488355328 ∧ C.nT ≤ 140737488355328 ∧ S.n ≤ 140737488355328 ∧ (∀ r ∈ C.rs, r.1.length ≤ 140737488355328 ∧ r.2.1.length ≤ 140737488355328) ∧ (∀ t ∈ C.ts, t.length ≤ 140737488355328) ∧ (∀ a ∈ S.al, a.2.2.2.length ≤ 140737488355328)
theorem totR_take (rs : List RtI) (k : Nat) (h : k < rs.length) : totR (rs.take (k + 1)) = totR (rs.take k) + (rs[k].1.length + rs[k].2.1.length) := sum_take rs _ k h
set_option maxRecDepth 100000 in
set_option maxHeartbeats 3200000 in
theorem scrlight_any (C : CfgA) (S : ActA) (w : World) (B : Nat) (hC : C.In w B) (hS : S.In w B) (hB : B ≤ w.heap.size) (hn : LightBounds C S) :
    Calls Tryd.prog 7 #[C.val, S.val] w (LightPost C S w) := by
  obtain ⟨AR, nR, cR, AT, nT, cT, a, b, c, d, e, rs, ts⟩ := C
  obtain ⟨A, n, cA, al, ps⟩ := S
  simp only [CfgA.val, ActA.val] at *
  obtain ⟨PP, hPP⟩ : ∃ P, P = LightPost ⟨AR, nR, cR, AT, nT, cT, a, b, c, d, e, rs, ts⟩ ⟨A, n, cA, al, ps⟩ w := ⟨_, rfl⟩
  rw [← hPP]
  obtain ⟨g, hg⟩ : ∃ g, w.heap.size = g := ⟨_, rfl⟩
  have bx := Box.new w #[.slice AR nR cR, .slice AT nT cT, .int .i64 a, .int .i64 b, .int .i64 c, .int .i64 d, .int .i64 e] 25
  have t0 : Below g w (w.alloc (.cells #[.slice AR nR cR, .slice AT nT cT, .int .i64 a, .int .i64 b, .int .i64 c, .int .i64 d, .int .i64 e] 25)) := (Below.refl _ _).alloc (Nat.le_of_eq hg.symm) _
  rw [hg] at bx hB
  obtain ⟨n1, n2, n3, z1, z2, z3⟩ := hn
  simp only at n1 n2 n3 z1 z2 z3
  have HC := hide (fun W (b : Below g w W) => hC.below (b.mono hB))
  have HS := hide (fun W (b : Below g w W) => hS.below (b.mono hB))
  have hnr := hC.nR
  have hnt := hC.nT
  have hna := hS.nA
  simp only at hnr hnt hna
  have HP := hide hPP
  have HNR := hide hnr
  have HNT := hide hnt
  have HNA := hide hna
  have HZ1 := hide z1
  have HZ2 := hide z2
  have HZ3 := hide z3
  clear hC hS hPP hnr hnt hna z1 z2 z3
  obtain ⟨s0, hs0⟩ : ∃ s0, s0 = 20 * nR + 20 * nT + 20 * n := ⟨_, rfl⟩
  have i1 : (20 : Int) * (nR : Int) + 20 * (nT : Int) + 20 * (n : Int) = (s0 : Int) := by omega
  have HS0 := hide hs0
  have l0 : s0 ≤ 18014398509481984 := by omega
  clear hs0
  go_enter Tryd.func7, Tryd.ntmps7
  go_upto_region 1 with (fail)
  generalize w.alloc _ = w1 at bx t0 ⊢
  obtain ⟨k0, -⟩ := bx.2 0 _ rfl
  obtain ⟨k1, -⟩ := bx.2 1 _ rfl
  have hgs : g + 1 ≤ w1.heap.size := bx.1
  have HBX := hide bx
  clear bx
  go_wp2_with fail
  go_loopw [6, 5] (fun i v wr => ∃ k N : Nat, k ≤ nR ∧ i = .int .i64 k ∧ v = .int .i64 N ∧ N = s0 + totR (rs.take k) ∧ N ≤ 18014398509481984 ∧ Below (g + 1) w1 wr) (fun i _ _ => nR - (intOf i).toNat)
  case atStart => exact ⟨0, s0, Nat.zero_le _, rfl, by go_num, by simp [totR], l0, Below.refl _ _⟩
  case round =>
    obtain ⟨k, N, hk, rfl, rfl, hN, hNl, hb⟩ := hrel
    have hbr := t0.trans (hb.mono (Nat.le_succ g))
    have bx2 := HBX.out.below3 hb (Nat.lt_succ_self g)
    clear k0 k1
    obtain ⟨k0, -⟩ := bx2.2 0 _ rfl
    obtain ⟨k1, -⟩ := bx2.2 1 _ rfl
    have HN := hide hN
    clear hN bx2
    obtain ⟨bb, hbb⟩ : ∃ bb : Bool, bb = (decide (k < nR) && decide (N < 20000)) := ⟨_, rfl⟩
    have HBB := hide hbb
    clear hbb
    go_upto_region 3 with (fail)
    go_cut [30] from 22 to 30 (fun v wx => v = .bool bb ∧ wx = wr)
    case first =>
      by_cases h1 : k < nR
      · have h1' : (k : Int) < (nR : Int) := by omega
        by_cases h2 : N < 20000
        · have h2' : (N : Int) < 20000 := by omega
          go_wp2_with fail
          go_meet
          exact ⟨congrArg Value.bool (by rw [HBB.out]; simp [h1, h2]), rfl⟩
        · have h2' : ¬ (N : Int) < 20000 := by omega
          go_wp2_with fail
          go_meet
          exact ⟨congrArg Value.bool (by rw [HBB.out]; simp [h2]), rfl⟩
      · have h1' : ¬ (k : Int) < (nR : Int) := by omega
        go_wp2_with fail
        go_meet
        exact ⟨congrArg Value.bool (by rw [HBB.out]; simp [h1]), rfl⟩
    case rest =>
    obtain ⟨rfl, hw⟩ := hcut
    obtain rfl : wr = wc := hw.symm
    clear hw
    have hkn : k < nR ∧ N < 20000 ∨ bb = false := by
      rcases bb with _ | _
      · exact .inr rfl
      · have := HBB.out; simp at this; exact .inl this
    have hkf : bb = false → k = nR ∨ 20000 ≤ N := fun h => by
      have h2 := HBB.out
      rw [h] at h2
      simp at h2
      omega
    have HKF := hide hkf
    have HKN := hide hkn
    clear hkf hkn
    rcases bb with _ | _
    · have hx := HKF.out rfl
      have HX := hide hx
      clear hx HKF HKN
      obtain ⟨w2, hw2⟩ : ∃ w2, w2 = wr := ⟨_, rfl⟩
      rw [← hw2] at hb hbr k0 k1 ⊢
      clear hw2
      have hN1 : N < 20000 → N = s0 + totR rs := fun h => by
        have h1 := HN.out
        have h2 : k = nR := HX.out.resolve_right (by omega)
        rwa [List.take_of_length_le (by have := HNR.out; omega)] at h1
      have hN0 : s0 ≤ N := by have := HN.out; omega
      have HN1 := hide hN1
      clear hN1 HN HX
      have t2 := hb
      have HB2 := hide hbr
      clear hb hbr
      go_wp2_with fail
      go_loopw [7, 5] (fun i v wr => ∃ k M : Nat, k ≤ nT ∧ i = .int .i64 k ∧ v = .int .i64 M ∧ M = N + totT (ts.take k) ∧ M ≤ 18014398509481984 ∧ Below (g + 1) w1 wr) (fun i _ _ => nT - (intOf i).toNat)
      case atStart => exact ⟨0, N, Nat.zero_le _, rfl, rfl, by simp [totT], hNl, t2⟩
      case round =>
        obtain ⟨k, M, hk, rfl, rfl, hM, hMl, hb⟩ := hrel
        have hbr := t0.trans (hb.mono (Nat.le_succ g))
        have bx2 := HBX.out.below3 hb (Nat.lt_succ_self g)
        clear k0 k1
        obtain ⟨k0, -⟩ := bx2.2 0 _ rfl
        obtain ⟨k1, -⟩ := bx2.2 1 _ rfl
        have HM := hide hM
        clear hM bx2
        obtain ⟨bb, hbb⟩ : ∃ bb : Bool, bb = (decide (k < nT) && decide (M < 20000)) := ⟨_, rfl⟩
        have HBB := hide hbb
        clear hbb
        go_upto_region 7 with (fail)
        go_cut [58] from 50 to 58 (fun v wx => v = .bool bb ∧ wx = wr)
        case first =>
          by_cases h1 : k < nT
          · have h1' : (k : Int) < (nT : Int) := by omega
            by_cases h2 : M < 20000
            · have h2' : (M : Int) < 20000 := by omega
              go_wp2_with fail
              go_meet
              exact ⟨congrArg Value.bool (by rw [HBB.out]; simp [h1, h2]), rfl⟩
            · have h2' : ¬ (M : Int) < 20000 := by omega
              go_wp2_with fail
              go_meet
              exact ⟨congrArg Value.bool (by rw [HBB.out]; simp [h2]), rfl⟩
          · have h1' : ¬ (k : Int) < (nT : Int) := by omega
            go_wp2_with fail
            go_meet
            exact ⟨congrArg Value.bool (by rw [HBB.out]; simp [h1]), rfl⟩
        case rest =>
        obtain ⟨rfl, hw⟩ := hcut
        obtain rfl : wr = wc := hw.symm
        clear hw
        have hkn : k < nT ∧ M < 20000 ∨ bb = false := by
          rcases bb with _ | _
          · exact .inr rfl
          · have := HBB.out; simp at this; exact .inl this
        have hkf : bb = false → k = nT ∨ 20000 ≤ M := fun h => by
          have h2 := HBB.out
          rw [h] at h2
          simp at h2
          omega
        have HKF := hide hkf
        have HKN := hide hkn
        clear hkf hkn
        rcases bb with _ | _
        · have hx := HKF.out rfl
          have HX := hide hx
          clear hx HKF HKN
          obtain ⟨w3, hw3⟩ : ∃ w3, w3 = wr := ⟨_, rfl⟩
          rw [← hw3] at hb hbr k0 k1 ⊢
          clear hw3
          have hM1 : M < 20000 → M = N + totT ts := fun h => by
            have h1 := HM.out
            have h2 : k = nT := HX.out.resolve_right (by omega)
            rwa [List.take_of_length_le (by have := HNT.out; omega)] at h1
          have hM : N ≤ M := by have := HM.out; omega
          have HM1 := hide hM1
          clear hM1 HM HX
          have t3 := hb
          clear hb hbr
          go_wp2_with fail
          go_loopw [8, 5] (fun i v wr => ∃ k L : Nat, k ≤ n ∧ i = .int .i64 k ∧ v = .int .i64 L ∧ L = M + totA (al.take k) ∧ L ≤ 18014398509481984 ∧ Below (g + 1) w1 wr) (fun i _ _ => n - (intOf i).toNat)
          case atStart => exact ⟨0, M, Nat.zero_le _, rfl, rfl, by simp [totA], hMl, t3⟩
          case round =>
              clear hM k0 k1
              obtain ⟨k, L, hk, rfl, rfl, hL, hLl, hb⟩ := hrel
              have hbr := t0.trans (hb.mono (Nat.le_succ g))
              have HL := hide hL
              clear hL
              obtain ⟨bb, hbb⟩ : ∃ bb : Bool, bb = (decide (k < n) && decide (L < 20000)) := ⟨_, rfl⟩
              have HBB := hide hbb
              clear hbb
              go_upto_region 11 with (fail)
              go_cut [76] from 69 to 76 (fun v wx => v = .bool bb ∧ wx = wr)
              case first =>
                by_cases h1 : k < n
                · have h1' : (k : Int) < (n : Int) := by omega
                  by_cases h2 : L < 20000
                  · have h2' : (L : Int) < 20000 := by omega
                    go_wp2_with fail
                    go_meet
                    exact ⟨congrArg Value.bool (by rw [HBB.out]; simp [h1, h2]), rfl⟩
                  · have h2' : ¬ (L : Int) < 20000 := by omega
                    go_wp2_with fail
                    go_meet
                    exact ⟨congrArg Value.bool (by rw [HBB.out]; simp [h2]), rfl⟩
                · have h1' : ¬ (k : Int) < (n : Int) := by omega
                  go_wp2_with fail
                  go_meet
                  exact ⟨congrArg Value.bool (by rw [HBB.out]; simp [h1]), rfl⟩
              case rest =>
              obtain ⟨rfl, hw⟩ := hcut
              obtain rfl : wr = wc := hw.symm
              clear hw
              have hkn : k < n ∧ L < 20000 ∨ bb = false := by
                rcases bb with _ | _
                · exact .inr rfl
                · have := HBB.out; simp at this; exact .inl this
              have hkf : bb = false → k = n ∨ 20000 ≤ L := fun h => by
                have h2 := HBB.out
                rw [h] at h2
                simp at h2
                omega
              have HKF := hide hkf
              have HKN := hide hkn
              clear hkf hkn
              rcases bb with _ | _
              · have hx := HKF.out rfl
                have HX := hide hx
                clear hx HKF HKN
                have hL1 : L < 20000 → L = M + totA al := fun h => by
                  have h1 := HL.out
                  have h2 : k = n := HX.out.resolve_right (by omega)
                  rwa [List.take_of_length_le (by have := HNA.out; omega)] at h1
                have hM9 : M ≤ L := by have := HL.out; omega
                have HL1 := hide hL1
                clear hL1
                have fin : decide (L < 20000) = true → totR rs + totT ts + totA al + 20 * (nR + nT + n) < 20000 := fun h => by
                  have h0 := of_decide_eq_true h
                  have h1 := HL1.out h0
                  have h2 := HM1.out (by omega)
                  have h3 := HN1.out (by omega)
                  have h4 := HS0.out
                  omega
                have HF := hide fin
                clear fin
                by_cases h2 : L < 20000
                · have h2' : (L : Int) < 20000 := by omega
                  go_wp2_with fail
                  rw [HP.out]
                  exact ⟨true, rfl, hg ▸ hbr, fun _ => HF.out (decide_eq_true h2)⟩
                · have h2' : ¬ (L : Int) < 20000 := by omega
                  go_wp2_with fail
                  rw [HP.out]
                  exact ⟨false, rfl, hg ▸ hbr, fun h => by cases h⟩
              · have hx := HKN.out.resolve_right (by simp)
                clear HKF HKN
                obtain ⟨h1, h2⟩ := hx
                have h1' : (k : Int) < (n : Int) := by omega
                obtain ⟨hl, hl2, ab, ao, rfl, hab, -, -, -, r3, -⟩ := (HS.out _ hbr).ac h1
                simp only at r3
                have hz := HZ3.out al[k] (List.getElem_mem _)
                have htk : totA (al.take (k + 1)) = totA (al.take k) + (al[k]).2.2.2.length := sum_take al (fun a => a.2.2.2.length) k hl
                obtain ⟨pn, hpn⟩ : ∃ y, y = (al[k]).2.2.2.length := ⟨_, rfl⟩
                obtain ⟨pA, hpA⟩ : ∃ v, v = (ps[k]).1 := ⟨_, rfl⟩
                obtain ⟨pc, hpc⟩ : ∃ v, v = (ps[k]).2 := ⟨_, rfl⟩
                rw [← hpn, ← hpA, ← hpc] at r3
                rw [← hpn] at hz htk
                have g1 : IntKind.i64.wrap ((L : Int) + (pn : Int)) = (L : Int) + (pn : Int) := by rw [IntKind.wrap_i64]; omega
                have hnx : L + pn = M + totA (al.take (k + 1)) := by rw [htk]; have := HL.out; omega
                have HNX := hide hnx
                have hnl : L + pn ≤ 18014398509481984 := by omega
                clear hnx htk hpn hpA hpc hz
                go_upto_region 13 with (fail)
                go_wp2
                go_roundw
                case rel => exact ⟨k + 1, L + pn, by omega, by go_num, by go_num, HNX.out, hnl, hb⟩
                case measure => simp [intOf]; omega
        · have hx := HKN.out.resolve_right (by simp)
          clear HKF HKN
          obtain ⟨h1, h2⟩ := hx
          have h1' : (k : Int) < (nT : Int) := by omega
          have hl : k < ts.length := by have := HNT.out; omega
          obtain ⟨aa, rfl, hab, r0⟩ := (HC.out _ hbr).2.text h1 hl
          obtain ⟨ab, ao, ap⟩ := aa
          have hz := HZ2.out ts[k] (List.getElem_mem _)
          have htk : totT (ts.take (k + 1)) = totT (ts.take k) + (ts[k]).length := sum_take ts List.length k hl
          obtain ⟨x0, hx0⟩ : ∃ y : ByteArray, y = ⟨(ts[k]).toArray⟩ := ⟨_, rfl⟩
          have e0 : (ts[k]).length = x0.size := by rw [hx0]; simp [ByteArray.size]
          rw [← hx0] at r0
          rw [e0] at hz htk
          have g1 : IntKind.i64.wrap ((M : Int) + (x0.size : Int)) = (M : Int) + (x0.size : Int) := by rw [IntKind.wrap_i64]; omega
          have hnx : M + x0.size = N + totT (ts.take (k + 1)) := by rw [htk]; have := HM.out; omega
          have HNX := hide hnx
          have hnl : M + x0.size ≤ 18014398509481984 := by omega
          clear hnx htk hx0 e0 hz
          go_upto_region 9 with (fail)
          go_wp2
          go_roundw
          case rel => exact ⟨k + 1, M + x0.size, by omega, by go_num, by go_num, HNX.out, hnl, hb⟩
          case measure => simp [intOf]; omega
    · have hx := HKN.out.resolve_right (by simp)
      clear HKF HKN
      obtain ⟨h1, h2⟩ := hx
      have h1' : (k : Int) < (nR : Int) := by omega
      obtain ⟨hl, ab, ao, rfl, hab, r0, r1, r2⟩ := (HC.out _ hbr).rt h1
      simp only at r0 r1
      have hz := HZ1.out rs[k] (List.getElem_mem _)
      have htk := totR_take rs k hl
      obtain ⟨x0, hx0⟩ : ∃ y : ByteArray, y = ⟨(rs[k]).1.toArray⟩ := ⟨_, rfl⟩
      obtain ⟨x1, hx1⟩ : ∃ y : ByteArray, y = ⟨(rs[k]).2.1.toArray⟩ := ⟨_, rfl⟩
      have e0 : (rs[k]).1.length = x0.size := by rw [hx0]; simp [ByteArray.size]
      have e1 : (rs[k]).2.1.length = x1.size := by rw [hx1]; simp [ByteArray.size]
      rw [← hx0] at r0
      rw [← hx1] at r1
      rw [e0, e1] at hz htk
      have g1 : IntKind.i64.wrap ((N : Int) + (x0.size : Int)) = (N : Int) + (x0.size : Int) := by rw [IntKind.wrap_i64]; omega
      have g2 : IntKind.i64.wrap ((N : Int) + (x0.size : Int) + (x1.size : Int)) = (N : Int) + (x0.size : Int) + (x1.size : Int) := by rw [IntKind.wrap_i64]; omega
      have hnx : N + x0.size + x1.size = s0 + totR (rs.take (k + 1)) := by rw [htk]; have := HN.out; omega
      have HNX := hide hnx
      have hnl : N + x0.size + x1.size ≤ 18014398509481984 := by omega
      clear hnx htk hx0 hx1 e0 e1 r2 hz
      go_upto_region 5 with (fail)
      go_quiet (fail)
      go_wp2
      go_roundw
      case rel => exact ⟨k + 1, N + x0.size + x1.size, by omega, by go_num, by go_num, HNX.out, hnl, below_drewN hb⟩
      case measure => simp [intOf]; omega
end Go.Proofs.YtbgbggodjhbgbaaDoor
