/- concertinaref27.Below. -/
import Derived.Test.YtbgbggodjhbgbaaDoorScrArgs
namespace Go.Proofs.YtbgbggodjhbgbaaDoor
open Go.RowKit
set_option linter.unusedVariables false
set_option linter.unusedSimpArgs false

theorem any_hit {α : Type} {l : List α} {f : α → Bool} {k : Nat} (hk : k < l.length) (h : f l[k] = true) : l.any f = true := List.any_eq_true.mpr ⟨l[k], List.getElem_mem _, h⟩
set_option maxRecDepth 100000 in
set_option maxHeartbeats 3200000 in
theorem scrrbelow_any (C : CfgA) (S : ActA) (w : World) (B : Nat) (hC : C.In w B) (hS : S.In w B) (hB : B ≤ w.heap.size) (hn : C.nR ≤ 100000 ∧ S.n ≤ 100000) :
    Calls Tryd.prog 9 #[C.val, S.val] w fun e w' => e = .returned (.bool (belowB C S)) ∧ Below w.heap.size w w' := by
  obtain ⟨AR, nR, cR, AT, nT, cT, a, b, c, d, e, rs, ts⟩ := C
  obtain ⟨A, n, cA, al, ps⟩ := S
  simp only [CfgA.val, ActA.val] at *
  obtain ⟨g, hg⟩ : ∃ g, w.heap.size = g := ⟨_, rfl⟩
  have bx := Box.new w #[.slice AR nR cR, .slice AT nT cT, .int .i64 a, .int .i64 b, .int .i64 c, .int .i64 d, .int .i64 e] 25
  have t0 : Below g w (w.alloc (.cells #[.slice AR nR cR, .slice AT nT cT, .int .i64 a, .int .i64 b, .int .i64 c, .int .i64 d, .int .i64 e] 25)) := (Below.refl _ _).alloc (Nat.le_of_eq hg.symm) _
  rw [hg] at bx hB
  obtain ⟨n1, n2⟩ := hn
  have HC := hide (fun W (b : Below g w W) => hC.below (b.mono hB))
  have HS := hide (fun W (b : Below g w W) => hS.below (b.mono hB))
  have hnr := hC.nR
  have hna := hS.nA
  simp only at hnr hna
  obtain ⟨R, hR⟩ : ∃ R : Bool, R = belowB ⟨AR, nR, cR, AT, nT, cT, a, b, c, d, e, rs, ts⟩ ⟨A, n, cA, al, ps⟩ := ⟨_, rfl⟩
  rw [← hR]
  unfold belowB cfgNeg at hR
  simp only at hR
  have HR := hide hR
  have HNR := hide hnr
  have HNA := hide hna
  clear hC hS hR hnr hna
  go_enter Tryd.func9, Tryd.ntmps9
  go_upto_region 1 with (fail)
  generalize w.alloc _ = w1 at bx t0 ⊢
  obtain ⟨k0, -⟩ := bx.2 0 _ rfl
  obtain ⟨k1, -⟩ := bx.2 1 _ rfl
  obtain ⟨k2, -⟩ := bx.2 2 _ rfl
  obtain ⟨k3, -⟩ := bx.2 3 _ rfl
  obtain ⟨k4, -⟩ := bx.2 4 _ rfl
  obtain ⟨k5, -⟩ := bx.2 5 _ rfl
  obtain ⟨k6, -⟩ := bx.2 6 _ rfl
  go_wp2_with fail
  go_loopw [5] (fun i wr => ∃ k : Nat, k ≤ nR ∧ i = .int .i64 k ∧ (rs.take k).any rtNeg = false ∧ wr = w1) (fun i _ => nR - (intOf i).toNat)
  case atStart => exact ⟨0, Nat.zero_le _, rfl, by simp, rfl⟩
  case round =>
    obtain ⟨k, hk, rfl, hnone, hw⟩ := hrel
    obtain rfl : w1 = wr := hw.symm
    clear hw
    have HNO := hide hnone
    clear hnone
    by_cases hlt : k < nR
    · have hlt' : (k : Int) < (nR : Int) := by omega
      obtain ⟨hl, ab, ao, rfl, hab, r0, r1, r2⟩ := (HC.out _ t0).rt hlt
      simp only at r2
      have htk := any_take rs rtNeg k hl
      obtain ⟨x2, hx2⟩ : ∃ y : Int, y = (rs[k]).2.2 := ⟨_, rfl⟩
      rw [← hx2] at r2
      have HX := hide hx2
      have HTK := hide htk
      clear hx2 htk r0 r1
      by_cases h2 : x2 < 0
      · go_wp2_with fail
        go_ret
        refine ⟨congrArg (fun b => Ending.returned (Value.bool b)) ?_, hg ▸ t0⟩
        rw [HR.out, any_hit (f := rtNeg) hl (by unfold rtNeg; rw [← HX.out]; exact decide_eq_true h2)]
        simp
      · go_wp2_with fail
        go_roundw
        case rel => exact ⟨k + 1, by omega, by go_num, by rw [HTK.out, HNO.out]; unfold rtNeg; rw [← HX.out]; simp; omega, trivial⟩
        case measure => simp [intOf]; omega
    · have hlt' : ¬ (k : Int) < (nR : Int) := by omega
      have hall : rs.any rtNeg = false := by
        have := HNO.out
        rwa [List.take_of_length_le (by have := HNR.out; omega)] at this
      have HALL := hide hall
      clear hall
      go_wp2_with fail
      go_loopw [6] (fun i W => ∃ k : Nat, k ≤ n ∧ i = .int .i64 k ∧ (al.take k).any acNeg = false ∧ W = w1) (fun i _ => n - (intOf i).toNat)
      case atStart => exact ⟨0, Nat.zero_le _, rfl, by simp, rfl⟩
      case round =>
        clear HNO
        obtain ⟨q, hq, rfl, hnone, hw⟩ := hrel
        obtain rfl : w1 = wr := hw.symm
        clear hw
        have HNO := hide hnone
        clear hnone
        by_cases hql : q < n
        · have hql' : (q : Int) < (n : Int) := by omega
          obtain ⟨hl, hl2, ab, ao, rfl, hab, r0, r1, r2, r3, -⟩ := (HS.out _ t0).ac hql
          simp only at r0 r1 r2
          have htk := any_take al acNeg q hl
          obtain ⟨x0, hx0⟩ : ∃ y : Int, y = (al[q]).1 := ⟨_, rfl⟩
          obtain ⟨x1, hx1⟩ : ∃ y : Int, y = (al[q]).2.1 := ⟨_, rfl⟩
          obtain ⟨x2, hx2⟩ : ∃ y : Int, y = (al[q]).2.2.1 := ⟨_, rfl⟩
          rw [← hx0] at r0
          rw [← hx1] at r1
          rw [← hx2] at r2
          have HX := hide (show acNeg al[q] = (decide (x0 < 0) || decide (x1 < 0) || decide (x2 < 0)) by unfold acNeg; rw [hx0, hx1, hx2])
          have HTK := hide htk
          have HHIT := hide (fun h : acNeg al[q] = true => any_hit (f := acNeg) hl h)
          clear hx0 hx1 hx2 htk r3
          have hno : acNeg al[q] = true → R = true := fun h => by rw [HR.out, HHIT.out h]; simp
          have HN2 := hide hno
          clear hno HHIT
          have T := t0
          by_cases h0 : x0 < 0
          · have hr := hide (HN2.out (by rw [HX.out]; simp [h0]))
            go_wp2_with fail
            go_ret
            exact ⟨congrArg (fun b => Ending.returned (Value.bool b)) hr.out.symm, hg ▸ t0⟩
          by_cases h1 : x1 < 0
          · have hr := hide (HN2.out (by rw [HX.out]; simp [h1]))
            go_wp2_with fail
            go_ret
            exact ⟨congrArg (fun b => Ending.returned (Value.bool b)) hr.out.symm, hg ▸ t0⟩
          by_cases h2 : x2 < 0
          · have hr := hide (HN2.out (by rw [HX.out]; simp [h2]))
            go_wp2_with fail
            go_ret
            exact ⟨congrArg (fun b => Ending.returned (Value.bool b)) hr.out.symm, hg ▸ t0⟩
          have hr := hide (show (al.take (q + 1)).any acNeg = false by rw [HTK.out, HNO.out, HX.out]; simp; omega)
          go_wp2_with fail
          go_roundw
          case rel => exact ⟨q + 1, by omega, by go_num, hr.out, trivial⟩
          case measure => simp [intOf]; omega
        · have hql' : ¬ (q : Int) < (n : Int) := by omega
          have halA : al.any acNeg = false := by
            have := HNO.out
            rwa [List.take_of_length_le (by have := HNA.out; omega)] at this
          have hR2 : Hid (R = (decide (a < 0) || decide (b < 0) || decide (c < 0) || decide (d < 0) || decide (e < 0))) := hide (by rw [HR.out, HALL.out, halA]; simp)
          clear halA
          have fin : ∀ v : Bool, v = R → (Ending.returned (Value.bool v) = Ending.returned (Value.bool R) ∧ Below g w w1) := fun v hv => ⟨by rw [hv], t0⟩
          have HF := hide fin
          clear fin
          by_cases ha : a < 0
          · go_wp2_with fail
            go_ret
            exact HF.out true (by rw [hR2.out]; simp [ha])
          by_cases hb : b < 0
          · go_wp2_with fail
            go_ret
            exact HF.out true (by rw [hR2.out]; simp [hb])
          by_cases hc : c < 0
          · go_wp2_with fail
            go_ret
            exact HF.out true (by rw [hR2.out]; simp [hc])
          by_cases hd : d < 0
          · go_wp2_with fail
            go_ret
            exact HF.out true (by rw [hR2.out]; simp [hd])
          by_cases he : e < 0
          · go_wp2_with fail
            go_ret
            exact HF.out true (by rw [hR2.out]; simp [he])
          go_wp2_with fail
          go_ret
          exact HF.out false (by rw [hR2.out]; simp [ha, hb, hc, hd, he])
end Go.Proofs.YtbgbggodjhbgbaaDoor
