/- The reference's line and hex. -/
import Derived.Test.YtdpcncpfbaigeaaDoorCrlf
import Derived.Test.YtdpcncpfbaigeaaDoorChunkSpec
import Derived.OwnWalk
namespace Go.Proofs.YtdpcncpfbaigeaaDoor
open Go.RowKit
set_option linter.unusedVariables false
set_option linter.unusedSimpArgs false

theorem lineIx_hit {b : List UInt8} {k : Nat} (h4 : k + 2 ≤ 1024) (h : Lib.occAt b crlfL k = true) (hn : ∀ j, j < k → Lib.occAt b crlfL j = false) : lineIx b = k := by
  have hr := Lib.occAt_room h
  have hl : k + 2 ≤ b.length := by
    rcases hr with h | h
    · exact h
    · cases h
  refine Lib.index_first (by rw [List.length_take]; omega) ((occ_take _ _ _ _).2 ⟨h, by simp [crlfL]; omega⟩) fun j hj => ?_
  rcases hb : Lib.occAt (b.take 1024) crlfL j with _ | _
  · rfl
  · have := ((occ_take _ _ _ _).1 hb).1
    rw [hn j hj] at this; cases this
theorem lineIx_miss {b : List UInt8} {k : Nat} (hk : b.length < k + 2 ∨ 1024 < k + 2) (hn : ∀ j, j < k → Lib.occAt b crlfL j = false) : lineIx b = -1 := by
  refine Lib.index_none fun j hj => ?_
  rcases hb : Lib.occAt (b.take 1024) crlfL j with _ | _
  · rfl
  · obtain ⟨h1, h2⟩ := (occ_take _ _ _ _).1 hb
    rcases Lib.occAt_room h1 with h3 | h3
    · have h4 : crlfL.length = 2 := rfl
      rw [h4] at h2 h3
      rw [hn j (by omega)] at h1; cases h1
    · cases h3
theorem occ_drop (l : List UInt8) (o k : Nat) : Lib.occAt (l.drop o) crlfL k = Lib.occAt l crlfL (o + k) := by
  unfold Lib.occAt; rw [List.drop_drop]
/-- Where the next line begins. -/
def lineP (o : Nat) (l : List UInt8) : Nat := if lineE l = 0 then o + (lineIx l).toNat + 2 else 0
set_option maxRecDepth 100000 in
set_option maxHeartbeats 3200000 in
theorem refline_any (A : Option Addr) (n c B o : Nat) (bs : List UInt8) (w : World) (h : Rd w B 1 A n (bcells bs)) (hn : n ≤ 100000) (ho : o ≤ n) :
    Calls Tryd.prog 27 #[.slice A n c, .int .i64 o] w fun e w' => e = .returned (.tuple #[.string ⟨(lineT (bs.drop o)).toArray⟩, .int .i64 (lineP o (bs.drop o)), .int .i64 (lineE (bs.drop o))]) ∧ w' = w := by
  have hlen : bs.length = n := by have := h.1; rw [bcells_length] at this; omega
  have hcv := run_string_of (P := Tryd.prog) 26 9 5 Tryd.underlying26 Tryd.underlying5 Tryd.underlying9 w B n c A bs h
  have hsz : (⟨bs.toArray⟩ : ByteArray).size = n := by rw [mk_size, hlen]
  have qc := fun i w hi => crlf_any ⟨bs.toArray⟩ i w hi
  obtain ⟨s, hs⟩ : ∃ t : ByteArray, t = ⟨bs.toArray⟩ := ⟨_, rfl⟩
  have hsl : s.data.toList = bs := by rw [hs]
  simp only [← hs, hsl] at hcv hsz qc
  obtain ⟨rP, hrP⟩ : ∃ x, x = lineP o (bs.drop o) := ⟨_, rfl⟩
  obtain ⟨rE, hrE⟩ : ∃ x, x = lineE (bs.drop o) := ⟨_, rfl⟩
  obtain ⟨rT, hrT⟩ : ∃ x : ByteArray, x = ⟨(lineT (bs.drop o)).toArray⟩ := ⟨_, rfl⟩
  rw [← hrP, ← hrE, ← hrT]
  have hld : (bs.drop o).length = n - o := by rw [List.length_drop, hlen]
  have HP := hide hrP
  have HE := hide hrE
  have HT := hide hrT
  have HL := hide hlen
  have HLD := hide hld
  have HSL := hide hsl
  have hsn : (s.size : Int) = (n : Int) := by omega
  have HSZ := hide hsz
  have hse : ∀ k, o + k ≤ n → s.extract o (o + k) = ⟨((bs.drop o).take k).toArray⟩ := fun k hk => bytes_ext (by
    have : (s.extract o (o + k)).data.toList = (s.data.toList.drop o).take k := by simp [List.take_drop]
    rw [this, hsl])
  have HSE := hide hse
  clear hs hrP hrE hrT hlen hsz hld hsl hse
  go_enter Tryd.func27, Tryd.ntmps27
  go_wp2_with fail
  go_loopw [8] (fun i wr => ∃ k p : Nat, p = o + k ∧ p ≤ n ∧ k ≤ 1024 ∧ i = .int .i64 p ∧ (∀ j, j < k → Lib.occAt (bs.drop o) crlfL j = false) ∧ wr = w) (fun i _ => n - (intOf i).toNat)
  case atStart => exact ⟨0, o, rfl, ho, by omega, rfl, fun j hj => absurd hj (Nat.not_lt_zero _), rfl⟩
  case round =>
    obtain ⟨k, p, hp, hpn, hk, rfl, ha, hww⟩ := hrel
    obtain rfl : w = wr := hww.symm
    have HA := hide ha
    have HPK := hide hp
    have i0 : (o : Int) ≤ (p : Int) := by omega
    clear ha hp
    by_cases hc1 : p + 2 ≤ n
    · have i1 : (p : Int) + 2 ≤ (n : Int) := by omega
      by_cases hc2 : k + 2 ≤ 1024
      · have i2 : (p : Int) + 2 ≤ (o : Int) + 1024 := by have := HPK.out; omega
        have qa := qc p w (by omega)
        have hoc := occ_drop bs o k
        rw [← HPK.out] at hoc
        rcases hA : Lib.occAt bs crlfL p with _ | _
        · rw [hA] at qa hoc
          have HO := hide hoc
          clear hoc hA
          go_wp2_with fail
          refine qa.mono ?_
          rintro e w1 ⟨rfl, rfl⟩
          go_wp2_with fail
          go_roundw
          case rel =>
            refine ⟨k + 1, p + 1, by have := HPK.out; omega, by omega, by omega, by go_num, fun j hj => ?_, by first | rfl | trivial⟩
            rcases Nat.lt_or_ge j k with h1 | h1
            · exact HA.out j h1
            · obtain rfl : j = k := by omega
              exact HO.out
          case measure => simp [intOf]; omega
        · rw [hA] at qa hoc
          have hix := lineIx_hit hc2 hoc HA.out
          obtain rfl : rE = 0 := by rw [HE.out]; unfold lineE; rw [hix, if_pos (by omega)]
          obtain rfl : rP = p + 2 := by rw [HP.out]; unfold lineP; rw [← HE.out, if_pos rfl, hix]; have := HPK.out; omega
          have hrT : rT = s.extract o p := by rw [HT.out, HPK.out, HSE.out k (by have := HPK.out; omega)]; unfold lineT; rw [hix, if_pos (by omega)]; rfl
          have hps : (p : Int) ≤ (n : Int) := by omega
          clear hoc hA hix HSE HSL HE HP HT
          go_wp2_with fail
          refine qa.mono ?_
          rintro e w1 ⟨rfl, rfl⟩
          go_wp2_with fail
          go_ret3
          exact ⟨by rw [hrT]; rfl, rfl⟩
      · have i2 : ¬ (p : Int) + 2 ≤ (o : Int) + 1024 := by have := HPK.out; omega
        have hix := lineIx_miss (k := k) (b := bs.drop o) (.inr (by omega)) HA.out
        have hl := HLD.out
        have hpk := HPK.out
        obtain rfl : rE = 6 := by rw [HE.out]; unfold lineE; rw [hix, if_neg (by omega), if_pos (by omega)]
        obtain rfl : rP = 0 := by rw [HP.out]; unfold lineP; rw [← HE.out, if_neg (by omega)]
        obtain rfl : rT = ⟨#[]⟩ := by rw [HT.out]; unfold lineT; rw [hix, if_neg (by omega)]
        have i3 : (1024 : Int) ≤ (n : Int) - (o : Int) := by omega
        clear hix hl HSE HSL HE HP HT hpk
        go_wp2_with fail
        go_ret3
        exact ⟨rfl, rfl⟩
    · have i1 : ¬ (p : Int) + 2 ≤ (n : Int) := by omega
      have hl := HLD.out
      have hpk := HPK.out
      have hix := lineIx_miss (k := k) (b := bs.drop o) (.inl (by omega)) HA.out
      by_cases h1024 : 1024 ≤ n - o
      · obtain rfl : rE = 6 := by rw [HE.out]; unfold lineE; rw [hix, if_neg (by omega), if_pos (by omega)]
        obtain rfl : rP = 0 := by rw [HP.out]; unfold lineP; rw [← HE.out, if_neg (by omega)]
        obtain rfl : rT = ⟨#[]⟩ := by rw [HT.out]; unfold lineT; rw [hix, if_neg (by omega)]
        have i3 : (1024 : Int) ≤ (n : Int) - (o : Int) := by omega
        clear hix hl HSE HSL HE HP HT hpk
        go_wp2_with fail
        go_ret3
        exact ⟨rfl, rfl⟩
      · obtain rfl : rE = 5 := by rw [HE.out]; unfold lineE; rw [hix, if_neg (by omega), if_neg (by omega)]
        obtain rfl : rP = 0 := by rw [HP.out]; unfold lineP; rw [← HE.out, if_neg (by omega)]
        obtain rfl : rT = ⟨#[]⟩ := by rw [HT.out]; unfold lineT; rw [hix, if_neg (by omega)]
        have i3 : ¬ (1024 : Int) ≤ (n : Int) - (o : Int) := by omega
        clear hix hl HSE HSL HE HP HT hpk
        go_wp2_with fail
        go_ret3
        exact ⟨rfl, rfl⟩
def hexI (c : UInt8) : Int := if hexB c then (hexV c : Int) else -1
set_option maxRecDepth 100000 in
set_option maxHeartbeats 3200000 in
theorem refhex_any (c : UInt8) (w : World) :
    Calls Tryd.prog 28 #[.int .u8 c.toNat] w fun e w' => e = .returned (.int .i64 (hexI c)) ∧ w' = w := by
  have hc : c.toNat < 256 := c.toNat_lt
  obtain ⟨r, hr⟩ : ∃ r, r = hexI c := ⟨_, rfl⟩
  rw [← hr]
  unfold hexI hexB hexV at hr
  obtain ⟨x, hx⟩ : ∃ x, c.toNat = x := ⟨_, rfl⟩
  rw [hx] at hr hc ⊢
  clear hx
  have w1 : ∀ a : Int, 0 ≤ a → a < 256 → IntKind.u8.wrap a = a := fun a h1 h2 => by simp [IntKind.wrap, IntKind.bits, IntKind.signed]; omega
  by_cases a1 : 48 ≤ x ∧ x ≤ 57
  · have j1 : (48 : Int) ≤ (x : Int) := by omega
    have j2 : (x : Int) ≤ 57 := by omega
    have hw := w1 ((x : Int) - 48) (by omega) (by omega)
    obtain rfl : r = (x : Int) - 48 := by rw [hr]; simp [a1]; omega
    clear hr w1 a1
    go_enter Tryd.func28, Tryd.ntmps28
    go_wp2_with fail
    go_ret
    exact ⟨rfl, rfl⟩
  · by_cases a2 : 97 ≤ x ∧ x ≤ 102
    · have j1 : (48 : Int) ≤ (x : Int) := by omega
      have j2 : ¬ (x : Int) ≤ 57 := by omega
      have j3 : (97 : Int) ≤ (x : Int) := by omega
      have j4 : (x : Int) ≤ 102 := by omega
      have hw := w1 ((x : Int) - 97) (by omega) (by omega)
      have hw2 : (x : Int) - 97 + 10 = (x : Int) - 87 := by omega
      obtain rfl : r = (x : Int) - 97 + 10 := by rw [hr]; simp [a2]; split <;> omega
      clear hr w1 a1 a2
      go_enter Tryd.func28, Tryd.ntmps28
      go_wp2_with fail
      go_ret
      exact ⟨rfl, rfl⟩
    · by_cases a3 : 65 ≤ x ∧ x ≤ 70
      · have j1 : (48 : Int) ≤ (x : Int) := by omega
        have j2 : ¬ (x : Int) ≤ 57 := by omega
        have j3 : ¬ (97 : Int) ≤ (x : Int) := by omega
        have j4 : (65 : Int) ≤ (x : Int) := by omega
        have j5 : (x : Int) ≤ 70 := by omega
        have hw := w1 ((x : Int) - 65) (by omega) (by omega)
        obtain rfl : r = (x : Int) - 65 + 10 := by rw [hr]; simp [a3]; split <;> (try split) <;> omega
        clear hr w1 a1 a2 a3
        go_enter Tryd.func28, Tryd.ntmps28
        go_wp2_with fail
        go_ret
        exact ⟨rfl, rfl⟩
      · obtain rfl : r = -1 := by rw [hr, if_neg (by simp; omega)]
        have j : (¬ (48 : Int) ≤ (x : Int)) ∨ ((48 : Int) ≤ (x : Int) ∧ ¬ (x : Int) ≤ 57) := by omega
        have j' : (¬ (97 : Int) ≤ (x : Int)) ∨ ((97 : Int) ≤ (x : Int) ∧ ¬ (x : Int) ≤ 102) := by omega
        have j'' : (¬ (65 : Int) ≤ (x : Int)) ∨ ((65 : Int) ≤ (x : Int) ∧ ¬ (x : Int) ≤ 70) := by omega
        clear hr w1 a1 a2 a3
        rcases j with j | ⟨j, j1⟩ <;> rcases j' with j' | ⟨j', j1'⟩ <;> rcases j'' with j'' | ⟨j'', j1''⟩
        all_goals first | (exfalso; omega) | (
          go_enter Tryd.func28, Tryd.ntmps28
          go_wp2_with fail
          go_ret
          exact ⟨rfl, rfl⟩)
end Go.Proofs.YtdpcncpfbaigeaaDoor
