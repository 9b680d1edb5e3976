/- FrameLengths returns true, whatever its arguments. -/
import Derived.Test.YtmijkefdnfmpiaaDoorAns19
import Derived.Test.YtmijkefdnfmpiaaDoorUdec
import Derived.Deep.DeepCutAuto
import Derived.Deep.CutBlock
namespace Go.Proofs.YtmijkefdnfmpiaaDoor.FrameLengthsP
open Go.RowKit

theorem dig_val (n : Nat) (h : n < 10) : (48 + UInt8.ofNat n).toNat = 48 + n := by
  have : ∀ n, n < 10 → (48 + UInt8.ofNat n).toNat = 48 + n := by decide
  exact this n h
theorem udig_ok (n : Nat) : decV (udig n) = n ∧ (udig n).all digB = true ∧ 1 ≤ (udig n).length := by
  induction n using udig.induct with
  | case1 n h =>
    have hm : n % 10 = n := Nat.mod_eq_of_lt h
    have hv := dig_val n h
    rw [udig, dif_pos h, hm]
    refine ⟨?_, ?_, by simp⟩
    · show 10 * 0 + ((48 + UInt8.ofNat n).toNat - 48) = n
      omega
    · have : digB (48 + UInt8.ofNat n) = true := (digB_iff _).2 (by omega)
      simp [this]
  | case2 n h ih =>
    have hv := dig_val (n % 10) (by omega)
    rw [udig, dif_neg h]
    obtain ⟨i1, i2, i3⟩ := ih
    refine ⟨?_, ?_, by simp⟩
    · rw [decV_snoc, i1]; omega
    · have : digB (48 + UInt8.ofNat (n % 10)) = true := (digB_iff _).2 (by omega)
      rw [List.all_append, i2]; simp [this]
theorem udig_len (d : Nat) : ∀ n, n < 10 ^ (d + 1) → (udig n).length ≤ d + 1 := by
  induction d with
  | zero => intro n h; rw [udig, dif_pos (by simpa using h)]; simp
  | succ d ih =>
    intro n h
    by_cases h10 : n < 10
    · rw [udig, dif_pos h10]; simp
    · have := ih (n / 10) (by rw [Nat.pow_succ] at h; omega)
      rw [udig, dif_neg h10, List.length_append, List.length_singleton]; omega
theorem udig_small (k : Nat) (h : k < 2199023255552) : (udig k).length ≤ 14 := udig_len 13 k (by omega)
def zeros (z k : Nat) : List UInt8 := List.replicate z 48 ++ udig k
theorem zeros_ok (z k : Nat) : decV (zeros z k) = k ∧ (zeros z k).all digB = true ∧ 1 ≤ (zeros z k).length := by
  obtain ⟨i1, i2, i3⟩ := udig_ok k
  induction z with
  | zero => exact ⟨i1, i2, i3⟩
  | succ z ih =>
    obtain ⟨j1, j2, j3⟩ := ih
    have e : zeros (z + 1) k = 48 :: zeros z k := by unfold zeros; rw [List.replicate_succ]; rfl
    rw [e]
    refine ⟨j1, ?_, by simp⟩
    have : digB 48 = true := by decide
    rw [List.all_cons, this, j2]; rfl
theorem num_zeros (z k : Nat) : numL (zeros z k) = if (zeros z k).length ≤ 15 then (k, decide (k ≤ 1099511627776)) else (0, false) := by
  obtain ⟨j1, j2, j3⟩ := zeros_ok z k
  unfold numL
  by_cases h : (zeros z k).length ≤ 15
  · rw [if_pos ⟨j3, h, j2⟩, if_pos h, j1]
  · rw [if_neg (fun x => h x.2.1), if_neg h]
theorem step_ {w w' : World} {s n : Nat} {A : Option Addr} {xs : List Value} (h : Rd w w.heap.size s A n xs) (hb : Below w.heap.size w w') : Rd w' w'.heap.size s A n xs := (h.below hb).mono hb.size
theorem rd_put (w : World) (cs : Array Value) (e : TypeId) (size n : Nat) (hl : cs.size = n * size) : Rd (w.alloc (.cells cs e)) (w.alloc (.cells cs e)).heap.size size (some ⟨w.heap.size, 0, none⟩) n cs.toList := (rd_new w cs e size n hl).mono (by simp)
theorem rd_two {w : World} {B g : Nat} {u v : Value} (h : Rd w B 2 (some ⟨g, 0, none⟩) 1 [u, v]) : w.cell? ⟨g, 0, none⟩ = some u ∧ w.cell? ⟨g, 1, none⟩ = some v := by
  obtain ⟨a, ha, _, hc⟩ := h.at_ (k := 0) (by omega)
  cases ha
  exact ⟨by have := hc 0 u rfl; rwa [Addr.add_lit] at this, by have := hc 1 v rfl; rwa [Addr.add_lit] at this⟩
def capCL : List UInt8 := [67, 111, 110, 116, 101, 110, 116, 45, 76, 101, 110, 103, 116, 104]
theorem cap_1 : sameL capCL nameTE = false := by decide
theorem cap_2 : sameL capCL nameCL = true := by decide
theorem res_zeros (z k : Nat) (m : Int) (o : Nat) : frOf [(capCL, zeros z k)] m o = if (zeros z k).length ≤ 15 ∧ k ≤ 1099511627776 then (1, k, 0) else (0, 0, 2) := by
  rw [frOf_one _ _ _ _ cap_1 cap_2, num_zeros]
  by_cases h : (zeros z k).length ≤ 15
  · by_cases h2 : k ≤ 1099511627776
    · simp [h, h2]
    · simp [h, h2]
  · simp [h]

set_option maxRecDepth 100000 in
set_option maxHeartbeats 6400000 in
theorem walk (s : ByteArray) (un uz : Int) (w : World) (hs : s.size ≤ 9223372036854775807) (hwn : (Lit.int .u64 un).wf = true) (hwz : (Lit.int .u8 uz).wf = true) :
    Calls Tryd.prog 5 #[.string s, .int .u64 un, .int .u8 uz] w fun e w' => e = .returned (.bool true) ∧ Below w.heap.size w w' := by
  have hb01 : 0 ≤ uz ∧ uz < 256 := by simp [Lit.wf, IntKind.min, IntKind.max, IntKind.signed, IntKind.bits] at hwz; omega
  have hn01 : 0 ≤ un ∧ un < 18446744073709551616 := by simp [Lit.wf, IntKind.min, IntKind.max, IntKind.signed, IntKind.bits] at hwn; omega
  obtain ⟨hb0, hb1⟩ := hb01
  obtain ⟨hn0, hn1⟩ := hn01
  clear hwn hwz
  by_cases hbig : s.size ≤ 100
  · obtain ⟨k, hk, hk1⟩ : ∃ k : Nat, Int.tmod un 2199023255552 = k ∧ k < 2199023255552 := ⟨(Int.tmod un 2199023255552).toNat, by rw [Int.tmod_eq_emod_of_nonneg hn0]; omega, by rw [Int.tmod_eq_emod_of_nonneg hn0]; omega⟩
    obtain ⟨z, hz, hz1⟩ : ∃ z : Nat, Int.tmod uz 6 = z ∧ z < 6 := ⟨(Int.tmod uz 6).toNat, by rw [Int.tmod_eq_emod_of_nonneg hb0]; omega, by rw [Int.tmod_eq_emod_of_nonneg hb0]; omega⟩
    have hdec := dec_any k (by omega) w
    have q := fun (m : Int) (v : ByteArray) (hv : v.size ≤ 1000000) (W : World) => ofreq_any ⟨#[]⟩ ⟨#[]⟩ m (some ⟨W.heap.size, 0, none⟩) 1 1 (W.heap.size + 1) [(capCL, v.data.toList)] (W.alloc (.cells #[.string ⟨#[67, 111, 110, 116, 101, 110, 116, 45, 76, 101, 110, 103, 116, 104]⟩, .string v] 37))
      (rd_new W #[.string ⟨#[67, 111, 110, 116, 101, 110, 116, 45, 76, 101, 110, 103, 116, 104]⟩, .string v] 37 2 1 rfl) (by simp) (by omega) (by intro f hf; simp at hf; subst hf; exact ⟨(by decide : capCL.length ≤ 1000000), by rw [← size_of]; exact hv⟩)
    have q' := fun (m : Int) (v : ByteArray) (hv : v.size ≤ 1000000) (W : World) => refreq_any ⟨#[]⟩ ⟨#[]⟩ m (some ⟨W.heap.size, 0, none⟩) 1 1 (W.heap.size + 1) [(capCL, v.data.toList)] (W.alloc (.cells #[.string ⟨#[67, 111, 110, 116, 101, 110, 116, 45, 76, 101, 110, 103, 116, 104]⟩, .string v] 37))
      (rd_new W #[.string ⟨#[67, 111, 110, 116, 101, 110, 116, 45, 76, 101, 110, 103, 116, 104]⟩, .string v] 37 2 1 rfl) (by simp) (by omega) (by intro f hf; simp at hf; subst hf; exact ⟨(by decide : capCL.length ≤ 1000000), by rw [← size_of]; exact hv⟩)
    have g1 := q 0 s (by omega)
    have g2 := q' 0 s (by omega)
    clear q'
    obtain ⟨⟨x, y, e0⟩, hxy⟩ : ∃ r, r = frOf [(capCL, s.data.toList)] 0 0 := ⟨_, rfl⟩
    rw [← hxy] at g1 g2
    simp only [frV] at g1 g2
    clear hxy
    go_enter Tryd.func5, Tryd.ntmps5
    go_wp2_with fail
    refine hdec.mono ?_
    rintro e w1 ⟨rfl, b1⟩
    clear hdec
    go_wp2_with fail
    go_loopw [8, 9] (fun t i wr => ∃ j : Nat, j ≤ z ∧ i = .int .i64 j ∧ t = .string ⟨(zeros j k).toArray⟩ ∧ wr = w1) (fun _ i _ => z - (intOf i).toNat)
    case atStart => exact ⟨0, Nat.zero_le _, rfl, rfl, rfl⟩
    case round =>
      obtain ⟨j, hj, rfl, rfl, hwr⟩ := hrel
      subst hwr
      have hzl : (zeros j k).length ≤ 1000000000000 := by have := udig_length k; unfold zeros; rw [List.length_append, List.length_replicate]; omega
      have hts := mk_size (zeros j k)
      by_cases hlt : j < z
      · have hsucc : (⟨#[48]⟩ : ByteArray) ++ ⟨(zeros j k).toArray⟩ = ⟨(zeros (j + 1) k).toArray⟩ := bytes_ext (by simp [zeros, List.replicate_succ])
        obtain ⟨tb, htb⟩ : ∃ tb : ByteArray, tb = ⟨(zeros j k).toArray⟩ := ⟨_, rfl⟩
        rw [← htb] at hts hsucc ⊢
        have HS := hide hsucc
        have hl : 1 + tb.size ≤ 9223372036854775807 := by omega
        clear htb hsucc hts
        go_wp2
        go_roundw
        case rel => exact ⟨j + 1, by omega, by go_num, by rw [← HS.out], by trivial⟩
        case measure => simp [intOf]; omega
      · obtain rfl : j = z := by omega
        have hres := res_zeros j k 1 0
        have g0 := q 1 ⟨(zeros j k).toArray⟩ (by rw [mk_size]; have h2 : (udig k).length ≤ 14 := udig_small k hk1; unfold zeros; rw [List.length_append, List.length_replicate]; omega)
        rw [mk_list, hres] at g0
        obtain ⟨tb, htb⟩ : ∃ tb : ByteArray, tb = ⟨(zeros j k).toArray⟩ := ⟨_, rfl⟩
        rw [← htb] at hts g0 ⊢
        rw [← hts] at g0
        clear htb hres q
        obtain ⟨⟨X, Y, E⟩, hR⟩ : ∃ r : Nat × Nat × Nat, r = if tb.size ≤ 15 ∧ k ≤ 1099511627776 then (1, k, 0) else (0, 0, 2) := ⟨_, rfl⟩
        rw [← hR] at g0
        simp only [frV] at g0
        have HR := hide hR
        clear hR
        go_wp2_with fail
        go_upto_region 10 with (refine (g0 _).mono ?_; rintro e w2 ⟨rfl, b2⟩)
        have t2 := (b1.alloc b1.size _).trans (b2.mono (by have := b1.size; simp; omega))
        have t3 : Below w.heap.size w (w2.alloc (.cells #[.int .i64 X, .int .i64 Y] 32)) := t2.alloc t2.size _
        have r3 := rd_put w2 #[.int .i64 X, .int .i64 Y] 32 2 1 rfl
        obtain ⟨ga, hga⟩ : ∃ g, g = w2.heap.size := ⟨_, rfl⟩
        rw [← hga] at r3
        simp only [← hga]
        generalize hw3 : w2.alloc (.cells #[.int .i64 X, .int .i64 Y] 32) = w3 at r3 t3 ⊢
        clear hw3 hga b2 t2 g0 b1
        go_upto_region 11 with (refine (g1 w3).mono ?_; rintro e w4 ⟨rfl, b4⟩)
        have b4' := ((Below.refl _ w3).alloc (Nat.le_refl _) _).trans (b4.mono (by simp))
        have r4 := step_ r3 (b4'.alloc b4'.size (.cells #[.int .i64 x, .int .i64 y] 32))
        have t5 := t3.trans ((b4'.alloc b4'.size (.cells #[.int .i64 x, .int .i64 y] 32)).mono t3.size)
        have s5 := rd_put w4 #[.int .i64 x, .int .i64 y] 32 2 1 rfl
        obtain ⟨gb, hgb⟩ : ∃ g, g = w4.heap.size := ⟨_, rfl⟩
        rw [← hgb] at s5
        simp only [← hgb]
        generalize hw5 : w4.alloc (.cells #[.int .i64 x, .int .i64 y] 32) = w5 at r4 t5 s5 ⊢
        clear hw5 hgb b4 b4' r3 t3 g1
        go_upto_region 12 with (refine (g2 w5).mono ?_; rintro e w6 ⟨rfl, b6⟩)
        have b6' := ((Below.refl _ w5).alloc (Nat.le_refl _) _).trans (b6.mono (by simp))
        have r7 := step_ r4 (b6'.alloc b6'.size (.cells #[.int .i64 x, .int .i64 y] 32))
        have s7 := step_ s5 (b6'.alloc b6'.size (.cells #[.int .i64 x, .int .i64 y] 32))
        have t7 := t5.trans ((b6'.alloc b6'.size (.cells #[.int .i64 x, .int .i64 y] 32)).mono t5.size)
        have u7 := rd_put w6 #[.int .i64 x, .int .i64 y] 32 2 1 rfl
        obtain ⟨gc, hgc⟩ : ∃ g, g = w6.heap.size := ⟨_, rfl⟩
        rw [← hgc] at u7
        simp only [← hgc]
        generalize hw7 : w6.alloc (.cells #[.int .i64 x, .int .i64 y] 32) = w7 at r7 s7 t7 u7 ⊢
        clear hw7 hgc b6 b6' r4 s5 t5 g2
        go_wp2_with fail
        refine (ans19_any w7).mono ?_
        rintro e w8 ⟨rfl, b8⟩
        obtain ⟨a0, a1⟩ := rd_two (step_ r7 b8)
        obtain ⟨c0, c1⟩ := rd_two (step_ s7 b8)
        obtain ⟨d0, d1⟩ := rd_two (step_ u7 b8)
        have t8 := t7.trans (b8.mono t7.size)
        clear r7 s7 u7 b8 t7
        by_cases hA : tb.size ≤ 15
        · by_cases hB : k ≤ 1099511627776
          · have hR := HR.out
            rw [if_pos ⟨hA, hB⟩] at hR
            cases hR
            clear HR
            go_wp2
            go_ret
            exact ⟨rfl, t8⟩
          · have hR := HR.out
            rw [if_neg (fun h => hB h.2)] at hR
            cases hR
            clear HR
            go_wp2
            go_ret
            exact ⟨rfl, t8⟩
        · have hR := HR.out
          rw [if_neg (fun h => hA h.1)] at hR
          cases hR
          clear HR
          go_wp2
          go_ret
          exact ⟨rfl, t8⟩
  · go_enter Tryd.func5, Tryd.ntmps5
    go_wp2_with (refine (ans19_any _).mono ?_; rintro e w' ⟨rfl, hB⟩)
    go_ret
    exact ⟨rfl, hB⟩
end Go.Proofs.YtmijkefdnfmpiaaDoor.FrameLengthsP
