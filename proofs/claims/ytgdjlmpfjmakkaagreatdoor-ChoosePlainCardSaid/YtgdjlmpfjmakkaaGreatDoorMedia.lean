/- Media of the program and of the reference. -/
import Derived.Test.YtgdjlmpfjmakkaaGreatDoorPolicySpec
import Derived.Test.YtgdjlmpfjmakkaaGreatDoorEditSmall
import Derived.Test.YtgdjlmpfjmakkaaGreatDoorBox
namespace Go.Proofs.YtgdjlmpfjmakkaaGreatDoor
open Go.RowKit
open FrameLengthsP (step_)
theorem mediaL_nil {fs : List (List UInt8 × List UInt8)} (h : getL fs ctL = []) : mediaL fs = [] := by unfold mediaL; rw [h]
theorem mediaL_cons {fs : List (List UInt8 × List UInt8)} {v : List UInt8} {l : List (List UInt8)} (h : getL fs ctL = v :: l) : mediaL fs = mediaOf v := by unfold mediaL; rw [h]
theorem trimL_len (l : List UInt8) : (trimL l).length ≤ l.length := by
  show (List.dropWhile blankB (l.reverse.dropWhile blankB).reverse).length ≤ l.length
  have h1 := (List.dropWhile_sublist (l := (l.reverse.dropWhile blankB).reverse) blankB).length_le
  have h2 := (List.dropWhile_sublist (l := l.reverse) blankB).length_le
  rw [List.length_reverse] at h1 h2
  omega
theorem get_mk {v : List UInt8} {bv : ByteArray} (h : bv = ⟨v.toArray⟩) {k : Nat} (hk : k < v.length) (hk' : k < bv.size) : v[k] = bv[k] := by
  subst h
  have := get_toList _ k hk'
  rw [mk_list, List.getElem?_eq_getElem hk] at this
  exact Option.some.inj this
theorem cut_step : ∀ (v : List UInt8) (k : Nat) (hk : k < v.length), k ≤ (cutHead 59 v).length → (v[k] = 59 → (cutHead 59 v).length = k) ∧ (¬ v[k] = 59 → k + 1 ≤ (cutHead 59 v).length)
  | [], k, hk, _ => by simp at hk
  | c :: l, 0, hk, _ => by
    rw [cutHead_cons]
    by_cases h : (c == 59) = true
    · rw [if_pos h]; exact ⟨fun _ => rfl, fun hn => absurd (by simpa using h) hn⟩
    · rw [if_neg h]; exact ⟨fun he => absurd (by simpa using he) h, fun _ => by simp⟩
  | c :: l, k + 1, hk, hle => by
    rw [cutHead_cons] at hle ⊢
    by_cases h : (c == 59) = true
    · rw [if_pos h] at hle; simp at hle
    · rw [if_neg h] at hle ⊢
      have := cut_step l k (by simpa using hk) (by simpa using hle)
      simpa using this

set_option maxRecDepth 100000 in
set_option maxHeartbeats 3200000 in
theorem media_any (minor status : Int) (s_ : ByteArray) (A : Option Addr) (n c B : Nat) (fs : List (List UInt8 × List UInt8)) (w : World) (h : Rd w B 2 A n (fcells fs)) (hB : B ≤ w.heap.size) (hn : n ≤ 1000) (hok : fsOk fs) :
    Calls Tryz.prog 47 #[.agg #[.int .i64 minor, .int .i64 status, .string s_, .slice A n c]] w fun e w' => e = .returned (.string ⟨(mediaL fs).toArray⟩) ∧ Below w.heap.size w w' := by
  have q1 := fun (W : World) (b : Below w.heap.size w W) => get_any A n c B fs ⟨#[67, 111, 110, 116, 101, 110, 116, 45, 84, 121, 112, 101]⟩ W (h.below (b.mono hB)) (Nat.le_trans hB b.size) (by omega) hok (by decide)
  have e1 : getL fs (⟨#[67, 111, 110, 116, 101, 110, 116, 45, 84, 121, 112, 101]⟩ : ByteArray).data.toList = getL fs ctL := getL_congr (by decide) fs
  simp only [e1] at q1
  have tW : Below w.heap.size w (w.alloc (.cells #[.int .i64 minor, .int .i64 status, .string s_, .slice A n c] 30)) := (Below.refl _ _).alloc (Nat.le_refl _) _
  have b1 := Box.new w #[.int .i64 minor, .int .i64 status, .string s_, .slice A n c] 30
  have hmem := getL_mem hok ctL
  rcases hG : getL fs ctL with _ | ⟨v, l⟩
  · rw [mediaL_nil hG]
    simp only [hG, List.length_nil] at q1
    clear hG hmem e1 h hok
    go_enter Tryz.func47, Tryz.ntmps47
    go_upto_region 1 with (fail)
    generalize w.alloc _ = w1 at b1 tW ⊢
    obtain ⟨x0, x1, x2, x3⟩ := b1.four
    go_wp2_with fail
    refine (q1 w1 tW).mono ?_
    rintro e w2 ⟨A1, c1, rfl, -, -, k⟩
    have t2 := tW.trans (k.mono tW.size)
    go_wp2_with fail
    go_loopw [12] (fun i wr => i = .int .i64 0 ∧ wr = w2) (fun _ _ => 0)
    case atStart => exact ⟨rfl, rfl⟩
    case round =>
      obtain ⟨rfl, hwr⟩ := hrel
      obtain rfl : w2 = wr := hwr.symm
      go_wp2
      go_ret
      exact ⟨rfl, t2⟩
  · rw [mediaL_cons hG]
    rw [hG] at hmem
    have hv := hmem v (by simp)
    obtain ⟨m, hm⟩ : ∃ m, m = l.length := ⟨_, rfl⟩
    simp only [hG, List.length_cons, ← hm] at q1
    have hml : m + 1 ≤ 1000 := by have := getL_len fs ctL; have := h.flen; rw [hG, List.length_cons] at *; omega
    have hh := cutHead_le 59 v
    have ht := trimL_len (cutHead 59 v)
    have c1 := fun W => strcut_any ⟨v.toArray⟩ 59 W (by rw [mk_size]; omega)
    have c2 := fun W => trim_any ⟨(cutHead 59 v).toArray⟩ W (by rw [mk_size]; omega)
    have c3 := fun W => lower_any ⟨(trimL (cutHead 59 v)).toArray⟩ W (by rw [mk_size]; omega)
    dsimp only at c1 c2 c3
    change ∀ W, Calls Tryz.prog _ _ W (fun e w' => e = .returned (.string ⟨(mediaOf v).toArray⟩) ∧ Below W.heap.size W w') at c3
    obtain ⟨bv, hbv⟩ : ∃ b : ByteArray, b = ⟨v.toArray⟩ := ⟨_, rfl⟩
    obtain ⟨bh, hbh⟩ : ∃ b : ByteArray, b = ⟨(cutHead 59 v).toArray⟩ := ⟨_, rfl⟩
    obtain ⟨bt, hbt⟩ : ∃ b : ByteArray, b = ⟨(trimL (cutHead 59 v)).toArray⟩ := ⟨_, rfl⟩
    obtain ⟨bm, hbm⟩ : ∃ b : ByteArray, b = ⟨(mediaOf v).toArray⟩ := ⟨_, rfl⟩
    obtain ⟨bu, hbu⟩ : ∃ b : ByteArray, b = ⟨(cutTail 59 v).toArray⟩ := ⟨_, rfl⟩
    obtain ⟨hs, hhs⟩ : ∃ b, b = cutHas 59 v := ⟨_, rfl⟩
    simp only [← hbv, ← hbh, ← hbu, ← hhs] at c1
    simp only [← hbh, ← hbt] at c2
    simp only [← hbt, ← hbm] at c3
    rw [← hbm]
    have hcv : ∀ (W : World) (A1 : Option Addr), Rd W W.heap.size 1 A1 (m + 1) (scells (v :: l)) → ∃ a, A1 = some a ∧ W.cell? a = some (.string bv) := fun W A1 r => by
      obtain ⟨a, rfl, -, hcell⟩ := r.text (k := 0) (by omega) (by simp)
      rw [Addr.add_zero'] at hcell
      exact ⟨a, rfl, by rw [hbv]; exact hcell⟩
    have HC := hide hcv
    clear hG hmem e1 h hok hbv hbh hbt hbm hbu hhs hh ht hv hcv hm
    go_enter Tryz.func47, Tryz.ntmps47
    go_upto_region 1 with (fail)
    generalize w.alloc _ = w1 at b1 tW ⊢
    obtain ⟨x0, x1, x2, x3⟩ := b1.four
    go_wp2_with fail
    refine (q1 w1 tW).mono ?_
    rintro e w2 ⟨A1, c1', rfl, o1, -, k⟩
    have t2 := tW.trans (k.mono tW.size)
    obtain ⟨a, rfl, hcell⟩ := HC.out w2 A1 (Rd.of_own o1)
    clear o1 x0 x1 x2 x3 b1 k
    go_wp2_with fail
    go_loopw [12] (fun i wr => i = .int .i64 0 ∧ wr = w2) (fun _ _ => 0)
    case atStart => exact ⟨rfl, rfl⟩
    case round =>
      obtain ⟨rfl, hwr⟩ := hrel
      obtain rfl : w2 = wr := hwr.symm
      go_wp2_with fail
      refine (c1 w2).mono ?_
      rintro e w3 ⟨rfl, k3⟩
      have t3 := t2.trans (k3.mono t2.size)
      go_wp2_with fail
      refine (c2 w3).mono ?_
      rintro e w4 ⟨rfl, k4⟩
      have t4 := t3.trans (k4.mono t3.size)
      go_wp2_with fail
      refine (c3 w4).mono ?_
      rintro e w5 ⟨rfl, k5⟩
      go_wp2
      go_ret
      exact ⟨rfl, t4.trans (k5.mono t4.size)⟩

set_option maxRecDepth 100000 in
set_option maxHeartbeats 3200000 in
theorem refmedia_any (minor status : Int) (s_ : ByteArray) (A : Option Addr) (n c B : Nat) (fs : List (List UInt8 × List UInt8)) (w : World) (h : Rd w B 2 A n (fcells fs)) (hB : B ≤ w.heap.size) (hn : n ≤ 1000) (hok : fsOk fs) :
    Calls Tryz.prog 28 #[.agg #[.int .i64 minor, .int .i64 status, .string s_, .slice A n c]] w fun e w' => e = .returned (.string ⟨(mediaL fs).toArray⟩) ∧ Below w.heap.size w w' := by
  have q1 := fun (W : World) (b : Below w.heap.size w W) => refget_any A n c B fs ⟨#[99, 111, 110, 116, 101, 110, 116, 45, 116, 121, 112, 101]⟩ W (h.below (b.mono hB)) (Nat.le_trans hB b.size) (by omega) hok (by decide)
  have e1 : getL fs (⟨#[99, 111, 110, 116, 101, 110, 116, 45, 116, 121, 112, 101]⟩ : ByteArray).data.toList = getL fs ctL := getL_congr (by decide) fs
  simp only [e1] at q1
  have tW : Below w.heap.size w (w.alloc (.cells #[.int .i64 minor, .int .i64 status, .string s_, .slice A n c] 30)) := (Below.refl _ _).alloc (Nat.le_refl _) _
  have b1 := Box.new w #[.int .i64 minor, .int .i64 status, .string s_, .slice A n c] 30
  have hmem := getL_mem hok ctL
  rcases hG : getL fs ctL with _ | ⟨v, l⟩
  · rw [mediaL_nil hG]
    simp only [hG, List.length_nil] at q1
    clear hG hmem e1 h hok
    go_enter Tryz.func28, Tryz.ntmps28
    go_upto_region 1 with (fail)
    generalize w.alloc _ = w1 at b1 tW ⊢
    obtain ⟨x0, x1, x2, x3⟩ := b1.four
    go_wp2_with fail
    refine (q1 w1 tW).mono ?_
    rintro e w2 ⟨A1, c1, rfl, -, -, k⟩
    have t2 := tW.trans (k.mono tW.size)
    go_wp2
    go_ret
    exact ⟨rfl, t2⟩
  · rw [mediaL_cons hG]
    rw [hG] at hmem
    have hv := hmem v (by simp)
    obtain ⟨m, hm⟩ : ∃ m, m = l.length := ⟨_, rfl⟩
    simp only [hG, List.length_cons, ← hm] at q1
    have hml : m + 1 ≤ 1000 := by have := getL_len fs ctL; have := h.flen; rw [hG, List.length_cons] at *; omega
    have hh := cutHead_le 59 v
    have ht := trimL_len (cutHead 59 v)
    have c2 := fun W => reftrim_any ⟨(cutHead 59 v).toArray⟩ W (by rw [mk_size]; omega)
    have c3 := fun W => reflower_any ⟨(trimL (cutHead 59 v)).toArray⟩ W (by rw [mk_size]; omega)
    dsimp only at c2 c3
    change ∀ W, Calls Tryz.prog _ _ W (fun e w' => e = .returned (.string ⟨(mediaOf v).toArray⟩) ∧ Below W.heap.size W w') at c3
    obtain ⟨bv, hbv⟩ : ∃ b : ByteArray, b = ⟨v.toArray⟩ := ⟨_, rfl⟩
    obtain ⟨bh, hbh⟩ : ∃ b : ByteArray, b = ⟨(cutHead 59 v).toArray⟩ := ⟨_, rfl⟩
    obtain ⟨bt, hbt⟩ : ∃ b : ByteArray, b = ⟨(trimL (cutHead 59 v)).toArray⟩ := ⟨_, rfl⟩
    obtain ⟨bm, hbm⟩ : ∃ b : ByteArray, b = ⟨(mediaOf v).toArray⟩ := ⟨_, rfl⟩
    simp only [← hbh, ← hbt] at c2
    simp only [← hbt, ← hbm] at c3
    rw [← hbm]
    have hcv : ∀ (W : World) (A1 : Option Addr), Rd W W.heap.size 1 A1 (m + 1) (scells (v :: l)) → ∃ a, A1 = some a ∧ W.cell? a = some (.string bv) := fun W A1 r => by
      obtain ⟨a, rfl, -, hcell⟩ := r.text (k := 0) (by omega) (by simp)
      rw [Addr.add_zero'] at hcell
      exact ⟨a, rfl, by rw [hbv]; exact hcell⟩
    have HC := hide hcv
    have hstep := cut_step v
    have hvb : ∀ k (hk : k < v.length) (hk' : k < bv.size), v[k] = bv[k] := fun k hk hk' => get_mk hbv hk hk'
    have hvz : v.length = bv.size := by rw [hbv, mk_size]
    have hex : bv.extract 0 (cutHead 59 v).length = bh := bytes_ext (by rw [extract_list, hbv, hbh, mk_list, mk_list, List.drop_zero, cutHead_take])
    obtain ⟨cl, hcl⟩ : ∃ l, l = (cutHead 59 v).length := ⟨_, rfl⟩
    rw [← hcl] at hex hh
    simp only [← hcl] at hstep
    have HST := hide hstep
    have HVB := hide hvb
    have HVZ := hide hvz
    have HEX := hide hex
    have hbz : bv.size ≤ 1000000 := by omega
    have hclz : cl ≤ bv.size := by omega
    clear hG hmem e1 h hok hbv hbh hbt hbm hh ht hv hcv hm hstep hvb hvz hex hcl
    go_enter Tryz.func28, Tryz.ntmps28
    go_upto_region 1 with (fail)
    generalize w.alloc _ = w1 at b1 tW ⊢
    obtain ⟨x0, x1, x2, x3⟩ := b1.four
    go_wp2_with fail
    refine (q1 w1 tW).mono ?_
    rintro e w2 ⟨A1, c1', rfl, o1, -, k⟩
    have t2 := tW.trans (k.mono tW.size)
    obtain ⟨a, rfl, hcell⟩ := HC.out w2 A1 (Rd.of_own o1)
    clear o1 x0 x1 x2 x3 b1 k
    go_wp2_with fail
    go_loopw [4] (fun i wr => ∃ k : Nat, i = .int .i64 k ∧ k ≤ cl ∧ wr = w2) (fun i _ => cl + 1 - (intOf i).toNat)
    case atStart => exact ⟨0, rfl, Nat.zero_le _, rfl⟩
    case round =>
      obtain ⟨k, rfl, hk, hwr⟩ := hrel
      obtain rfl : w2 = wr := hwr.symm
      by_cases hlt : k < bv.size
      · have hst := HST.out k (by have := HVZ.out; omega) hk
        rw [HVB.out k (by have := HVZ.out; omega) hlt] at hst
        obtain ⟨b, hb⟩ : ∃ b, bv[k] = b := ⟨_, rfl⟩
        rw [hb] at hst
        have hb256 := b.toNat_lt
        by_cases h59 : b = 59
        · have hcl := hst.1 h59
          have hex := HEX.out
          rw [hcl] at hex
          subst h59
          have e59 : ((59 : UInt8).toNat : Int) = 59 := rfl
          clear hst hcl hk
          go_wp2_with fail
          refine (c2 w2).mono ?_
          rintro e w4 ⟨rfl, rfl⟩
          go_wp2_with fail
          refine (c3 w2).mono ?_
          rintro e w5 ⟨rfl, k5⟩
          go_wp2
          go_ret
          exact ⟨rfl, t2.trans (k5.mono t2.size)⟩
        · have hk1 := hst.2 h59
          have hb59 : ¬ (b.toNat : Int) = 59 := fun e => h59 (UInt8.toNat_inj.1 (by show b.toNat = 59; omega))
          have HK1 := hide hk1
          clear hst h59 hk1
          go_wp2
          go_roundw
          case rel => exact ⟨k + 1, by go_num, HK1.out, trivial⟩
          case measure => have := HK1.out; simp [intOf]; omega
      · have hcl : cl = k := by omega
        have hkb : k ≤ bv.size := by omega
        have hex := HEX.out
        rw [hcl] at hex
        clear hcl hk
        go_wp2_with fail
        refine (c2 w2).mono ?_
        rintro e w4 ⟨rfl, rfl⟩
        go_wp2_with fail
        refine (c3 w2).mono ?_
        rintro e w5 ⟨rfl, k5⟩
        go_wp2
        go_ret
        exact ⟨rfl, t2.trans (k5.mono t2.size)⟩
end Go.Proofs.YtgdjlmpfjmakkaaGreatDoor
