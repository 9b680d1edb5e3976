/- policy.long: is a body long enough, as far as it is told? -/
import Derived.Test.YtgdjlmpfjmakkaaGreatDoorPolicySpec
import Derived.Test.YtgdjlmpfjmakkaaGreatDoorEditSmall
import Derived.Test.YtgdjlmpfjmakkaaGreatDoorBox
import Derived.Test.YtgdjlmpfjmakkaaGreatDoorShelf3
import Derived.Lib.AtoiErrMem
namespace Go.Proofs.YtgdjlmpfjmakkaaGreatDoor
open Go.RowKit
theorem longL_nil {least : Int} {fs : List (List UInt8 × List UInt8)} (h : getL fs nameCL = []) : longL least fs = true := by unfold longL; rw [h]
theorem longL_cons {least : Int} {fs : List (List UInt8 × List UInt8)} {v : List UInt8} {l : List (List UInt8)} (h : getL fs nameCL = v :: l) : longL least fs = longV least v := by unfold longL; rw [h]
theorem digs_small (j : Nat) (b : UInt8) (h : (⟨#[48, 49, 50, 51, 52, 53, 54, 55, 56, 57]⟩ : ByteArray).data.toList[j]? = some b) : b.toNat < 128 := by
  have hb : b ∈ digs := List.mem_of_getElem? h
  simp [digs] at hb; rcases hb with rfl | rfl | rfl | rfl | rfl | rfl | rfl | rfl | rfl | rfl <;> decide

set_option maxRecDepth 100000 in
set_option maxHeartbeats 6400000 in
theorem long_any (A0 A1 : Option Addr) (n0 c0 n1 c1 : Nat) (lv least cp bf tm minor status : Int) (s_ : ByteArray) (A : Option Addr) (n c B : Nat) (fs : List (List UInt8 × List UInt8)) (w : World) (h : Rd w B 2 A n (fcells fs)) (hB : B ≤ w.heap.size) (hn : n ≤ 1000) (hok : fsOk fs) :
    Calls Tryz.prog 48 #[.agg #[.slice A0 n0 c0, .slice A1 n1 c1, .int .i64 lv, .int .i64 least, .int .i64 cp, .int .i64 bf, .int .i64 tm], .agg #[.int .i64 minor, .int .i64 status, .string s_, .slice A n c]] w fun e w' => e = .returned (.bool (longL least fs)) ∧ Below w.heap.size w w' := by
  have q1 := fun (W : World) (b : Below w.heap.size w W) => get_any A n c B fs ⟨#[67, 111, 110, 116, 101, 110, 116, 45, 76, 101, 110, 103, 116, 104]⟩ W (h.below (b.mono hB)) (Nat.le_trans hB b.size) (by omega) hok (by decide)
  have e1 : getL fs (⟨#[67, 111, 110, 116, 101, 110, 116, 45, 76, 101, 110, 103, 116, 104]⟩ : ByteArray).data.toList = getL fs nameCL := getL_congr (by decide) fs
  simp only [e1] at q1
  have hmem := getL_mem hok nameCL
  have hgl := getL_len fs nameCL
  have hfl := h.flen
  obtain ⟨o1, ho1⟩ : ∃ o, o = Obj.cells #[.slice A0 n0 c0, .slice A1 n1 c1, .int .i64 lv, .int .i64 least, .int .i64 cp, .int .i64 bf, .int .i64 tm] 25 := ⟨_, rfl⟩
  obtain ⟨o2, ho2⟩ : ∃ o, o = Obj.cells #[.int .i64 minor, .int .i64 status, .string s_, .slice A n c] 30 := ⟨_, rfl⟩
  have tW : Below w.heap.size w ((w.alloc o1).alloc o2) := ((Below.refl _ _).alloc (Nat.le_refl _) _).alloc (by simp) _
  have bC : Box ((w.alloc o1).alloc o2) w.heap.size [.slice A0 n0 c0, .slice A1 n1 c1, .int .i64 lv, .int .i64 least, .int .i64 cp, .int .i64 bf, .int .i64 tm] := by
    rw [ho1]; exact (Box.new w _ _).below ((Below.refl _ _).alloc (Nat.le_refl _) _)
  have bR : Box ((w.alloc o1).alloc o2) (w.heap.size + 1) [.int .i64 minor, .int .i64 status, .string s_, .slice A n c] := by
    have := Box.new (w.alloc o1) #[.int .i64 minor, .int .i64 status, .string s_, .slice A n c] 30
    rw [ho2]; simpa using this
  obtain ⟨w1, hw1⟩ : ∃ w1, w1 = (w.alloc o1).alloc o2 := ⟨_, rfl⟩
  rw [← hw1] at tW bC bR
  have hW1 : (w.alloc (.cells #[.slice A0 n0 c0, .slice A1 n1 c1, .int .i64 lv, .int .i64 least, .int .i64 cp, .int .i64 bf, .int .i64 tm] 25)).alloc (.cells #[.int .i64 minor, .int .i64 status, .string s_, .slice A n c] 30) = w1 := by rw [hw1, ho1, ho2]
  clear hw1 ho1 ho2 o1 o2
  rcases hG : getL fs nameCL with _ | ⟨v, l⟩
  · rw [longL_nil hG]
    simp only [hG, List.length_nil] at q1
    clear hG hmem e1 h hok hgl hfl
    go_enter Tryz.func48, Tryz.ntmps48
    go_upto_region 1 with (fail)
    try rw [hW1]
    have x3 := (bR.2 3 _ rfl).1
    go_wp2_with fail
    refine (q1 w1 tW).mono ?_
    rintro e w2 ⟨A2, c2, rfl, -, -, k⟩
    have t2 := tW.trans (k.mono tW.size)
    go_wp2_with fail
    go_loopw [13] (fun i wr => i = .int .i64 0 ∧ wr = w2) (fun _ _ => 0)
    case atStart => exact ⟨rfl, rfl⟩
    case round =>
      obtain ⟨rfl, hwr⟩ := hrel
      obtain rfl : w2 = wr := hwr.symm
      go_wp2
      go_ret
      exact ⟨rfl, t2⟩
  · rw [longL_cons hG]
    rw [hG] at hmem hgl
    have hv := hmem v (by simp)
    obtain ⟨m, hm⟩ : ∃ m, m = l.length := ⟨_, rfl⟩
    simp only [hG, List.length_cons, ← hm] at q1
    rw [List.length_cons, ← hm] at hgl
    have hml : m + 1 ≤ 1000 := by omega
    have htr := fun W => Tryz.strings_Trim_ascii ⟨v.toArray⟩ ⟨#[48, 49, 50, 51, 52, 53, 54, 55, 56, 57]⟩ W (by rw [mk_size]; omega) (by decide) digs_small
    rw [digs_list, mk_list] at htr
    have hvz := mk_size v
    have hat : ∀ W, (v.all digB = true) → 1 ≤ v.length → v.length ≤ 15 → Calls Tryz.prog 58 #[.string ⟨v.toArray⟩] W fun e w' => e = .returned (.tuple #[.int .i64 (decV v), .nilIface]) ∧ Below W.heap.size W w' := fun W h0 h1 h2 => by
      refine (Tryz.strconv_Atoi ⟨v.toArray⟩ (decV v) (by rw [mk_size]; omega) (by rw [mk_list]; exact atoi_digits v h0 h1) W).mono ?_
      rintro e w' ⟨rfl, t, rfl⟩
      exact ⟨rfl, Lib.bytesWorld_below _ _ _⟩
    have hdv : v.all digB = true → v.length ≤ 15 → decV v < 1000000000000000 := fun h0 h1 => by have := decV_small v v.length h0 (Nat.le_refl _) h1; rwa [List.take_length] at this
    have hcv : ∀ (W : World) (A1 : Option Addr), Rd W W.heap.size 1 A1 (m + 1) (scells (v :: l)) → ∃ a, A1 = some a ∧ W.cell? a = some (.string ⟨v.toArray⟩) := fun W A1 r => by
      obtain ⟨a, rfl, -, hcell⟩ := r.text (k := 0) (by omega) (by simp)
      rw [Addr.add_zero'] at hcell
      exact ⟨a, rfl, hcell⟩
    obtain ⟨r, hr⟩ : ∃ r, r = longV least v := ⟨_, rfl⟩
    rw [← hr]
    unfold longV at hr
    have hnil := trim_nil v
    obtain ⟨tv, htv⟩ : ∃ t, t = Lib.trimS v digs := ⟨_, rfl⟩
    rw [← htv] at hnil htr
    have hte : (⟨tv.toArray⟩ : ByteArray).toList.isEmpty = decide (tv = []) := by rw [ByteArray.toList_eq, Bool.eq_iff_iff, decide_eq_true_iff]; simp
    obtain ⟨bt, hbt⟩ : ∃ b : ByteArray, b = ⟨tv.toArray⟩ := ⟨_, rfl⟩
    simp only [← hbt] at htr hte
    obtain ⟨bv, hbv⟩ : ∃ b : ByteArray, b = ⟨v.toArray⟩ := ⟨_, rfl⟩
    simp only [← hbv] at htr hat hcv hvz
    have HC := hide hcv
    obtain ⟨dv, hdv'⟩ : ∃ d, d = decV v := ⟨_, rfl⟩
    rw [← hdv'] at hr hdv
    simp only [← hdv'] at hat
    clear hcv hG hmem e1 h hok hbt htv hm hgl hfl hdv'
    by_cases h1 : 1 ≤ v.length
    · by_cases h15 : v.length ≤ 15
      · by_cases hd : v.all digB = true
        · have hat2 := fun W => hat W hd h1 h15
          have hd2 := hdv hd h15
          rw [if_pos ⟨h1, h15, hd⟩] at hr
          rw [decide_eq_true (hnil.2 hd)] at hte
          clear hat hdv hnil hd hbv hv
          have s1 : 1 ≤ bv.size := by omega
          have s2 : bv.size ≤ 15 := by omega
          clear h1 h15 hvz
          have HR := hide hr
          clear hr
          go_enter Tryz.func48, Tryz.ntmps48
          go_upto_region 1 with (fail)
          try rw [hW1]
          have x3 := (bR.2 3 _ rfl).1
          go_wp2_with fail
          refine (q1 w1 tW).mono ?_
          rintro e w2 ⟨A2, c2, rfl, o2, -, k⟩
          have t2 := tW.trans (k.mono tW.size)
          replace bC := bC.below k
          obtain ⟨a, rfl, hcell⟩ := HC.out w2 A2 (Rd.of_own o2)
          clear o2 x3 bR k
          go_wp2_with fail
          go_loopw [13] (fun i wr => i = .int .i64 0 ∧ wr = w2) (fun _ _ => 0)
          case atStart => exact ⟨rfl, rfl⟩
          case round =>
            obtain ⟨rfl, hwr⟩ := hrel
            obtain rfl : w2 = wr := hwr.symm
            go_wp2_with fail
            refine (htr w2).mono ?_
            rintro e w3 ⟨rfl, k3⟩
            have t3 := t2.trans (k3.mono t2.size)
            replace bC := bC.below k3
            go_wp2_with fail
            refine (hat2 w3).mono ?_
            rintro e w4 ⟨rfl, k4⟩
            replace bC := bC.below k4
            have y3 := (bC.2 3 _ rfl).1
            go_wp2
            go_ret
            exact ⟨ret_bool (by rw [HR.out]), t3.trans (k4.mono t3.size)⟩
        · rw [if_neg (fun h => hd h.2.2)] at hr
          subst hr
          have ht0 : ¬ tv = [] := fun h => hd (hnil.1 h)
          rw [decide_eq_false ht0] at hte
          have s1 : 1 ≤ bv.size := by omega
          have s2 : bv.size ≤ 15 := by omega
          clear hat hdv hnil hd ht0 h1 h15 hvz hbv hv
          go_enter Tryz.func48, Tryz.ntmps48
          go_upto_region 1 with (fail)
          try rw [hW1]
          have x3 := (bR.2 3 _ rfl).1
          go_wp2_with fail
          refine (q1 w1 tW).mono ?_
          rintro e w2 ⟨A2, c2, rfl, o2, -, k⟩
          have t2 := tW.trans (k.mono tW.size)
          obtain ⟨a, rfl, hcell⟩ := HC.out w2 A2 (Rd.of_own o2)
          clear o2 x3 bR k bC
          go_wp2_with fail
          go_loopw [13] (fun i wr => i = .int .i64 0 ∧ wr = w2) (fun _ _ => 0)
          case atStart => exact ⟨rfl, rfl⟩
          case round =>
            obtain ⟨rfl, hwr⟩ := hrel
            obtain rfl : w2 = wr := hwr.symm
            go_wp2_with fail
            refine (htr w2).mono ?_
            rintro e w3 ⟨rfl, k3⟩
            have t3 := t2.trans (k3.mono t2.size)
            go_wp2
            go_ret
            exact ⟨rfl, t3⟩
      · rw [if_neg (fun h => h15 h.2.1)] at hr
        subst hr
        have s2 : 15 < bv.size := by omega
        have s1 : 1 ≤ bv.size := by omega
        clear hat hdv hnil h1 h15 hvz hbv hv htr hte
        go_enter Tryz.func48, Tryz.ntmps48
        go_upto_region 1 with (fail)
        try rw [hW1]
        have x3 := (bR.2 3 _ rfl).1
        go_wp2_with fail
        refine (q1 w1 tW).mono ?_
        rintro e w2 ⟨A2, c2, rfl, o2, -, k⟩
        have t2 := tW.trans (k.mono tW.size)
        obtain ⟨a, rfl, hcell⟩ := HC.out w2 A2 (Rd.of_own o2)
        clear o2 x3 bR k bC
        go_wp2_with fail
        go_loopw [13] (fun i wr => i = .int .i64 0 ∧ wr = w2) (fun _ _ => 0)
        case atStart => exact ⟨rfl, rfl⟩
        case round =>
          obtain ⟨rfl, hwr⟩ := hrel
          obtain rfl : w2 = wr := hwr.symm
          go_wp2
          go_ret
          exact ⟨rfl, t2⟩
    · rw [if_neg (fun h => h1 h.1)] at hr
      subst hr
      have s1 : bv.size < 1 := by omega
      clear hat hdv hnil h1 hvz hbv hv htr hte
      go_enter Tryz.func48, Tryz.ntmps48
      go_upto_region 1 with (fail)
      try rw [hW1]
      have x3 := (bR.2 3 _ rfl).1
      go_wp2_with fail
      refine (q1 w1 tW).mono ?_
      rintro e w2 ⟨A2, c2, rfl, o2, -, k⟩
      have t2 := tW.trans (k.mono tW.size)
      obtain ⟨a, rfl, hcell⟩ := HC.out w2 A2 (Rd.of_own o2)
      clear o2 x3 bR k bC
      go_wp2_with fail
      go_loopw [13] (fun i wr => i = .int .i64 0 ∧ wr = w2) (fun _ _ => 0)
      case atStart => exact ⟨rfl, rfl⟩
      case round =>
        obtain ⟨rfl, hwr⟩ := hrel
        obtain rfl : w2 = wr := hwr.symm
        go_wp2
        go_ret
        exact ⟨rfl, t2⟩
end Go.Proofs.YtgdjlmpfjmakkaaGreatDoor
