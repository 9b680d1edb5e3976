/- Kept and Media of the program and of the reference. -/
import Derived.Test.YtgdjlmpfjmakkaaGreatDoorPolicySpec
import Derived.Test.YtgdjlmpfjmakkaaGreatDoorEditSmall
import Derived.Test.YtgdjlmpfjmakkaaGreatDoorBox
namespace Go.Proofs.YtgdjlmpfjmakkaaGreatDoor
open Go.RowKit
open FrameLengthsP (step_)

set_option maxRecDepth 100000 in
set_option maxHeartbeats 3200000 in
theorem pkept_any (minor status : Int) (s_ : ByteArray) (A : Option Addr) (n c B : Nat) (fs : List (List UInt8 × List UInt8)) (w : World) (h : Rd w B 2 A n (fcells fs)) (hB : B ≤ w.heap.size) (hn : n ≤ 1000) (hok : fsOk fs) :
    Calls Tryz.prog 18 #[.agg #[.int .i64 minor, .int .i64 status, .string s_, .slice A n c]] w fun e w' => e = .returned (.bool (keptL status fs)) ∧ Below w.heap.size w w' := by
  have q1 := fun (W : World) (b : Below w.heap.size w W) => get_any A n c B fs ⟨#[67, 111, 110, 116, 101, 110, 116, 45, 82, 97, 110, 103, 101]⟩ W (h.below (b.mono hB)) (Nat.le_trans hB b.size) (by omega) hok (by decide)
  have q2 := fun (W : World) (b : Below w.heap.size w W) => has_any A n c B fs ⟨#[67, 97, 99, 104, 101, 45, 67, 111, 110, 116, 114, 111, 108]⟩ ⟨#[110, 111, 45, 116, 114, 97, 110, 115, 102, 111, 114, 109]⟩ W (h.below (b.mono hB)) (Nat.le_trans hB b.size) (by omega) hok (by decide) (by decide)
  have e1 : getL fs (⟨#[67, 111, 110, 116, 101, 110, 116, 45, 82, 97, 110, 103, 101]⟩ : ByteArray).data.toList = getL fs crL := getL_congr (by decide) fs
  have e2 : hasL fs (⟨#[67, 97, 99, 104, 101, 45, 67, 111, 110, 116, 114, 111, 108]⟩ : ByteArray).data.toList (⟨#[110, 111, 45, 116, 114, 97, 110, 115, 102, 111, 114, 109]⟩ : ByteArray).data.toList = hasL fs ccL ntL := hasL_same (by decide) (by decide) fs
  simp only [e1] at q1
  simp only [e2] at q2
  have tW : Below w.heap.size w (w.alloc (.cells #[.int .i64 minor, .int .i64 status, .string s_, .slice A n c] 30)) := (Below.refl _ _).alloc (Nat.le_refl _) _
  have b1 := Box.new w #[.int .i64 minor, .int .i64 status, .string s_, .slice A n c] 30
  obtain ⟨r, hr⟩ : ∃ r, r = keptL status fs := ⟨_, rfl⟩
  rw [← hr]
  unfold keptL at hr
  obtain ⟨G, hG⟩ : ∃ G, G = (getL fs crL).length := ⟨_, rfl⟩
  obtain ⟨H, hH⟩ : ∃ H, H = hasL fs ccL ntL := ⟨_, rfl⟩
  simp only [← hG] at q1 hr
  simp only [← hH] at q2 hr
  have hgl : G ≤ n := by rw [hG]; have := getL_len fs crL; have := h.flen; omega
  clear hG hH e1 e2 h hok
  by_cases hs : status = 206
  · rw [decide_eq_true hs, Bool.true_or] at hr
    subst hs hr
    go_enter Tryz.func18, Tryz.ntmps18
    go_upto_region 1 with (fail)
    generalize w.alloc _ = w1 at b1 tW ⊢
    obtain ⟨x0, x1, x2, x3⟩ := b1.four
    go_wp2
    go_ret
    exact ⟨rfl, tW⟩
  · rw [decide_eq_false hs, Bool.false_or] at hr
    have es : (status == 206) = false := by simpa using hs
    clear hs
    by_cases hg : 0 < G
    · rw [decide_eq_true hg, Bool.true_or] at hr
      subst hr
      go_enter Tryz.func18, Tryz.ntmps18
      go_upto_region 1 with (fail)
      generalize w.alloc _ = w1 at b1 tW ⊢
      obtain ⟨x0, x1, x2, x3⟩ := b1.four
      go_wp2_with fail
      refine (q1 w1 tW).mono ?_
      rintro e w2 ⟨A1, c1, rfl, -, -, k⟩
      go_wp2
      go_ret
      exact ⟨rfl, tW.trans (k.mono tW.size)⟩
    · rw [decide_eq_false hg, Bool.false_or] at hr
      subst hr
      obtain rfl : G = 0 := by omega
      clear hg hgl
      go_enter Tryz.func18, Tryz.ntmps18
      go_upto_region 1 with (fail)
      generalize w.alloc _ = w1 at b1 tW ⊢
      obtain ⟨x0, x1, x2, x3⟩ := b1.four
      go_wp2_with fail
      refine (q1 w1 tW).mono ?_
      rintro e w2 ⟨A1, c1, rfl, -, -, k⟩
      replace b1 := b1.below k
      have t2 := tW.trans (k.mono tW.size)
      clear x0 x1 x2 x3 k
      obtain ⟨x0, x1, x2, x3⟩ := b1.four
      go_wp2_with fail
      refine (q2 w2 t2).mono ?_
      rintro e w3 ⟨rfl, k⟩
      go_wp2
      go_ret
      exact ⟨rfl, t2.trans (k.mono t2.size)⟩

set_option maxRecDepth 100000 in
set_option maxHeartbeats 3200000 in
theorem refpkept_any (minor status : Int) (s_ : ByteArray) (A : Option Addr) (n c B : Nat) (fs : List (List UInt8 × List UInt8)) (w : World) (h : Rd w B 2 A n (fcells fs)) (hB : B ≤ w.heap.size) (hn : n ≤ 1000) (hok : fsOk fs) :
    Calls Tryz.prog 11 #[.agg #[.int .i64 minor, .int .i64 status, .string s_, .slice A n c]] w fun e w' => e = .returned (.bool (keptL status fs)) ∧ Below w.heap.size w w' := by
  have q1 := fun (W : World) (b : Below w.heap.size w W) => refget_any A n c B fs ⟨#[99, 111, 110, 116, 101, 110, 116, 45, 114, 97, 110, 103, 101]⟩ W (h.below (b.mono hB)) (Nat.le_trans hB b.size) (by omega) hok (by decide)
  have q2 := fun (W : World) (b : Below w.heap.size w W) => refhas_any A n c B fs ⟨#[99, 97, 99, 104, 101, 45, 99, 111, 110, 116, 114, 111, 108]⟩ ⟨#[110, 111, 45, 116, 114, 97, 110, 115, 102, 111, 114, 109]⟩ W (h.below (b.mono hB)) (Nat.le_trans hB b.size) (by omega) hok (by decide) (by decide)
  have e1 : getL fs (⟨#[99, 111, 110, 116, 101, 110, 116, 45, 114, 97, 110, 103, 101]⟩ : ByteArray).data.toList = getL fs crL := getL_congr (by decide) fs
  have e2 : hasL fs (⟨#[99, 97, 99, 104, 101, 45, 99, 111, 110, 116, 114, 111, 108]⟩ : ByteArray).data.toList (⟨#[110, 111, 45, 116, 114, 97, 110, 115, 102, 111, 114, 109]⟩ : ByteArray).data.toList = hasL fs ccL ntL := hasL_same (by decide) (by decide) fs
  simp only [e1] at q1
  simp only [e2] at q2
  have tW : Below w.heap.size w (w.alloc (.cells #[.int .i64 minor, .int .i64 status, .string s_, .slice A n c] 30)) := (Below.refl _ _).alloc (Nat.le_refl _) _
  have b1 := Box.new w #[.int .i64 minor, .int .i64 status, .string s_, .slice A n c] 30
  obtain ⟨r, hr⟩ : ∃ r, r = keptL status fs := ⟨_, rfl⟩
  rw [← hr]
  unfold keptL at hr
  obtain ⟨G, hG⟩ : ∃ G, G = (getL fs crL).length := ⟨_, rfl⟩
  obtain ⟨H, hH⟩ : ∃ H, H = hasL fs ccL ntL := ⟨_, rfl⟩
  simp only [← hG] at q1 hr
  simp only [← hH] at q2 hr
  have hgl : G ≤ n := by rw [hG]; have := getL_len fs crL; have := h.flen; omega
  clear hG hH e1 e2 h hok
  by_cases hs : status = 206
  · rw [decide_eq_true hs, Bool.true_or] at hr
    subst hs hr
    go_enter Tryz.func11, Tryz.ntmps11
    go_upto_region 1 with (fail)
    generalize w.alloc _ = w1 at b1 tW ⊢
    obtain ⟨x0, x1, x2, x3⟩ := b1.four
    go_wp2
    go_ret
    exact ⟨rfl, tW⟩
  · rw [decide_eq_false hs, Bool.false_or] at hr
    have es : (status == 206) = false := by simpa using hs
    clear hs
    by_cases hg : 0 < G
    · rw [decide_eq_true hg, Bool.true_or] at hr
      subst hr
      go_enter Tryz.func11, Tryz.ntmps11
      go_upto_region 1 with (fail)
      generalize w.alloc _ = w1 at b1 tW ⊢
      obtain ⟨x0, x1, x2, x3⟩ := b1.four
      go_wp2_with fail
      refine (q1 w1 tW).mono ?_
      rintro e w2 ⟨A1, c1, rfl, -, -, k⟩
      go_wp2
      go_ret
      exact ⟨rfl, tW.trans (k.mono tW.size)⟩
    · rw [decide_eq_false hg, Bool.false_or] at hr
      subst hr
      obtain rfl : G = 0 := by omega
      clear hg hgl
      go_enter Tryz.func11, Tryz.ntmps11
      go_upto_region 1 with (fail)
      generalize w.alloc _ = w1 at b1 tW ⊢
      obtain ⟨x0, x1, x2, x3⟩ := b1.four
      go_wp2_with fail
      refine (q1 w1 tW).mono ?_
      rintro e w2 ⟨A1, c1, rfl, -, -, k⟩
      replace b1 := b1.below k
      have t2 := tW.trans (k.mono tW.size)
      clear x0 x1 x2 x3 k
      obtain ⟨x0, x1, x2, x3⟩ := b1.four
      go_wp2_with fail
      refine (q2 w2 t2).mono ?_
      rintro e w3 ⟨rfl, k⟩
      go_wp2
      go_ret
      exact ⟨rfl, t2.trans (k.mono t2.size)⟩
end Go.Proofs.YtgdjlmpfjmakkaaGreatDoor
