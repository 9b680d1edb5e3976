/- FieldHas returns true, whatever its arguments. -/
import Derived.Test.YtmijkefdnfmpiaaDoorLight
namespace Go.Proofs.YtmijkefdnfmpiaaDoor.FieldHasP
open Go.RowKit

theorem lowB_idem (c : UInt8) : lowB (lowB c) = lowB c := by
  by_cases h : 65 ≤ c.toNat ∧ c.toNat ≤ 90
  · have h1 := lowB_hit c h
    exact lowB_miss _ (by omega)
  · have h1 : lowB c = c := lowB_miss c h
    rw [h1, h1]
theorem lowL_idem (l : List UInt8) : lowL (lowL l) = lowL l := by
  unfold lowL; rw [List.map_map]; exact List.map_congr_left fun c _ => lowB_idem c
theorem hasL_low (fs : List (List UInt8 × List UInt8)) (name m : List UInt8) : hasL fs (lowL name) (lowL m) = hasL fs name m := by
  have hl : ∀ x : List UInt8, lowL (lowL x) = lowL x := lowL_idem
  have h1 : ∀ x y : List UInt8, sameL x (lowL y) = sameL x y := fun x y => by unfold sameL; rw [hl]
  unfold hasL getL hasV hasM
  simp only [h1]

set_option maxRecDepth 100000 in
set_option maxHeartbeats 3200000 in
theorem walk (A : Option Addr) (n c : Nat) (fs : List (List UInt8 × List UInt8)) (name m : ByteArray) (w : World) (h : Rd w w.heap.size 2 A n (fcells fs)) (hn : n ≤ 9223372036854775807) (hname : name.size ≤ 9223372036854775807) (hm : m.size ≤ 9223372036854775807) :
    Calls Tryd.prog 9 #[.slice A n c, .string name, .string m] w fun e w' => e = .returned (.bool true) ∧ Below w.heap.size w w' := by
  have hl := light_any A n c _ fs w h hn
  have hfl := h.flen
  by_cases hbig : lightL fs = true ∧ name.size ≤ 600 ∧ m.size ≤ 600
  · obtain ⟨b1, b2, b3⟩ := hbig
    obtain ⟨hok, h100, -⟩ := lightL_ok b1
    rw [hfl] at h100
    rw [b1] at hl
    have g1 := fun (w' : World) (hb : Below w.heap.size w w') => has_any A n c _ fs name m w' (h.below hb) hb.size (by omega) hok (by omega) (by omega)
    have g2 := fun (w' : World) (hb : Below w.heap.size w w') => refhas_any A n c _ fs name m w' (h.below hb) hb.size (by omega) hok (by omega) (by omega)
    have g3 := fun (s t : ByteArray) (h1 : s.size ≤ 600) (h2 : t.size ≤ 600) (w' : World) (hb : Below w.heap.size w w') => has_any A n c _ fs s t w' (h.below hb) hb.size (by omega) hok (by omega) (by omega)
    have g4 := fun w => reflower_any name w (by omega)
    have g5 := fun w => reflower_any m w (by omega)
    have e1 := mk_size (lowL name.data.toList)
    have e2 := mk_size (lowL m.data.toList)
    rw [lowL_length, ← size_of] at e1 e2
    have g3' := g3 ⟨(lowL name.data.toList).toArray⟩ ⟨(lowL m.data.toList).toArray⟩ (by omega) (by omega)
    rw [mk_list, mk_list, hasL_low] at g3'
    obtain ⟨r, hr⟩ : ∃ r, r = hasL fs name.data.toList m.data.toList := ⟨_, rfl⟩
    rw [← hr] at g1 g2 g3'
    obtain ⟨l1, hl1⟩ : ∃ l1 : ByteArray, l1 = ⟨(lowL name.data.toList).toArray⟩ := ⟨_, rfl⟩
    obtain ⟨l2, hl2⟩ : ∃ l2 : ByteArray, l2 = ⟨(lowL m.data.toList).toArray⟩ := ⟨_, rfl⟩
    rw [← hl1] at g4 g3'
    rw [← hl2] at g5 g3'
    clear e1 e2 g3 hr hl1 hl2 hok b1 h hfl
    go_enter Tryd.func9, Tryd.ntmps9
    go_wp2_with fail
    refine hl.mono ?_
    rintro e w1 ⟨rfl, rfl⟩
    go_wp2_with fail
    refine (ans16_any _).mono ?_
    rintro e w2 ⟨rfl, b2⟩
    go_wp2_with fail
    refine (g1 _ b2).mono ?_
    rintro e w3 ⟨rfl, k3⟩
    have t3 := b2.trans (k3.mono b2.size)
    clear k3
    go_wp2_with fail
    refine (g2 _ t3).mono ?_
    rintro e w4 ⟨rfl, k4⟩
    have t4 := t3.trans (k4.mono t3.size)
    clear k4
    go_wp2_with fail
    refine (g4 _).mono ?_
    rintro e w5 ⟨rfl, k5⟩
    have t5 := t4.trans (k5.mono t4.size)
    clear k5
    go_wp2_with fail
    refine (g5 _).mono ?_
    rintro e w6 ⟨rfl, k6⟩
    have t6 := t5.trans (k6.mono t5.size)
    clear k6
    go_wp2_with fail
    refine (g3' _ t6).mono ?_
    rintro e w7 ⟨rfl, k7⟩
    have t7 := t6.trans (k7.mono t6.size)
    clear k7
    go_wp2_with fail
    refine (g2 _ t7).mono ?_
    rintro e w8 ⟨rfl, k8⟩
    have t8 := t7.trans (k8.mono t7.size)
    clear k8
    go_wp2
    go_ret
    exact ⟨by simp, t8⟩
  · rcases hb : lightL fs with _ | _
    · rw [hb] at hl
      clear hbig hb hfl h
      go_enter Tryd.func9, Tryd.ntmps9
      go_wp2_with fail
      refine hl.mono ?_
      rintro e w1 ⟨rfl, rfl⟩
      go_wp2_with (refine (ans16_any _).mono ?_; rintro e w' ⟨rfl, hB⟩)
      go_ret
      exact ⟨rfl, hB⟩
    · rw [hb] at hl
      have hbig' : ¬ name.size ≤ 600 ∨ ¬ m.size ≤ 600 := by by_cases h1 : name.size ≤ 600 <;> by_cases h2 : m.size ≤ 600 <;> simp_all
      clear hbig hb hfl h
      by_cases h1 : name.size ≤ 600
      · have h2 : ¬ m.size ≤ 600 := by omega
        go_enter Tryd.func9, Tryd.ntmps9
        go_wp2_with fail
        refine hl.mono ?_
        rintro e w1 ⟨rfl, rfl⟩
        go_wp2_with (refine (ans16_any _).mono ?_; rintro e w' ⟨rfl, hB⟩)
        go_ret
        exact ⟨rfl, hB⟩
      · go_enter Tryd.func9, Tryd.ntmps9
        go_wp2_with fail
        refine hl.mono ?_
        rintro e w1 ⟨rfl, rfl⟩
        go_wp2_with (refine (ans16_any _).mono ?_; rintro e w' ⟨rfl, hB⟩)
        go_ret
        exact ⟨rfl, hB⟩
end Go.Proofs.YtmijkefdnfmpiaaDoor.FieldHasP
