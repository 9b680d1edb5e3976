/- FieldLists returns true, whatever its arguments. -/
import Derived.Test.YtmijkefdnfmpiaaDoorLight
import Derived.Test.YtmijkefdnfmpiaaDoorDropFld
import Derived.Test.YtmijkefdnfmpiaaDoorSameF
namespace Go.Proofs.YtmijkefdnfmpiaaDoor.FieldListsP
open Go.RowKit

theorem step_ {w w' : World} {s n : Nat} {A : Option Addr} {xs : List Value} (h : Rd w w.heap.size s A n xs) (hb : Below w.heap.size w w') : Rd w' w'.heap.size s A n xs := (h.below hb).mono hb.size

theorem of_own_ {P : Program} {f : FuncId} {args : Array Value} {W : World} {t s n : Nat} {xs : List Value} (h : Calls P f args W fun e w' => ∃ A' c', e = .returned (.slice A' n c') ∧ w'.ownsRow W.heap.size t s (.slice A' n c') n xs ∧ n ≤ c' ∧ Below W.heap.size W w') :
    Calls P f args W fun e w' => ∃ A' c', e = .returned (.slice A' n c') ∧ Rd w' w'.heap.size s A' n xs ∧ Below W.heap.size W w' := h.mono fun _ _ ⟨A', c', h1, h2, _, h4⟩ => ⟨A', c', h1, Rd.of_own h2, h4⟩
theorem of_ow_ {P : Program} {f : FuncId} {args : Array Value} {W : World} {B s n : Nat} {xs : List Value} (h : Calls P f args W fun e w' => ∃ A' c', e = .returned (.slice A' n c') ∧ Ow w' B s (.slice A' n c') n xs ∧ n ≤ c' ∧ Below W.heap.size W w') :
    Calls P f args W fun e w' => ∃ A' c', e = .returned (.slice A' n c') ∧ Rd w' w'.heap.size s A' n xs ∧ Below W.heap.size W w' := h.mono fun _ _ ⟨A', c', h1, h2, _, h4⟩ => ⟨A', c', h1, h2.rd, h4⟩
theorem of_same_ {P : Program} {f : FuncId} {args : Array Value} {W : World} {b : Bool} (h : Calls P f args W fun e w' => e = .returned (.bool b) ∧ ∃ k, w' = W.drewN k) (hb : b = true) :
    Calls P f args W fun e w' => e = .returned (.bool true) ∧ Below W.heap.size W w' := h.mono fun _ _ ⟨h1, _, h2⟩ => ⟨by rw [h1, hb], by rw [h2]; exact below_drewN (Below.refl _ _)⟩

set_option maxRecDepth 100000 in
set_option maxHeartbeats 6400000 in
theorem walk (A : Option Addr) (n c : Nat) (fs : List (List UInt8 × List UInt8)) (name value : ByteArray) (w : World) (h : Rd w w.heap.size 2 A n (fcells fs)) (hn : n ≤ 9223372036854775807) (hname : name.size ≤ 9223372036854775807) (hvalue : value.size ≤ 9223372036854775807) :
    Calls Tryd.prog 10 #[.slice A n c, .string name, .string value] w fun e w' => e = .returned (.bool true) ∧ Below w.heap.size w w' := by
  have hl := light_any A n c _ fs w h hn
  have hfl := h.flen
  by_cases hbig : lightL fs = true ∧ name.size ≤ 600 ∧ value.size ≤ 6000
  · obtain ⟨b1, b2, b3⟩ := hbig
    obtain ⟨hok, h100, -⟩ := lightL_ok b1
    rw [hfl] at h100
    rw [b1] at hl
    obtain ⟨i0, hi0, hz0, hz1, hz2⟩ := info_parts infoFld
    obtain ⟨N, hN⟩ : ∃ N, N = name.data.toList := ⟨_, rfl⟩
    obtain ⟨V, hV⟩ : ∃ V, V = value.data.toList := ⟨_, rfl⟩
    have hNl : N.length ≤ 600 := by rw [hN, ← size_of]; exact b2
    have hVl : V.length ≤ 6000 := by rw [hV, ← size_of]; exact b3
    obtain ⟨S, hS⟩ : ∃ S, S = setL fs N V := ⟨_, rfl⟩
    obtain ⟨D, hD⟩ : ∃ D, D = dropL fs N := ⟨_, rfl⟩
    obtain ⟨G, hG⟩ : ∃ G, G = getL fs N := ⟨_, rfl⟩
    have hSok : fsOk S := by rw [hS]; exact fsOk_set hok (by omega) (by omega)
    have hDok : fsOk D := by rw [hD]; exact fsOk_drop hok _
    have hSl : S.length ≤ 101 := by have := setL_len fs N V; rw [hS]; omega
    have hDl : D.length ≤ 100 := by have := dropL_len fs N; rw [hD]; omega
    have hGl : G.length ≤ 100 := by have := getL_len fs N; rw [hG]; omega
    obtain ⟨ns, hns⟩ : ∃ ns, S.length = ns := ⟨_, rfl⟩
    obtain ⟨nd, hnd⟩ : ∃ nd, D.length = nd := ⟨_, rfl⟩
    obtain ⟨ng, hng⟩ : ∃ ng, G.length = ng := ⟨_, rfl⟩
    have hng' : ng ≤ 100 := by omega
    have hnd' : nd ≤ 100 := by omega
    have hns' : ns ≤ 101 := by omega
    have q1 := fun (A : Option Addr) (c : Nat) (W : World) (r : Rd W W.heap.size 2 A n (fcells fs)) => get_any A n c _ fs name W r (Nat.le_refl _) (by omega) hok (by omega)
    have q2 := fun (A : Option Addr) (c : Nat) (W : World) (r : Rd W W.heap.size 2 A n (fcells fs)) => drop_any A n c _ fs name W r (Nat.le_refl _) (by omega) hok (by omega)
    have q3 := fun (A : Option Addr) (c : Nat) (W : World) (r : Rd W W.heap.size 2 A n (fcells fs)) => set_any A n c _ fs name value W r (Nat.le_refl _) (by omega) hok (by omega)
    have q4 := fun (A : Option Addr) (c : Nat) (W : World) (r : Rd W W.heap.size 2 A n (fcells fs)) => refget_any A n c _ fs name W r (Nat.le_refl _) (by omega) hok (by omega)
    have q5 := fun (A : Option Addr) (c : Nat) (W : World) (r : Rd W W.heap.size 2 A n (fcells fs)) => refdrop_any A n c _ fs name W r (Nat.le_refl _) (by omega) hok (by omega)
    have q6 := fun (A : Option Addr) (c : Nat) (W : World) (r : Rd W W.heap.size 2 A n (fcells fs)) => refset_any A n c _ fs name value W r (Nat.le_refl _) (by omega) hok (by omega)
    have q7 := fun (A : Option Addr) (c : Nat) (W : World) (r : Rd W W.heap.size 2 A ns (fcells S)) => get_any A ns c _ S name W r (Nat.le_refl _) (by omega) hSok (by omega)
    have q8 := fun (A : Option Addr) (c : Nat) (W : World) (r : Rd W W.heap.size 2 A nd (fcells D)) => get_any A nd c _ D name W r (Nat.le_refl _) (by omega) hDok (by omega)
    have q9 := fun (A : Option Addr) (c : Nat) (W : World) (r : Rd W W.heap.size 2 A ns (fcells S)) => drop_any A ns c _ S name W r (Nat.le_refl _) (by omega) hSok (by omega)
    have q10 := fun (A : Option Addr) (c : Nat) (W : World) (r : Rd W W.heap.size 2 A ns (fcells S)) => set_any A ns c _ S name value W r (Nat.le_refl _) (by omega) hSok (by omega)
    have s7 : getL S N = [V] := by rw [hS]; exact getL_set fs N V
    have s8 : getL D N = [] := by rw [hD]; exact getL_drop N fs
    have s9 : dropL S N = D := by rw [hS, hD]; exact dropL_set fs N V
    have s10 : setL S N V = S := by rw [hS]; exact setL_set fs N V
    rw [← hN] at q1 q2 q4 q5 q7 q8 q9
    simp only [← hN, ← hV] at q3 q6 q10
    rw [← hG] at q1 q4
    rw [← hD] at q2 q5
    simp only [← hS] at q3 q6
    simp only [s7] at q7
    simp only [s8] at q8
    simp only [s9] at q9
    simp only [s10] at q10
    simp only [hng] at q1 q4
    simp only [hnd] at q2 q5 q9
    simp only [hns] at q3 q6 q10
    simp only [List.length_singleton] at q7
    simp only [List.length_nil] at q8
    have HVV := hide (show (⟨V.toArray⟩ : ByteArray) = value by rw [hV])
    have p1 := fun (A : Option Addr) (c : Nat) (W : World) (r : Rd W W.heap.size 2 A n (fcells fs)) => of_own_ (q1 A c W r)
    have p2 := fun (A : Option Addr) (c : Nat) (W : World) (r : Rd W W.heap.size 2 A n (fcells fs)) => of_ow_ (q2 A c W r)
    have p3 := fun (A : Option Addr) (c : Nat) (W : World) (r : Rd W W.heap.size 2 A n (fcells fs)) => of_own_ (q3 A c W r)
    have p4 := fun (A : Option Addr) (c : Nat) (W : World) (r : Rd W W.heap.size 2 A n (fcells fs)) => of_own_ (q4 A c W r)
    have p5 := fun (A : Option Addr) (c : Nat) (W : World) (r : Rd W W.heap.size 2 A n (fcells fs)) => of_own_ (q5 A c W r)
    have p6 := fun (A : Option Addr) (c : Nat) (W : World) (r : Rd W W.heap.size 2 A n (fcells fs)) => of_own_ (q6 A c W r)
    have p7 := fun (A : Option Addr) (c : Nat) (W : World) (r : Rd W W.heap.size 2 A ns (fcells S)) => of_own_ (q7 A c W r)
    have p8 := fun (A : Option Addr) (c : Nat) (W : World) (r : Rd W W.heap.size 2 A nd (fcells D)) => of_own_ (q8 A c W r)
    have p9 := fun (A : Option Addr) (c : Nat) (W : World) (r : Rd W W.heap.size 2 A ns (fcells S)) => of_ow_ (q9 A c W r)
    have p10 := fun (A : Option Addr) (c : Nat) (W : World) (r : Rd W W.heap.size 2 A ns (fcells S)) => of_own_ (q10 A c W r)
    have sf := fun (W : World) (A A' : Option Addr) (c c' m : Nat) (l : List (List UInt8 × List UInt8)) (hm : m ≤ 200) (r : Rd W W.heap.size 2 A m (fcells l)) (r' : Rd W W.heap.size 2 A' m (fcells l)) => of_same_ (samef_any A A' m c m c' _ _ l l W r r' (by omega) (by omega)) (by simp)
    have tx := fun (W : World) (A A' : Option Addr) (c c' : Nat) (r : Rd W W.heap.size 1 A ng (scells G)) (r' : Rd W W.heap.size 1 A' ng (scells G)) => of_same_ (texts_any A A' ng c ng c' _ _ G G W r r' (by omega) (by omega)) (by simp)
    clear q1 q2 q3 q4 q5 q6 q7 q8 q9 q10 s7 s8 s9 s10 hS hD hG hN hV hns hnd hng hSok hDok hok b1 hfl hNl hVl
    go_enter Tryd.func10, Tryd.ntmps10
    go_wp2_with fail
    refine hl.mono ?_
    rintro e w1 ⟨rfl, rfl⟩
    clear hl
    have ho := own_new w1 #[] 37 2 0 rfl (by unfold maxLen; omega) w1.heap.size (Nat.le_refl _)
    have hr := h.alloc (Nat.le_refl _) (.cells #[] 37)
    go_wp2_with (at_builtin; refine wpl_append _ rfl _ _ _ rfl w1.heap.size _ i0 _ 2 32 Tryd.underlying38 hi0 hz0 hz1 hz2 rfl (by omega) _ _ _ rfl _ _ _ _ _ rfl ho hr (fcells_one fs) (by unfold maxLen; omega) (by omega) (by simp) ?_; intro v1 w2 hown1 hbel1 _)
    rw [Nat.zero_add] at hown1
    obtain ⟨Ai, ci, rfl, -, -⟩ := own_shape hown1
    have ri : Rd w2 w2.heap.size 2 Ai n (fcells fs) := Rd.of_own hown1
    have t : Below w1.heap.size w1 w2 := ((Below.refl _ w1).alloc (Nat.le_refl _) _).trans hbel1
    have rl := step_ h t
    clear hown1 hbel1 ho hr h hi0 hz0 hz1 hz2
    go_wp2_with fail
    refine (p1 _ _ _ ri).mono ?_
    rintro e w9 ⟨Arx, crx, rfl, rx, b⟩
    replace ri := step_ ri b
    replace rl := step_ rl b
    replace t := t.trans (b.mono t.size)
    clear b
    go_wp2_with fail
    refine (p2 _ _ _ ri).mono ?_
    rintro e w9 ⟨Ary, cry, rfl, ry, b⟩
    replace ri := step_ ri b
    replace rl := step_ rl b
    replace rx := step_ rx b
    replace t := t.trans (b.mono t.size)
    clear b
    go_wp2_with fail
    refine (p3 _ _ _ ri).mono ?_
    rintro e w9 ⟨Arz, crz, rfl, rz, b⟩
    replace ri := step_ ri b
    replace rl := step_ rl b
    replace rx := step_ rx b
    replace ry := step_ ry b
    replace t := t.trans (b.mono t.size)
    clear b
    go_wp2_with fail
    refine (ans16_any _).mono ?_
    rintro e w9 ⟨rfl, b⟩
    replace ri := step_ ri b
    replace rl := step_ rl b
    replace rx := step_ rx b
    replace ry := step_ ry b
    replace rz := step_ rz b
    replace t := t.trans (b.mono t.size)
    clear b
    go_wp2_with fail
    refine (sf _ _ _ _ _ n fs (by omega) ri rl).mono ?_
    rintro e w9 ⟨rfl, b⟩
    replace ri := step_ ri b
    replace rl := step_ rl b
    replace rx := step_ rx b
    replace ry := step_ ry b
    replace rz := step_ rz b
    replace t := t.trans (b.mono t.size)
    clear b
    clear ri
    go_wp2_with fail
    refine (p4 _ _ _ rl).mono ?_
    rintro e w9 ⟨Ara, cra, rfl, ra, b⟩
    replace rl := step_ rl b
    replace rx := step_ rx b
    replace ry := step_ ry b
    replace rz := step_ rz b
    replace t := t.trans (b.mono t.size)
    clear b
    go_wp2_with fail
    refine (tx _ _ _ _ _ rx ra).mono ?_
    rintro e w9 ⟨rfl, b⟩
    replace rl := step_ rl b
    replace rx := step_ rx b
    replace ry := step_ ry b
    replace rz := step_ rz b
    replace ra := step_ ra b
    replace t := t.trans (b.mono t.size)
    clear b
    clear rx ra
    go_wp2_with fail
    refine (p5 _ _ _ rl).mono ?_
    rintro e w9 ⟨Arb, crb, rfl, rb, b⟩
    replace rl := step_ rl b
    replace ry := step_ ry b
    replace rz := step_ rz b
    replace t := t.trans (b.mono t.size)
    clear b
    go_wp2_with fail
    refine (sf _ _ _ _ _ nd D (by omega) ry rb).mono ?_
    rintro e w9 ⟨rfl, b⟩
    replace rl := step_ rl b
    replace ry := step_ ry b
    replace rz := step_ rz b
    replace rb := step_ rb b
    replace t := t.trans (b.mono t.size)
    clear b
    clear rb
    go_wp2_with fail
    refine (p6 _ _ _ rl).mono ?_
    rintro e w9 ⟨Arc, crc, rfl, rc, b⟩
    replace rl := step_ rl b
    replace ry := step_ ry b
    replace rz := step_ rz b
    replace t := t.trans (b.mono t.size)
    clear b
    go_wp2_with fail
    refine (sf _ _ _ _ _ ns S (by omega) rz rc).mono ?_
    rintro e w9 ⟨rfl, b⟩
    replace rl := step_ rl b
    replace ry := step_ ry b
    replace rz := step_ rz b
    replace rc := step_ rc b
    replace t := t.trans (b.mono t.size)
    clear b
    clear rc rl
    go_wp2_with fail
    refine (p7 _ _ _ rz).mono ?_
    rintro e w9 ⟨Arw_, crw_, rfl, rw_, b⟩
    replace ry := step_ ry b
    replace rz := step_ rz b
    replace t := t.trans (b.mono t.size)
    clear b
    obtain ⟨ad, rfl, -, hcell⟩ := rw_.text (k := 0) (by omega) (by simp)
    replace hcell : w9.cell? (ad.add 0) = some (.string value) := by rw [hcell]; exact congrArg some (congrArg Value.string HVV.out)
    rw [Addr.add_zero'] at hcell
    clear rw_
    go_wp2_with fail
    refine (p8 _ _ _ ry).mono ?_
    rintro e w9 ⟨Arv, crv, rfl, rv, b⟩
    replace ry := step_ ry b
    replace rz := step_ rz b
    replace t := t.trans (b.mono t.size)
    clear b
    clear rv
    go_wp2_with fail
    refine (p9 _ _ _ rz).mono ?_
    rintro e w9 ⟨Ard, crd, rfl, rd, b⟩
    replace ry := step_ ry b
    replace rz := step_ rz b
    replace t := t.trans (b.mono t.size)
    clear b
    go_wp2_with fail
    refine (sf _ _ _ _ _ nd D (by omega) rd ry).mono ?_
    rintro e w9 ⟨rfl, b⟩
    replace ry := step_ ry b
    replace rz := step_ rz b
    replace rd := step_ rd b
    replace t := t.trans (b.mono t.size)
    clear b
    clear rd ry
    go_wp2_with fail
    refine (p10 _ _ _ rz).mono ?_
    rintro e w9 ⟨Are, cre, rfl, re, b⟩
    replace rz := step_ rz b
    replace t := t.trans (b.mono t.size)
    clear b
    go_wp2_with fail
    refine (sf _ _ _ _ _ ns S (by omega) re rz).mono ?_
    rintro e w9 ⟨rfl, b⟩
    replace rz := step_ rz b
    replace re := step_ re b
    replace t := t.trans (b.mono t.size)
    clear b
    clear re rz
    go_wp2
    go_ret
    exact ⟨rfl, t⟩
  · rcases hb : lightL fs with _ | _
    · rw [hb] at hl
      clear hbig hb hfl h
      go_enter Tryd.func10, Tryd.ntmps10
      go_wp2_with fail
      refine hl.mono ?_
      rintro e w1 ⟨rfl, rfl⟩
      go_wp2_with (refine (ans16_any _).mono ?_; rintro e w' ⟨rfl, hB⟩)
      go_ret
      exact ⟨rfl, hB⟩
    · rw [hb] at hl
      have hbig' : ¬ name.size ≤ 600 ∨ ¬ value.size ≤ 6000 := by by_cases h1 : name.size ≤ 600 <;> by_cases h2 : value.size ≤ 6000 <;> simp_all
      clear hbig hb hfl h
      by_cases h1 : name.size ≤ 600
      · have h2 : ¬ value.size ≤ 6000 := by omega
        go_enter Tryd.func10, Tryd.ntmps10
        go_wp2_with fail
        refine hl.mono ?_
        rintro e w1 ⟨rfl, rfl⟩
        go_wp2_with (refine (ans16_any _).mono ?_; rintro e w' ⟨rfl, hB⟩)
        go_ret
        exact ⟨rfl, hB⟩
      · go_enter Tryd.func10, Tryd.ntmps10
        go_wp2_with fail
        refine hl.mono ?_
        rintro e w1 ⟨rfl, rfl⟩
        go_wp2_with (refine (ans16_any _).mono ?_; rintro e w' ⟨rfl, hB⟩)
        go_ret
        exact ⟨rfl, hB⟩
end Go.Proofs.YtmijkefdnfmpiaaDoor.FieldListsP
