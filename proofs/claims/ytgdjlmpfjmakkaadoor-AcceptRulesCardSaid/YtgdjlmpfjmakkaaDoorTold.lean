/- frame.told and the reference's framing: how a body's end is told. -/
import Derived.Test.YtgdjlmpfjmakkaaDoorNumber
import Derived.Test.YtgdjlmpfjmakkaaDoorGets
import Derived.Test.YtgdjlmpfjmakkaaDoorTexts
namespace Go.Proofs.YtgdjlmpfjmakkaaDoor
open Go.RowKit

def nameTE : List UInt8 := [116, 114, 97, 110, 115, 102, 101, 114, 45, 101, 110, 99, 111, 100, 105, 110, 103]
def nameCL : List UInt8 := [99, 111, 110, 116, 101, 110, 116, 45, 108, 101, 110, 103, 116, 104]
def chunkedL : List UInt8 := [99, 104, 117, 110, 107, 101, 100]
/-- Of the values of two names: kind, length, error. -/
def toldL (T L : List (List UInt8)) (minor : Int) (o : Nat) : Nat × Nat × Nat :=
  if 0 < T.length then (if T.length = 1 ∧ sameL (T.headD []) chunkedL = true ∧ minor ≠ 0 ∧ L.length = 0 then (2, 0, 0) else (0, 0, 2))
  else if 0 < L.length then (if L.length = 1 ∧ (numL (L.headD [])).2 = true then (1, (numL (L.headD [])).1, 0) else (0, 0, 2)) else (o, 0, 0)
/-- What is told: the result's value. -/
def frV (t : Nat × Nat × Nat) : Value := .tuple #[.agg #[.int .i64 t.1, .int .i64 t.2.1], .int .i64 t.2.2]
theorem lowL_idem (l : List UInt8) : lowL (lowL l) = lowL l := by
  unfold lowL; rw [List.map_map]
  refine List.map_congr_left fun c _ => ?_
  by_cases h : 65 ≤ c.toNat ∧ c.toNat ≤ 90
  · have h1 := lowB_hit c h
    exact lowB_miss _ (by omega)
  · have h1 : lowB c = c := lowB_miss c h
    show lowB (lowB c) = lowB c
    rw [h1, h1]
theorem getL_low (fs : List (List UInt8 × List UInt8)) (name : List UInt8) : getL fs (lowL name) = getL fs name := by
  have h1 : ∀ x : List UInt8, sameL x (lowL name) = sameL x name := fun x => by unfold sameL; rw [lowL_idem]
  unfold getL
  simp only [h1]
theorem head_of {T : List (List UInt8)} (h : 0 < T.length) : T[0] = T.headD [] := by cases T with | nil => simp at h | cons a l => rfl

theorem new_free {w w2 : World} {cs : Array Value} {t : TypeId} {n i : Nat} (h : Below n (w.alloc (.cells cs t)) w2) (hn : n = w.heap.size + 1) : w2.frozen? ⟨w.heap.size, i, none⟩ = false := by
  rw [World.frozen?_of_block (a := ⟨w.heap.size, i, none⟩) (h.block w.heap.size (by omega))]
  unfold World.frozen?
  rw [heap_alloc_new]
  simp

theorem results_fr {fn : Func} {p u : Tmp} (h : fn.results = #[.cell p 26, .tmp u]) (tmps : Array Value) (w2 : World) (g : Nat) (x y e : Value) (a0 a1 : Value) (h0 : w2.cell? ⟨g, 0, none⟩ = some a0) (h1 : w2.cell? ⟨g, 1, none⟩ = some a1)
    (hp : tmps.getD p undef = .pointer (some ⟨g, 0, none⟩)) (hu : tmps.getD u undef = e) :
    (results fn tmps).run Tryd.prog ((w2.setCell ⟨g, 0, none⟩ x).setCell ⟨g, 1, none⟩ y) = .ok (.tuple #[.agg #[x, y], e]) ((w2.setCell ⟨g, 0, none⟩ x).setCell ⟨g, 1, none⟩ y) := by
  have k0 : (w2.setCell ⟨g, 0, none⟩ x).cell? ⟨g, 0, none⟩ = some x := World.cell?_setCell_same' w2 _ _ (by rw [h0]; rfl)
  have k1 : ((w2.setCell ⟨g, 0, none⟩ x).setCell ⟨g, 1, none⟩ y).cell? ⟨g, 1, none⟩ = some y := World.cell?_setCell_same' _ _ _ (by rw [World.cell?_setCell_other _ _ _ _ (by simp), h1]; rfl)
  have hp' : tmps[p]?.getD undef = .pointer (some ⟨g, 0, none⟩) := by simpa using hp
  have hu' : tmps[u]?.getD undef = e := by simpa using hu
  simp [results, h, hp', hu', go_sem, k0, k1]

set_option maxRecDepth 100000 in
set_option maxHeartbeats 3200000 in
theorem framing_any (A : Option Addr) (n c B : Nat) (fs : List (List UInt8 × List UInt8)) (minor : Int) (o : Nat) (w : World) (h : Rd w B 2 A n (fcells fs)) (hB : B ≤ w.heap.size) (hn : n ≤ 1000000) (hok : fsOk fs) :
    Calls Tryd.prog 63 #[.slice A n c, .int .i64 minor, .int .i64 o] w fun e w' => e = .returned (frV (toldL (getL fs nameTE) (getL fs nameCL) minor o)) ∧ Below w.heap.size w w' := by
  have q1 := fun (W : World) (b : Below w.heap.size w W) => refget_any A n c B fs ⟨#[116, 114, 97, 110, 115, 102, 101, 114, 45, 101, 110, 99, 111, 100, 105, 110, 103]⟩ W (h.below (b.mono hB)) (Nat.le_trans hB b.size) hn hok (by decide)
  have q2 := fun (W : World) (b : Below w.heap.size w W) => refget_any A n c B fs ⟨#[99, 111, 110, 116, 101, 110, 116, 45, 108, 101, 110, 103, 116, 104]⟩ W (h.below (b.mono hB)) (Nat.le_trans hB b.size) hn hok (by decide)
  have e1 : getL fs (⟨#[116, 114, 97, 110, 115, 102, 101, 114, 45, 101, 110, 99, 111, 100, 105, 110, 103]⟩ : ByteArray).data.toList = getL fs nameTE := rfl
  have e2 : getL fs (⟨#[99, 111, 110, 116, 101, 110, 116, 45, 108, 101, 110, 103, 116, 104]⟩ : ByteArray).data.toList = getL fs nameCL := rfl
  rw [e1] at q1
  rw [e2] at q2
  have hmT : ∀ v ∈ getL fs nameTE, v.length ≤ 1000000 := by intro v hv; obtain ⟨f, hf, rfl⟩ := List.mem_map.1 hv; exact (hok f (List.mem_filter.1 hf).1).2
  have hmL : ∀ v ∈ getL fs nameCL, v.length ≤ 1000000 := by intro v hv; obtain ⟨f, hf, rfl⟩ := List.mem_map.1 hv; exact (hok f (List.mem_filter.1 hf).1).2
  obtain ⟨T, hT⟩ : ∃ T, T = getL fs nameTE := ⟨_, rfl⟩
  obtain ⟨L, hL⟩ : ∃ L, L = getL fs nameCL := ⟨_, rfl⟩
  rw [← hT, ← hL]
  rw [← hT] at q1 hmT
  rw [← hL] at q2 hmL
  obtain ⟨nT, hnT⟩ : ∃ m, T.length = m := ⟨_, rfl⟩
  obtain ⟨nL, hnL⟩ : ∃ m, L.length = m := ⟨_, rfl⟩
  have hv : toldL T L minor o = if 0 < nT then (if nT = 1 ∧ sameL (T.headD []) chunkedL = true ∧ minor ≠ 0 ∧ nL = 0 then (2, 0, 0) else (0, 0, 2))
    else if 0 < nL then (if nL = 1 ∧ (numL (L.headD [])).2 = true then (1, (numL (L.headD [])).1, 0) else (0, 0, 2)) else (o, 0, 0) := by rw [← hnT, ← hnL]; rfl
  rw [hnT] at q1
  rw [hnL] at q2
  obtain ⟨r, hr⟩ : ∃ r, r = toldL T L minor o := ⟨_, rfl⟩
  rw [← hr] at hv ⊢
  have HV := hide hv
  have HNT := hide hnT
  have HNL := hide hnL
  have HMT := hide hmT
  have HML := hide hmL
  clear hr hv hnT hnL e1 e2 hmT hmL hT hL
  go_enter Tryd.func63, Tryd.ntmps63
  go_wp2_with fail
  refine (q1 _ ((Below.refl _ _).alloc (Nat.le_refl _) _)).mono ?_
  rintro e w1 ⟨A1, c1, rfl, o1, hc1, b1⟩
  have t1 : Below w.heap.size w w1 := ((Below.refl _ _).alloc (Nat.le_refl _) _).trans (b1.mono (by simp))
  have k10 : w1.cell? ⟨w.heap.size, 0, none⟩ = some (.int .i64 0) := new_kept (i := 0) b1 (by simp) rfl
  have k11 : w1.cell? ⟨w.heap.size, 1, none⟩ = some (.int .i64 0) := new_kept (i := 1) b1 (by simp) rfl
  have f10 := new_free (i := 0) b1 (by simp)
  have f11 := new_free (i := 1) b1 (by simp)
  go_wp2_with fail
  refine (q2 _ t1).mono ?_
  rintro e w2 ⟨A2, c2, rfl, o2, hc2, b2⟩
  have hsz1 : w.heap.size < w1.heap.size := World.block_lt_of_cell? w1 _ k10
  have k20 := (b2.cell (p := ⟨w.heap.size, 0, none⟩) hsz1).trans k10
  have k21 := (b2.cell (p := ⟨w.heap.size, 1, none⟩) hsz1).trans k11
  have r1 := (Rd.of_own o1).below b2
  have r2 := Rd.of_own o2
  have t2 := t1.trans (b2.mono t1.size)
  have f20 : w2.frozen? ⟨w.heap.size, 0, none⟩ = false := by rw [World.frozen?_of_block (a := ⟨w.heap.size, 0, none⟩) (b2.block w.heap.size hsz1)]; exact f10
  have f21 : w2.frozen? ⟨w.heap.size, 1, none⟩ = false := by rw [World.frozen?_of_block (a := ⟨w.heap.size, 1, none⟩) (b2.block w.heap.size hsz1)]; exact f11
  clear k10 k11 f10 f11 b1 b2 t1 q1 q2 o1 o2 h hok
  by_cases hT0 : 0 < nT
  · by_cases hT1 : nT = 1
    · have hl0 : 0 < T.length := by have := HNT.out; omega
      obtain ⟨a, rfl, -, hcell⟩ := r1.text (k := 0) hT0 hl0
      have hsl := HMT.out _ (List.getElem_mem hl0)
      have hhd := head_of hl0
      rw [hhd] at hcell hsl
      rw [Addr.add_zero'] at hcell
      obtain ⟨x, hx⟩ : ∃ x, x = T.headD [] := ⟨_, rfl⟩
      rw [← hx] at hcell hsl
      have HX := hide hx
      have hsm := reflower_any ⟨x.toArray⟩ w2 (by rw [mk_size]; omega)
      rw [mk_list] at hsm
      have hle : ((⟨(lowL x).toArray⟩ : ByteArray).toList == [99, 104, 117, 110, 107, 101, 100]) = sameL x chunkedL := by rw [ByteArray.toList_eq]; rfl
      obtain ⟨l1, hl1⟩ : ∃ l1 : ByteArray, l1 = ⟨(lowL x).toArray⟩ := ⟨_, rfl⟩
      rw [← hl1] at hsm hle
      clear hl1
      obtain ⟨s0, hs0⟩ : ∃ s0 : ByteArray, s0 = ⟨x.toArray⟩ := ⟨_, rfl⟩
      rw [← hs0] at hcell hsm
      clear hs0 hhd hsl hx r1 r2
      subst hT1
      rcases hcase : sameL x chunkedL with _ | _
      · rw [hcase] at hle
        have HC := hide hcase
        clear hcase
        go_wp2_with fail
        refine hsm.mono ?_
        rintro e w3 ⟨rfl, b3⟩
        have hsz2 : w.heap.size < w2.heap.size := World.block_lt_of_cell? w2 _ k20
        have k30 := (b3.cell (p := ⟨w.heap.size, 0, none⟩) hsz2).trans k20
        have k31 := (b3.cell (p := ⟨w.heap.size, 1, none⟩) hsz2).trans k21
        have f30 : w3.frozen? ⟨w.heap.size, 0, none⟩ = false := by rw [World.frozen?_of_block (a := ⟨w.heap.size, 0, none⟩) (b3.block w.heap.size hsz2)]; exact f20
        have f31 : w3.frozen? ⟨w.heap.size, 1, none⟩ = false := by rw [World.frozen?_of_block (a := ⟨w.heap.size, 1, none⟩) (b3.block w.heap.size hsz2)]; exact f21
        have t3 := t2.trans (b3.mono t2.size)
        clear b3 t2 k20 k21 f20 f21
        go_wp2
        refine bodyPost_ret (v := frV (0, 0, 2)) (results_fr Tryd.results63 _ w3 _ _ _ _ _ _ k30 k31 rfl rfl) rfl ?_
        exact ⟨by rw [HV.out, if_pos hT0, if_neg (by rw [← HX.out, HC.out]; simp)] <;> rfl, (t3.setCell (Nat.le_refl _) _).setCell (Nat.le_refl _) _⟩
      · rw [hcase] at hle
        have HC := hide hcase
        clear hcase
        go_wp2_with fail
        refine hsm.mono ?_
        rintro e w3 ⟨rfl, b3⟩
        have hsz2 : w.heap.size < w2.heap.size := World.block_lt_of_cell? w2 _ k20
        have k30 := (b3.cell (p := ⟨w.heap.size, 0, none⟩) hsz2).trans k20
        have k31 := (b3.cell (p := ⟨w.heap.size, 1, none⟩) hsz2).trans k21
        have f30 : w3.frozen? ⟨w.heap.size, 0, none⟩ = false := by rw [World.frozen?_of_block (a := ⟨w.heap.size, 0, none⟩) (b3.block w.heap.size hsz2)]; exact f20
        have f31 : w3.frozen? ⟨w.heap.size, 1, none⟩ = false := by rw [World.frozen?_of_block (a := ⟨w.heap.size, 1, none⟩) (b3.block w.heap.size hsz2)]; exact f21
        have t3 := t2.trans (b3.mono t2.size)
        clear b3 t2 k20 k21 f20 f21
        by_cases hm : minor = 0
        · subst hm
          go_wp2
          refine bodyPost_ret (v := frV (0, 0, 2)) (results_fr Tryd.results63 _ w3 _ _ _ _ _ _ k30 k31 rfl rfl) rfl ?_
          exact ⟨by rw [HV.out, if_pos hT0, if_neg (by simp)] <;> rfl, (t3.setCell (Nat.le_refl _) _).setCell (Nat.le_refl _) _⟩
        · have hm' : (minor == 0) = false := by simpa using hm
          by_cases hL : 0 < nL
          · have HM := hide hm
            clear hm
            go_wp2
            refine bodyPost_ret (v := frV (0, 0, 2)) (results_fr Tryd.results63 _ w3 _ _ _ _ _ _ k30 k31 rfl rfl) rfl ?_
            exact ⟨by rw [HV.out, if_pos hT0, if_neg (by omega)] <;> rfl, (t3.setCell (Nat.le_refl _) _).setCell (Nat.le_refl _) _⟩
          · obtain rfl : nL = 0 := by omega
            have HM := hide hm
            clear hm
            go_wp2
            refine bodyPost_ret (v := frV (2, 0, 0)) (results_fr Tryd.results63 _ w3 _ _ _ _ _ _ k30 k31 rfl rfl) rfl ?_
            exact ⟨by rw [HV.out, if_pos hT0, if_pos (by refine ⟨?_, ?_, ?_, ?_⟩ <;> first | trivial | exact HM.out | rw [← HX.out, HC.out])] <;> rfl, (t3.setCell (Nat.le_refl _) _).setCell (Nat.le_refl _) _⟩
    · have hT2 : ((nT : Int) != 1) = true := by simp; omega
      have HT1 := hide hT1
      clear r1 r2 hT1
      go_wp2
      refine bodyPost_ret (v := frV (0, 0, 2)) (results_fr Tryd.results63 _ w2 _ _ _ _ _ _ k20 k21 rfl rfl) rfl ?_
      exact ⟨by rw [HV.out, if_pos hT0, if_neg (fun h => HT1.out h.1)] <;> rfl, (t2.setCell (Nat.le_refl _) _).setCell (Nat.le_refl _) _⟩
  · obtain rfl : nT = 0 := by omega
    by_cases hL0 : 0 < nL
    · have hl0 : 0 < L.length := by have := HNL.out; omega
      obtain ⟨a, rfl, -, hcell⟩ := r2.text (k := 0) hL0 hl0
      have hsl := HML.out _ (List.getElem_mem hl0)
      have hhd := head_of hl0
      rw [hhd] at hcell hsl
      rw [Addr.add_zero'] at hcell
      obtain ⟨x, hx⟩ : ∃ x, x = L.headD [] := ⟨_, rfl⟩
      rw [← hx] at hcell hsl
      have HX := hide hx
      have hnm := reflength_any ⟨x.toArray⟩ w2
      rw [mk_list] at hnm
      obtain ⟨s0, hs0⟩ : ∃ s0 : ByteArray, s0 = ⟨x.toArray⟩ := ⟨_, rfl⟩
      rw [← hs0] at hcell hnm
      obtain ⟨nv, hnv⟩ : ∃ nv, nv = (numL x).1 := ⟨_, rfl⟩
      rw [← hnv] at hnm
      have HN := hide hnv
      clear hs0 hhd hsl hx r1 r2 hnv
      by_cases hL1 : nL = 1
      · subst hL1
        rcases hcase : (numL x).2 with _ | _
        · rw [hcase] at hnm
          have HC := hide hcase
          clear hcase
          go_wp2_with fail
          refine hnm.mono ?_
          rintro e w3 ⟨rfl, rfl⟩
          go_wp2
          refine bodyPost_ret (v := frV (0, 0, 2)) (results_fr Tryd.results63 _ w2 _ _ _ _ _ _ k20 k21 rfl rfl) rfl ?_
          exact ⟨by rw [HV.out, if_neg (by omega), if_pos (by omega), if_neg (by rw [← HX.out, HC.out]; simp)] <;> rfl, (t2.setCell (Nat.le_refl _) _).setCell (Nat.le_refl _) _⟩
        · rw [hcase] at hnm
          have HC := hide hcase
          clear hcase
          go_wp2_with fail
          refine hnm.mono ?_
          rintro e w3 ⟨rfl, rfl⟩
          go_wp2
          refine bodyPost_ret (v := frV (1, nv, 0)) (results_fr Tryd.results63 _ w2 _ _ _ _ _ _ k20 k21 rfl rfl) rfl ?_
          exact ⟨by rw [HV.out, if_neg (by omega), if_pos (by omega), if_pos (by refine ⟨?_, ?_⟩ <;> first | trivial | rw [← HX.out, HC.out]), HN.out, HX.out] <;> rfl, (t2.setCell (Nat.le_refl _) _).setCell (Nat.le_refl _) _⟩
      · have hL2 : 1 < nL := by omega
        clear hL1 hl0
        go_wp2_with fail
        refine hnm.mono ?_
        rintro e w3 ⟨rfl, rfl⟩
        go_wp2
        refine bodyPost_ret (v := frV (0, 0, 2)) (results_fr Tryd.results63 _ w2 _ _ _ _ _ _ k20 k21 rfl rfl) rfl ?_
        exact ⟨by rw [HV.out, if_neg (by omega), if_pos hL0, if_neg (by omega)] <;> rfl, (t2.setCell (Nat.le_refl _) _).setCell (Nat.le_refl _) _⟩
    · obtain rfl : nL = 0 := by omega
      clear r1 r2
      go_wp2
      refine bodyPost_ret (v := frV (o, 0, 0)) (results_fr Tryd.results63 _ w2 _ _ _ _ _ _ k20 k21 rfl rfl) rfl ?_
      exact ⟨by rw [HV.out, if_neg (by omega), if_neg (by omega)] <;> rfl, (t2.setCell (Nat.le_refl _) _).setCell (Nat.le_refl _) _⟩
end Go.Proofs.YtgdjlmpfjmakkaaDoor
