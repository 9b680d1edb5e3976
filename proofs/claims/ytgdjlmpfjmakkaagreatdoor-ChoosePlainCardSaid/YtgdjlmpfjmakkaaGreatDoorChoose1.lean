/- The client's wants: weights of codings, the best, the first, the others. -/
import Derived.Test.YtgdjlmpfjmakkaaGreatDoorChooseSpec
import Derived.Test.YtgdjlmpfjmakkaaGreatDoorPoCoding
namespace Go.Proofs.YtgdjlmpfjmakkaaGreatDoor
open Go.RowKit

set_option maxRecDepth 100000 in
set_option maxHeartbeats 1600000 in
theorem kname_any (k : Nat) (w : World) : Calls Tryz.prog 49 #[.int .i64 k] w fun e w' => e = .returned (.string ⟨(kindL k).toArray⟩) ∧ w = w' := by
  by_cases h0 : k = 0
  · subst h0
    go_enter Tryz.func49, Tryz.ntmps49
    go_wp2
    go_ret
    exact ⟨rfl, rfl⟩
  by_cases h1 : k = 1
  · subst h1
    go_enter Tryz.func49, Tryz.ntmps49
    go_wp2
    go_ret
    exact ⟨rfl, rfl⟩
  by_cases h2 : k = 2
  · subst h2
    go_enter Tryz.func49, Tryz.ntmps49
    go_wp2
    go_ret
    exact ⟨rfl, rfl⟩
  have e0 : ((k : Int) == 0) = false := by simpa using h0
  have e1 : ((k : Int) == 1) = false := by rw [beq_eq_false_iff_ne]; omega
  have e2 : ((k : Int) == 2) = false := by rw [beq_eq_false_iff_ne]; omega
  have hk : kindL k = [] := by
    match k, h0, h1, h2 with
    | k + 3, _, _, _ => rfl
  rw [hk]
  clear hk h0 h1 h2
  go_enter Tryz.func49, Tryz.ntmps49
  go_wp2
  go_ret
  exact ⟨rfl, rfl⟩

set_option maxRecDepth 100000 in
set_option maxHeartbeats 1600000 in
theorem wt_any (A : Option Addr) (n c B k : Nat) (vs : List (List UInt8)) (w : World) (h : Rd w B 1 A n (scells vs)) (hB : B ≤ w.heap.size) (hn : n ≤ 1000) (hok : ∀ v ∈ vs, v.length ≤ 1000000) :
    Calls Tryz.prog 36 #[.slice A n c, .int .i64 k] w fun e w' => e = .returned (.int .i64 (wtL vs k)) ∧ Below w.heap.size w w' := by
  have q1 := fun W => kname_any k W
  have q2 := q_any A n c B vs ⟨(kindL k).toArray⟩ w h hB hn hok
  rw [mk_list] at q2
  change Calls Tryz.prog 45 _ w (fun e w' => e = .returned (.int .i64 (wtL vs k)) ∧ Below w.heap.size w w') at q2
  obtain ⟨b, hb⟩ : ∃ b : ByteArray, b = ⟨(kindL k).toArray⟩ := ⟨_, rfl⟩
  simp only [← hb] at q1
  rw [← hb] at q2
  clear hb h hok
  go_enter Tryz.func36, Tryz.ntmps36
  go_wp2_with fail
  refine (q1 w).mono ?_
  rintro e w1 ⟨rfl, rfl⟩
  go_wp2_with fail
  refine q2.mono ?_
  rintro e w2 ⟨rfl, k2⟩
  go_wp2
  go_ret
  exact ⟨rfl, k2⟩

def kcells (ks : List Nat) : List Value := ks.map fun (k : Nat) => Value.int .i64 (k : Int)
theorem Rd.kind {w : World} {B n : Nat} {A : Option Addr} {ks : List Nat} (h : Rd w B 1 A n (kcells ks)) {k : Nat} (hk : k < n) (hl : k < ks.length) :
    ∃ a, A = some a ∧ a.block < B ∧ w.cell? (a.add k) = some (.int .i64 (ks[k] : Nat)) := by
  obtain ⟨a, rfl, hb, hc⟩ := h.at_ hk
  refine ⟨a, rfl, hb, hc k _ ?_⟩
  simp [kcells, hl]

set_option maxRecDepth 100000 in
set_option maxHeartbeats 1600000 in
theorem best_any (A A2 : Option Addr) (n c B n2 c2 B2 : Nat) (vs : List (List UInt8)) (ks : List Nat) (w : World) (h : Rd w B 1 A n (scells vs)) (hB : B ≤ w.heap.size) (hn : n ≤ 1000) (hok : ∀ v ∈ vs, v.length ≤ 1000000) (h2 : Rd w B2 1 A2 n2 (kcells ks)) (hB2 : B2 ≤ w.heap.size) (hn2 : n2 ≤ 1000) :
    Calls Tryz.prog 35 #[.slice A n c, .slice A2 n2 c2] w fun e w' => e = .returned (.tuple #[.int .i64 (bestL (wtL vs) ks).1, .bool (bestL (wtL vs) ks).2]) ∧ Below w.heap.size w w' := by
  have hlen : ks.length = n2 := by have := h2.1; simpa [kcells] using this
  have q := fun (W : World) (b : Below w.heap.size w W) (k : Nat) => wt_any A n c B k vs W (h.below (b.mono hB)) (Nat.le_trans hB b.size) hn hok
  obtain ⟨wt, hwt⟩ : ∃ f, f = wtL vs := ⟨_, rfl⟩
  simp only [← hwt] at q
  rw [← hwt]
  have HL := hide hlen
  have hle : n2 ≤ ks.length := by omega
  clear hwt h hok hlen
  go_enter Tryz.func35, Tryz.ntmps35
  go_wp2_with fail
  go_loopw [6, 7, 13] (fun b m i wr => ∃ k : Nat, k ≤ n2 ∧ i = .int .i64 k ∧ b = .int .i64 (bestF wt (ks.take k)).1 ∧ m = .int .i64 (bestF wt (ks.take k)).2 ∧ Below w.heap.size w wr) (fun _ _ i _ => n2 - (intOf i).toNat)
  case atStart => exact ⟨0, Nat.zero_le _, rfl, rfl, rfl, Below.refl _ _⟩
  case round =>
    obtain ⟨k, hk, rfl, rfl, rfl, hb⟩ := hrel
    by_cases hlt : k < n2
    · have hkl : k < ks.length := by omega
      obtain ⟨a, rfl, -, hcell⟩ := (h2.below (hb.mono hB2)).kind hlt hkl
      have hsn := bestF_snoc wt ks k hkl
      have hbz := hb.size
      obtain ⟨x, hx⟩ : ∃ x, x = ks[k] := ⟨_, rfl⟩
      rw [← hx] at hcell hsn
      obtain ⟨⟨p, m⟩, hpm⟩ : ∃ s, s = bestF wt (ks.take k) := ⟨_, rfl⟩
      rw [← hpm] at hsn ⊢
      unfold bestS at hsn
      dsimp only at hsn ⊢
      obtain ⟨v, hv⟩ : ∃ v, v = wt x := ⟨_, rfl⟩
      have q1 := q wr hb x
      rw [← hv] at hsn q1
      clear hx hpm hv
      by_cases hgt : m < v
      · rw [if_pos hgt] at hsn
        have HS := hide hsn
        clear hsn
        go_wp2_with fail
        refine q1.mono ?_
        rintro e w2 ⟨rfl, k2⟩
        go_wp2
        go_roundw
        case rel => exact ⟨k + 1, by omega, by go_num, by rw [HS.out], by rw [HS.out], hb.trans (k2.mono hbz)⟩
        case measure => simp [intOf]; omega
      · rw [if_neg hgt] at hsn
        have HS := hide hsn
        clear hsn
        go_wp2_with fail
        refine q1.mono ?_
        rintro e w2 ⟨rfl, k2⟩
        go_wp2
        go_roundw
        case rel => exact ⟨k + 1, by omega, by go_num, by rw [HS.out], by rw [HS.out], hb.trans (k2.mono hbz)⟩
        case measure => simp [intOf]; omega
    · have hfin : ks.take k = ks := List.take_of_length_le (by have := HL.out; omega)
      rw [hfin]
      obtain ⟨p, hp⟩ : ∃ s, s = (bestF wt ks).1 := ⟨_, rfl⟩
      obtain ⟨m, hm⟩ : ∃ s, s = (bestF wt ks).2 := ⟨_, rfl⟩
      have hbl : bestL wt ks = (p, decide (0 < m)) := by unfold bestL; rw [hp, hm]
      have HB := hide hbl
      rw [← hp, ← hm]
      clear hfin hp hm hbl
      go_wp2
      go_ret2
      refine ⟨?_, hb⟩
      rw [HB.out]
      first | rfl | simp

set_option maxRecDepth 100000 in
set_option maxHeartbeats 1600000 in
theorem first_any (A A2 : Option Addr) (n c B n2 c2 B2 : Nat) (vs : List (List UInt8)) (ks : List Nat) (w : World) (h : Rd w B 1 A n (scells vs)) (hB : B ≤ w.heap.size) (hn : n ≤ 1000) (hok : ∀ v ∈ vs, v.length ≤ 1000000) (h2 : Rd w B2 1 A2 n2 (kcells ks)) (hB2 : B2 ≤ w.heap.size) (hn2 : n2 ≤ 1000) :
    Calls Tryz.prog 37 #[.slice A n c, .slice A2 n2 c2] w fun e w' => e = .returned (.tuple #[.int .i64 (firstK (wtL vs) ks).1, .bool (firstK (wtL vs) ks).2]) ∧ Below w.heap.size w w' := by
  have hlen : ks.length = n2 := by have := h2.1; simpa [kcells] using this
  have q := fun (W : World) (b : Below w.heap.size w W) (k : Nat) => wt_any A n c B k vs W (h.below (b.mono hB)) (Nat.le_trans hB b.size) hn hok
  obtain ⟨wt, hwt⟩ : ∃ f, f = wtL vs := ⟨_, rfl⟩
  simp only [← hwt] at q
  rw [← hwt]
  obtain ⟨fr, hfr⟩ : ∃ x, x = firstK wt ks := ⟨_, rfl⟩
  rw [← hfr]
  have HR := hide hfr
  have HL := hide hlen
  have hle : n2 ≤ ks.length := by omega
  clear hwt h hok hlen hfr
  go_enter Tryz.func37, Tryz.ntmps37
  go_wp2_with fail
  go_loopw [10] (fun i wr => ∃ k : Nat, k ≤ n2 ∧ i = .int .i64 k ∧ (∀ x ∈ ks.take k, ¬ 0 < wt x) ∧ Below w.heap.size w wr) (fun i _ => n2 - (intOf i).toNat)
  case atStart => exact ⟨0, Nat.zero_le _, rfl, by simp, Below.refl _ _⟩
  case round =>
    obtain ⟨k, hk, rfl, hno, hb⟩ := hrel
    by_cases hlt : k < n2
    · have hkl : k < ks.length := by omega
      obtain ⟨a, rfl, -, hcell⟩ := (h2.below (hb.mono hB2)).kind hlt hkl
      have hat := firstK_at ks k hkl hno
      have hsn : ¬ 0 < wt ks[k] → ∀ x ∈ ks.take (k + 1), ¬ 0 < wt x := fun hne f hf => by
        rw [list_take_snoc ks k hkl] at hf
        rcases List.mem_append.1 hf with h1 | h1
        · exact hno f h1
        · rw [List.mem_singleton.1 h1]; exact hne
      have hbz := hb.size
      obtain ⟨x, hx⟩ : ∃ x, x = ks[k] := ⟨_, rfl⟩
      rw [← hx] at hcell hsn hat
      obtain ⟨v, hv⟩ : ∃ v, v = wt x := ⟨_, rfl⟩
      have q1 := q wr hb x
      rw [← hv] at hsn q1 hat
      have HS := hide hsn
      have HA := hide hat
      clear hx hv hno hsn hat
      by_cases hgt : 0 < v
      · have hf := HR.out.trans (HA.out hgt)
        subst hf
        go_wp2_with fail
        refine q1.mono ?_
        rintro e w2 ⟨rfl, k2⟩
        go_wp2
        go_ret2
        exact ⟨rfl, hb.trans (k2.mono hbz)⟩
      · go_wp2_with fail
        refine q1.mono ?_
        rintro e w2 ⟨rfl, k2⟩
        go_wp2
        go_roundw
        case rel => exact ⟨k + 1, by omega, by go_num, HS.out hgt, hb.trans (k2.mono hbz)⟩
        case measure => simp [intOf]; omega
    · have hfin : ks.take k = ks := List.take_of_length_le (by have := HL.out; omega)
      rw [hfin] at hno
      have hF := HR.out.trans (firstK_none hno)
      subst hF
      clear hfin hno
      go_wp2
      go_ret2
      exact ⟨rfl, hb⟩

set_option maxRecDepth 100000 in
set_option maxHeartbeats 1600000 in
theorem others_any (A A2 : Option Addr) (n c B n2 c2 B2 : Nat) (vs ms : List (List UInt8)) (w : World) (h : Rd w B 1 A n (scells vs)) (hB : B ≤ w.heap.size) (hn : n ≤ 1000) (hok : ∀ v ∈ vs, v.length ≤ 1000000) (h2 : Rd w B2 1 A2 n2 (scells ms)) (hB2 : B2 ≤ w.heap.size) (hn2 : n2 ≤ 2000000000) (hms : ∀ v ∈ ms, v.length ≤ 1000000) :
    Calls Tryz.prog 33 #[.slice A n c, .slice A2 n2 c2] w fun e w' => e = .returned (.bool (othersL vs ms)) ∧ Below w.heap.size w w' := by
  have hlen : ms.length = n2 := by have := h2.1; simpa [scells] using this
  have q := fun (W : World) (b : Below w.heap.size w W) (s : ByteArray) => q_any A n c B vs s W (h.below (b.mono hB)) (Nat.le_trans hB b.size) hn hok
  have HL := hide hlen
  have HM := hide hms
  have hle : n2 ≤ ms.length := by omega
  clear h hok hlen hms
  unfold othersL
  obtain ⟨r, hr⟩ : ∃ r, r = ms.all (otherB vs) := ⟨_, rfl⟩
  rw [← hr]
  have HR := hide hr
  clear hr
  go_enter Tryz.func33, Tryz.ntmps33
  go_wp2_with fail
  go_loopw [9] (fun i wr => ∃ k : Nat, k ≤ n2 ∧ i = .int .i64 k ∧ (ms.take k).all (otherB vs) = true ∧ Below w.heap.size w wr) (fun i _ => n2 - (intOf i).toNat)
  case atStart => exact ⟨0, Nat.zero_le _, rfl, rfl, Below.refl _ _⟩
  case round =>
    obtain ⟨k, hk, rfl, hall, hb⟩ := hrel
    by_cases hlt : k < n2
    · have hkl : k < ms.length := by omega
      obtain ⟨a, rfl, -, hcell⟩ := (h2.below (hb.mono hB2)).text hlt hkl
      have hsn := others_snoc (otherB vs) ms k hkl
      have hof := others_of (otherB vs) ms k hkl
      rw [hall, Bool.true_and] at hsn
      have hxs := HM.out ms[k] (List.getElem_mem hkl)
      have hbz := hb.size
      obtain ⟨x, hx⟩ : ∃ x, x = ms[k] := ⟨_, rfl⟩
      rw [← hx] at hcell hsn hxs hof
      have hl := fun W => lower_any ⟨x.toArray⟩ W (by rw [mk_size]; omega)
      rw [mk_list] at hl
      have hox : otherB vs x = decide (qL vs (if lowL x = xgzL then kindL 1 else lowL x) ≠ 0) := rfl
      obtain ⟨y, hy⟩ : ∃ y, y = lowL x := ⟨_, rfl⟩
      rw [← hy] at hl hox
      have hq : ((⟨y.toArray⟩ : ByteArray).toList == [120, 45, 103, 122, 105, 112]) = decide (y = xgzL) := by rw [ByteArray.toList_eq, Bool.eq_iff_iff, decide_eq_true_iff]; simp [xgzL]
      obtain ⟨sx, hsx⟩ : ∃ sx : ByteArray, sx = ⟨x.toArray⟩ := ⟨_, rfl⟩
      obtain ⟨sy, hsy⟩ : ∃ sy : ByteArray, sy = ⟨y.toArray⟩ := ⟨_, rfl⟩
      rw [← hsx] at hcell
      simp only [← hsx, ← hsy] at hl
      rw [← hsy] at hq
      by_cases hg : y = xgzL
      · have q1 := fun W (b : Below w.heap.size w W) => q W b ⟨#[103, 122, 105, 112]⟩
        change ∀ W, Below w.heap.size w W → Calls Tryz.prog 45 _ W (fun e w' => e = .returned (.int .i64 (qL vs (kindL 1))) ∧ Below W.heap.size W w') at q1
        rw [if_pos hg] at hox
        rw [decide_eq_true hg] at hq
        obtain ⟨v, hv⟩ : ∃ v, v = qL vs (kindL 1) := ⟨_, rfl⟩
        rw [← hv] at hox
        rw [hox] at hsn hof
        simp only [← hv] at q1
        clear hx hy hsx hsy hv hall hg hox
        by_cases h0 : v = 0
        · subst h0
          have hF := HR.out.trans (hof rfl)
          subst hF
          clear hsn hof
          go_wp2_with fail
          refine (hl wr).mono ?_
          rintro e w2 ⟨rfl, k2⟩
          have t2 := hb.trans (k2.mono hbz)
          go_wp2_with fail
          refine (q1 w2 t2).mono ?_
          rintro e w3 ⟨rfl, k3⟩
          go_wp2
          go_ret
          exact ⟨rfl, t2.trans (k3.mono t2.size)⟩
        · have e0 : ((v : Int) == 0) = false := by simpa using h0
          rw [decide_eq_true h0] at hsn
          have HS := hide hsn
          clear hsn hof h0
          go_wp2_with fail
          refine (hl wr).mono ?_
          rintro e w2 ⟨rfl, k2⟩
          have t2 := hb.trans (k2.mono hbz)
          go_wp2_with fail
          refine (q1 w2 t2).mono ?_
          rintro e w3 ⟨rfl, k3⟩
          go_wp2
          go_roundw
          case rel => exact ⟨k + 1, by omega, by go_num, HS.out, t2.trans (k3.mono t2.size)⟩
          case measure => simp [intOf]; omega
      · have hsl : sy.data.toList = y := by rw [hsy]
        have q1 := fun W (b : Below w.heap.size w W) => q W b sy
        rw [hsl] at q1
        rw [if_neg hg] at hox
        rw [decide_eq_false hg] at hq
        obtain ⟨v, hv⟩ : ∃ v, v = qL vs y := ⟨_, rfl⟩
        rw [← hv] at hox
        rw [hox] at hsn hof
        simp only [← hv] at q1
        clear hx hy hsx hsy hv hall hg hox hsl
        by_cases h0 : v = 0
        · subst h0
          have hF := HR.out.trans (hof rfl)
          subst hF
          clear hsn hof
          go_wp2_with fail
          refine (hl wr).mono ?_
          rintro e w2 ⟨rfl, k2⟩
          have t2 := hb.trans (k2.mono hbz)
          go_wp2_with fail
          refine (q1 w2 t2).mono ?_
          rintro e w3 ⟨rfl, k3⟩
          go_wp2
          go_ret
          exact ⟨rfl, t2.trans (k3.mono t2.size)⟩
        · have e0 : ((v : Int) == 0) = false := by simpa using h0
          rw [decide_eq_true h0] at hsn
          have HS := hide hsn
          clear hsn hof h0
          go_wp2_with fail
          refine (hl wr).mono ?_
          rintro e w2 ⟨rfl, k2⟩
          have t2 := hb.trans (k2.mono hbz)
          go_wp2_with fail
          refine (q1 w2 t2).mono ?_
          rintro e w3 ⟨rfl, k3⟩
          go_wp2
          go_roundw
          case rel => exact ⟨k + 1, by omega, by go_num, HS.out, t2.trans (k3.mono t2.size)⟩
          case measure => simp [intOf]; omega
    · have hT : ms.all (otherB vs) = true := by rw [List.take_of_length_le (by have := HL.out; omega)] at hall; exact hall
      have hT2 := HR.out.trans hT
      subst hT2
      clear hall hT
      go_wp2
      go_ret
      exact ⟨rfl, hb⟩
end Go.Proofs.YtgdjlmpfjmakkaaGreatDoor
