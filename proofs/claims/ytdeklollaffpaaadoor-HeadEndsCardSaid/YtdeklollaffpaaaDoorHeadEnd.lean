/- head.End and the reference's End. -/
import Derived.Test.YtdeklollaffpaaaDoorHeadAns
import Derived.Test.YtdeklollaffpaaaDoorEndSpec
namespace Go.Proofs.YtdeklollaffpaaaDoor
open Go.RowKit

set_option maxRecDepth 100000 in
set_option maxHeartbeats 3200000 in
theorem crlf_any (s : ByteArray) (i : Nat) (w : World) (hi : i ≤ 1000000) :
    Calls Tryd.prog 23 #[.string s, .int .i64 i] w fun e w' => e = .returned (.bool (Lib.occAt s.data.toList crlfL i)) ∧ w = w' := by
  have hw1 : IntKind.i64.wrap ((i : Int) + 1) = (i : Int) + 1 := by simp [IntKind.wrap, IntKind.bits, IntKind.signed]; omega
  by_cases hlt : i + 1 < s.size
  · have hlt' : i + 1 < s.data.toList.length := by rw [← size_of]; exact hlt
    rw [occ_step hlt']
    have e0 : s.data.toList[i] = s[i] := rfl
    have e1 : s.data.toList[i + 1] = s[i + 1] := rfl
    rw [e0, e1]
    have hlt1 : ((i : Int) + 1) < (s.size : Int) := by omega
    obtain ⟨x, hx⟩ : ∃ x, s[i] = x := ⟨_, rfl⟩
    obtain ⟨y, hy⟩ : ∃ x, s[i + 1] = x := ⟨_, rfl⟩
    rw [hx, hy]
    have hti : ((i : Int) + 1).toNat = i + 1 := by omega
    rcases hc1 : (x == 13) with _ | _
    · have h1 : ((x.toNat : Int) == 13) = false := by
        rw [beq_eq_false_iff_ne] at hc1 ⊢
        intro h; apply hc1; apply UInt8.toNat_inj.1; simp; omega
      clear hc1
      go_enter Tryd.func23, Tryd.ntmps23
      go_wp2_with fail
      go_ret
      exact ⟨rfl, rfl⟩
    · have h1 : ((x.toNat : Int) == 13) = true := by
        have := eq_of_beq hc1; subst this; rfl
      rcases hc2 : (y == 10) with _ | _
      · have h2 : ((y.toNat : Int) == 10) = false := by
          rw [beq_eq_false_iff_ne] at hc2 ⊢
          intro h; apply hc2; apply UInt8.toNat_inj.1; simp; omega
        clear hc1 hc2
        go_enter Tryd.func23, Tryd.ntmps23
        go_wp2_with fail
        go_ret
        exact ⟨rfl, rfl⟩
      · have h2 : ((y.toNat : Int) == 10) = true := by
          have := eq_of_beq hc2; subst this; rfl
        clear hc1 hc2
        go_enter Tryd.func23, Tryd.ntmps23
        go_wp2_with fail
        go_ret
        exact ⟨rfl, rfl⟩
  · have hlt' : ¬ i + 1 < s.data.toList.length := by rw [← size_of]; exact hlt
    rw [occ_short hlt']
    have hlt1 : ¬ ((i : Int) + 1) < (s.size : Int) := by omega
    go_enter Tryd.func23, Tryd.ntmps23
    go_wp2_with fail
    go_ret
    exact ⟨rfl, rfl⟩

set_option maxRecDepth 100000 in
set_option maxHeartbeats 3200000 in
theorem refend_any (A : Option Addr) (n c B : Nat) (bs : List UInt8) (w : World) (h : Rd w B 1 A n (bcells bs)) (hn : n ≤ 100000) :
    Calls Tryd.prog 11 #[.slice A n c] w fun e w' => e = .returned (.tuple #[.int .i64 (endN bs), .int .i64 (endE bs)]) ∧ w' = w := by
  have hlen : bs.length = n := by have := h.1; rw [bcells_length] at this; omega
  have hcv := run_string_of (P := Tryd.prog) 31 9 5 Tryd.underlying31 Tryd.underlying5 Tryd.underlying9 w B n c A bs h
  have hsz : (⟨bs.toArray⟩ : ByteArray).size = n := by rw [mk_size, hlen]
  have qc := fun i w hi => crlf_any ⟨bs.toArray⟩ i w hi
  obtain ⟨s, hs⟩ : ∃ t : ByteArray, t = ⟨bs.toArray⟩ := ⟨_, rfl⟩
  simp only [← hs] at hcv hsz qc
  obtain ⟨rN, hrN⟩ : ∃ x, x = endN bs := ⟨_, rfl⟩
  obtain ⟨rE, hrE⟩ : ∃ x, x = endE bs := ⟨_, rfl⟩
  rw [← hrN, ← hrE]
  have HN := hide hrN
  have HE := hide hrE
  have HL := hide hlen
  have HSZ := hide hsz
  clear hs hrN hrE hlen
  have hsn : (s.size : Int) = (n : Int) := by omega
  clear hsz
  go_enter Tryd.func11, Tryd.ntmps11
  go_wp2_with fail
  go_loopw [5] (fun i wr => ∃ k : Nat, k ≤ n ∧ i = .int .i64 k ∧ (∀ j, j < k → Lib.occAt bs endL j = false) ∧ wr = w) (fun i _ => n - (intOf i).toNat)
  case atStart => exact ⟨0, Nat.zero_le _, rfl, fun j hj => absurd hj (Nat.not_lt_zero _), rfl⟩
  case round =>
    obtain ⟨k, hk, rfl, ha, rfl⟩ := hrel
    have HA := hide ha
    clear ha
    by_cases hc1 : k + 4 ≤ n
    · by_cases hc2 : k + 4 ≤ 16384
      · have i1 : (k : Int) + 4 ≤ (n : Int) := by omega
        have i2 : (k : Int) + 4 ≤ 16384 := by omega
        have qa := qc k wr (by omega)
        have qb := qc (k + 2) wr (by omega)
        rw [show ((k + 2 : Nat) : Int) = (k : Int) + 2 by omega] at qb
        have ho := occ_two bs k
        rcases hA : Lib.occAt bs crlfL k with _ | _
        · rw [hA] at qa ho
          have HO := hide ho
          clear ho hA qb
          go_wp2_with fail
          refine qa.mono ?_
          rintro e w1 ⟨rfl, rfl⟩
          go_wp2_with fail
          go_roundw
          case rel =>
            refine ⟨k + 1, by omega, by go_num, fun j hj => ?_, trivial⟩
            rcases Nat.lt_or_ge j k with h1 | h1
            · exact HA.out j h1
            · obtain rfl : j = k := by omega
              rw [HO.out]; rfl
          case measure => simp [intOf]; omega
        · rcases hB : Lib.occAt bs crlfL (k + 2) with _ | _
          · rw [hA, hB] at ho
            rw [hA] at qa
            rw [hB] at qb
            have HO := hide ho
            clear ho hA hB
            go_wp2_with fail
            refine qa.mono ?_
            rintro e w1 ⟨rfl, rfl⟩
            go_wp2_with fail
            refine qb.mono ?_
            rintro e w1 ⟨rfl, rfl⟩
            go_wp2_with fail
            go_roundw
            case rel =>
              refine ⟨k + 1, by omega, by go_num, fun j hj => ?_, trivial⟩
              rcases Nat.lt_or_ge j k with h1 | h1
              · exact HA.out j h1
              · obtain rfl : j = k := by omega
                rw [HO.out]; rfl
            case measure => simp [intOf]; omega
          · rw [hA, hB] at ho
            rw [hA] at qa
            rw [hB] at qb
            obtain ⟨e1, e2⟩ := end_hit (endI_hit hc2 ho HA.out)
            rw [← HE.out] at e1
            rw [← HN.out] at e2
            subst e1 e2
            clear ho hA hB
            go_wp2_with fail
            refine qa.mono ?_
            rintro e w1 ⟨rfl, rfl⟩
            go_wp2_with fail
            refine qb.mono ?_
            rintro e w1 ⟨rfl, rfl⟩
            go_wp2_with fail
            go_ret2
            exact ⟨by simp, rfl⟩
      · have i1 : (k : Int) + 4 ≤ (n : Int) := by omega
        have i2 : ¬ (k : Int) + 4 ≤ 16384 := by omega
        obtain ⟨e1, e2⟩ := end_miss (endI_miss (k := k) (by right; omega) HA.out)
        rw [← HE.out, HL.out, if_pos (by omega)] at e1
        rw [← HN.out] at e2
        subst e1 e2
        have i3 : (16384 : Int) ≤ (n : Int) := by omega
        go_wp2_with fail
        go_ret2
        exact ⟨rfl, rfl⟩
    · have i1 : ¬ (k : Int) + 4 ≤ (n : Int) := by omega
      obtain ⟨e1, e2⟩ := end_miss (endI_miss (k := k) (by left; rw [HL.out]; omega) HA.out)
      rw [← HE.out, HL.out] at e1
      rw [← HN.out] at e2
      by_cases h16 : 16384 ≤ n
      · rw [if_pos h16] at e1
        subst e1 e2
        have i3 : (16384 : Int) ≤ (n : Int) := by omega
        go_wp2_with fail
        go_ret2
        exact ⟨rfl, rfl⟩
      · rw [if_neg h16] at e1
        subst e1 e2
        have i3 : ¬ (16384 : Int) ≤ (n : Int) := by omega
        go_wp2_with fail
        go_ret2
        exact ⟨rfl, rfl⟩

theorem bytesOf_nums (l : List UInt8) : Lib.bytesOf (l.map fun b => (b.toNat : Int)) = l := by
  unfold Lib.bytesOf
  rw [List.map_map]
  conv => rhs; rw [← List.map_id l]
  refine List.map_congr_left fun b _ => ?_
  simp
set_option maxRecDepth 100000 in
set_option maxHeartbeats 3200000 in
theorem headend_any (A : Option Addr) (n c B : Nat) (bs : List UInt8) (mx : Int) (w : World) (h : Rd w B 1 A n (bcells bs)) (hB : B ≤ w.heap.size) (hn : n ≤ 100000) (hnc : n ≤ c) (hA : A = none → c = 0) (hm : w.cell? ⟨0, 0, none⟩ = some (.int .i64 mx)) :
    Calls Tryd.prog 10 #[.slice A n c] w fun e w' => e = .returned (.tuple #[.int .i64 (endN bs), .int .i64 (endE bs)]) ∧ Below w.heap.size w w' := by
  have hlen : bs.length = n := by have := h.1; rw [bcells_length] at this; omega
  have hmb : 0 < w.heap.size := World.block_lt_of_cell? w _ hm
  have kc := fun (w : World) (C : Array Value) (n c : Nat) => Lib.run_convert_bytes_const (P := Tryd.prog) w 31 5 C n c Tryd.underlying31 Tryd.underlying5
  obtain ⟨w2, hw2⟩ : ∃ x, x = w.alloc (.cells #[.int .u8 13, .int .u8 10, .int .u8 13, .int .u8 10] 5 (4, 5)) := ⟨_, rfl⟩
  have b2 : Below w.heap.size w w2 := by rw [hw2]; exact (Below.refl _ _).alloc (Nat.le_refl _) _
  have hm2 : w2.cell? ⟨0, 0, none⟩ = some (.int .i64 mx) := (b2.cell (p := ⟨0, 0, none⟩) hmb).trans hm
  have hcy : ∀ i, i < 4 → w2.cell? ((⟨w.heap.size, 0, none⟩ : Addr).add i) = some (.int .u8 (([13, 10, 13, 10] : List Int).getD i 0)) := fun i hi => by
    rw [Addr.add_lit, hw2, cell_of_row _ w.heap.size _ _ _ (4, 5) (heap_alloc_new w _)]
    match i, hi with
    | 0, _ => rfl
    | 1, _ => rfl
    | 2, _ => rfl
    | 3, _ => rfl
  obtain ⟨m, hmn⟩ : ∃ m, m = min n 16384 := ⟨_, rfl⟩
  have hidx : ∃ r : Int, r = endI bs ∧ (Calls Tryd.prog 22 #[.slice A m c, .slice (some ⟨w.heap.size, 0, none⟩) 4 4] w2 fun e w' => e = .returned (.int .i64 r) ∧ Below w2.heap.size w2 w') := by
    rcases A with _ | a
    · have h0 : n = 0 := by
        rcases h.2 with h0 | ⟨_, h0, _⟩
        · exact h0
        · cases h0
      subst h0
      obtain rfl : c = 0 := hA rfl
      obtain rfl : m = 0 := by omega
      obtain rfl : bs = [] := List.eq_nil_of_length_eq_zero hlen
      refine ⟨_, rfl, (Tryd.bytes_Index_nil (some ⟨w.heap.size, 0, none⟩) 4 4 w2 (by omega) (by omega)).mono ?_⟩
      rintro e w' ⟨rfl, rfl⟩
      exact ⟨rfl, Below.refl _ _⟩
    · have hx := (Tryd.bytes_Index_at a ⟨w.heap.size, 0, none⟩ m c 4 4 ((bs.take m).map fun b => (b.toNat : Int)) [13, 10, 13, 10] mx w2 (by simp; omega) rfl (by intro x hx; obtain ⟨b, _, rfl⟩ := List.mem_map.1 hx; have := b.toNat_lt; omega) (by decide)
        (fun i hi => by
          obtain ⟨a', ha, hab, hc⟩ := h.at_ (k := i) (by omega)
          cases ha
          have hbi : i < bs.length := by omega
          have hbt : i < (bs.take m).length := by rw [List.length_take]; omega
          have := hc i _ (bcells_get bs i hbi)
          rw [b2.cell (by rw [addr_add_block]; omega), this, List.getD_eq_getElem?_getD, List.getElem?_map, List.getElem?_eq_getElem hbt, List.getElem_take]
          rfl) hcy (by omega) (by omega) (by omega) hm2)
      rw [bytesOf_nums] at hx
      refine ⟨_, rfl, hx.mono ?_⟩
      rintro e w' ⟨rfl, q, rfl⟩
      refine ⟨?_, below_drewN (Below.refl _ _)⟩
      have : bs.take m = bs.take 16384 := by
        rw [hmn, ← hlen]
        rcases Nat.le_total bs.length 16384 with h1 | h1
        · rw [Nat.min_eq_left h1, List.take_length, List.take_of_length_le h1]
        · rw [Nat.min_eq_right h1]
      rw [this]
      rfl
  obtain ⟨r, hr, hq⟩ := hidx
  have hm1 : min (n : Int) 16384 = (m : Int) := by omega
  have hmle : m ≤ n := by omega
  have hmc : m ≤ c := by omega
  obtain ⟨rN, hrN⟩ : ∃ x, x = endN bs := ⟨_, rfl⟩
  obtain ⟨rE, hrE⟩ : ∃ x, x = endE bs := ⟨_, rfl⟩
  rw [← hrN, ← hrE]
  have t : ∀ w', Below w2.heap.size w2 w' → Below w.heap.size w w' := fun w' bb => b2.trans (bb.mono b2.size)
  have kcw := kc w #[.int .u8 13, .int .u8 10, .int .u8 13, .int .u8 10] 4 4
  change (convert 31 31 _).run Tryd.prog _ = .ok _ (w.alloc (.cells #[.int .u8 13, .int .u8 10, .int .u8 13, .int .u8 10] 5 (4, 5))) at kcw
  rw [← hw2] at kcw
  have HW2 := hide hw2
  rcases Lib.index_spec (bs.take 16384) endL with ⟨hi, _⟩ | ⟨k, hi, hkl, hocc, _⟩
  · change endI bs = -1 at hi
    obtain ⟨e1, e2⟩ := end_miss hi
    rw [hi] at hr
    rw [← hrE, hlen] at e1
    rw [← hrN] at e2
    subst hr
    by_cases h16 : 16384 ≤ n
    · rw [if_pos h16] at e1
      subst e1 e2
      have i3 : (16384 : Int) ≤ (n : Int) := by omega
      clear hmn hw2 hcy hm2 hm hi h hlen hrN hrE kc
      go_enter Tryd.func10, Tryd.ntmps10
      go_wp2_with fail
      refine hq.mono ?_
      rintro e w3 ⟨rfl, b3⟩
      go_wp2_with fail
      go_ret2
      exact ⟨rfl, t _ b3⟩
    · rw [if_neg h16] at e1
      subst e1 e2
      have i3 : ¬ (16384 : Int) ≤ (n : Int) := by omega
      clear hmn hw2 hcy hm2 hm hi h hlen hrN hrE kc
      go_enter Tryd.func10, Tryd.ntmps10
      go_wp2_with fail
      refine hq.mono ?_
      rintro e w3 ⟨rfl, b3⟩
      go_wp2_with fail
      go_ret2
      exact ⟨rfl, t _ b3⟩
  · change endI bs = k at hi
    obtain ⟨e1, e2⟩ := end_hit hi
    rw [hi] at hr
    rw [← hrE] at e1
    rw [← hrN] at e2
    subst hr e1 e2
    have hk16 : (k : Int) ≤ 100000 := by
      have h1 : (bs.take 16384).length ≤ 16384 := by rw [List.length_take]; omega
      omega
    have i4 : (0 : Int) ≤ (k : Int) := by omega
    clear hkl
    clear hmn hw2 hcy hm2 hm hi h hlen hrN hrE kc hocc
    go_enter Tryd.func10, Tryd.ntmps10
    go_wp2_with fail
    refine hq.mono ?_
    rintro e w3 ⟨rfl, b3⟩
    go_wp2_with fail
    go_ret2
    exact ⟨by simp, t _ b3⟩
end Go.Proofs.YtdeklollaffpaaaDoor
