/- head.End. -/
import Derived.Test.YtfifoimnebbflaaGreatDoorEndSpec
import Derived.Test.YtfifoimnebbflaaGreatDoorOwn
import Derived.Test.YtfifoimnebbflaaGreatDoorShelf3
import Derived.Lib.SlBytesConst
namespace Go.Proofs.YtfifoimnebbflaaGreatDoor
open Go.RowKit

theorem bytesOf_nums (l : List UInt8) : Lib.bytesOf (l.map fun b => (b.toNat : Int)) = l := by
  unfold Lib.bytesOf
  rw [List.map_map]
  conv => rhs; rw [← List.map_id l]
  refine List.map_congr_left fun b _ => ?_
  simp
set_option maxRecDepth 100000 in
set_option maxHeartbeats 3200000 in
theorem headend_any (A : Option Addr) (n c B : Nat) (bs : List UInt8) (mx : Int) (w : World) (h : Rd w B 1 A n (bcells bs)) (hB : B ≤ w.heap.size) (hn : n ≤ 100000) (hnc : n ≤ c) (hA : A = none → c = 0) (hm : w.cell? ⟨0, 0, none⟩ = some (.int .i64 mx)) :
    Calls Tryz.prog 23 #[.slice A n c] w fun e w' => e = .returned (.tuple #[.int .i64 (endN bs), .int .i64 (endE bs)]) ∧ Below w.heap.size w w' := by
  have hlen : bs.length = n := by have := h.1; rw [bcells_length] at this; omega
  have hmb : 0 < w.heap.size := World.block_lt_of_cell? w _ hm
  have kc := fun (w : World) (C : Array Value) (n c : Nat) => Lib.run_convert_bytes_const (P := Tryz.prog) w 24 5 C n c Tryz.underlying24 Tryz.underlying5
  obtain ⟨w2, hw2⟩ : ∃ x, x = w.alloc (.cells #[.int .u8 13, .int .u8 10, .int .u8 13, .int .u8 10] 5 (4, 5)) := ⟨_, rfl⟩
  have b2 : Below w.heap.size w w2 := by rw [hw2]; exact (Below.refl _ _).alloc (Nat.le_refl _) _
  have hm2 : w2.cell? ⟨0, 0, none⟩ = some (.int .i64 mx) := (b2.cell (p := ⟨0, 0, none⟩) hmb).trans hm
  have hcy : ∀ i, i < 4 → w2.cell? ((⟨w.heap.size, 0, none⟩ : Addr).add i) = some (.int .u8 (([13, 10, 13, 10] : List Int).getD i 0)) := fun i hi => by
    rw [Addr.add_lit, hw2, cell_of_row _ w.heap.size _ _ _ (4, 5) (heap_alloc_new w _)]
    match i, hi with
    | 0, _ => rfl
    | 1, _ => rfl
    | 2, _ => rfl
    | 3, _ => rfl
  obtain ⟨m, hmn⟩ : ∃ m, m = min n 16384 := ⟨_, rfl⟩
  have hidx : ∃ r : Int, r = endI bs ∧ (Calls Tryz.prog 51 #[.slice A m c, .slice (some ⟨w.heap.size, 0, none⟩) 4 4] w2 fun e w' => e = .returned (.int .i64 r) ∧ Below w2.heap.size w2 w') := by
    rcases A with _ | a
    · have h0 : n = 0 := by
        rcases h.2 with h0 | ⟨_, h0, _⟩
        · exact h0
        · cases h0
      subst h0
      obtain rfl : c = 0 := hA rfl
      obtain rfl : m = 0 := by omega
      obtain rfl : bs = [] := List.eq_nil_of_length_eq_zero hlen
      refine ⟨_, rfl, (Tryz.bytes_Index_nil (some ⟨w.heap.size, 0, none⟩) 4 4 w2 (by omega) (by omega)).mono ?_⟩
      rintro e w' ⟨rfl, rfl⟩
      exact ⟨rfl, Below.refl _ _⟩
    · have hx := (Tryz.bytes_Index_at a ⟨w.heap.size, 0, none⟩ m c 4 4 ((bs.take m).map fun b => (b.toNat : Int)) [13, 10, 13, 10] mx w2 (by simp; omega) rfl (by intro x hx; obtain ⟨b, _, rfl⟩ := List.mem_map.1 hx; have := b.toNat_lt; omega) (by decide)
        (fun i hi => by
          obtain ⟨a', ha, hab, hc⟩ := h.at_ (k := i) (by omega)
          cases ha
          have hbi : i < bs.length := by omega
          have hbt : i < (bs.take m).length := by rw [List.length_take]; omega
          have := hc i _ (bcells_get bs i hbi)
          rw [b2.cell (by rw [addr_add_block]; omega), this, List.getD_eq_getElem?_getD, List.getElem?_map, List.getElem?_eq_getElem hbt, List.getElem_take]
          rfl) hcy (by omega) (by omega) (by omega) hm2)
      rw [bytesOf_nums] at hx
      refine ⟨_, rfl, hx.mono ?_⟩
      rintro e w' ⟨rfl, q, rfl⟩
      refine ⟨?_, below_drewN (Below.refl _ _)⟩
      have : bs.take m = bs.take 16384 := by
        rw [hmn, ← hlen]
        rcases Nat.le_total bs.length 16384 with h1 | h1
        · rw [Nat.min_eq_left h1, List.take_length, List.take_of_length_le h1]
        · rw [Nat.min_eq_right h1]
      rw [this]
      rfl
  obtain ⟨r, hr, hq⟩ := hidx
  have hm1 : min (n : Int) 16384 = (m : Int) := by omega
  have hmle : m ≤ n := by omega
  have hmc : m ≤ c := by omega
  obtain ⟨rN, hrN⟩ : ∃ x, x = endN bs := ⟨_, rfl⟩
  obtain ⟨rE, hrE⟩ : ∃ x, x = endE bs := ⟨_, rfl⟩
  rw [← hrN, ← hrE]
  have t : ∀ w', Below w2.heap.size w2 w' → Below w.heap.size w w' := fun w' bb => b2.trans (bb.mono b2.size)
  have kcw := kc w #[.int .u8 13, .int .u8 10, .int .u8 13, .int .u8 10] 4 4
  change (convert 24 24 _).run Tryz.prog _ = .ok _ (w.alloc (.cells #[.int .u8 13, .int .u8 10, .int .u8 13, .int .u8 10] 5 (4, 5))) at kcw
  rw [← hw2] at kcw
  have HW2 := hide hw2
  rcases Lib.index_spec (bs.take 16384) endL with ⟨hi, _⟩ | ⟨k, hi, hkl, hocc, _⟩
  · change endI bs = -1 at hi
    obtain ⟨e1, e2⟩ := end_miss hi
    rw [hi] at hr
    rw [← hrE, hlen] at e1
    rw [← hrN] at e2
    subst hr
    by_cases h16 : 16384 ≤ n
    · rw [if_pos h16] at e1
      subst e1 e2
      have i3 : (16384 : Int) ≤ (n : Int) := by omega
      clear hmn hw2 hcy hm2 hm hi h hlen hrN hrE kc
      go_enter Tryz.func23, Tryz.ntmps23
      go_wp2_with fail
      refine hq.mono ?_
      rintro e w3 ⟨rfl, b3⟩
      go_wp2_with fail
      go_ret2
      exact ⟨rfl, t _ b3⟩
    · rw [if_neg h16] at e1
      subst e1 e2
      have i3 : ¬ (16384 : Int) ≤ (n : Int) := by omega
      clear hmn hw2 hcy hm2 hm hi h hlen hrN hrE kc
      go_enter Tryz.func23, Tryz.ntmps23
      go_wp2_with fail
      refine hq.mono ?_
      rintro e w3 ⟨rfl, b3⟩
      go_wp2_with fail
      go_ret2
      exact ⟨rfl, t _ b3⟩
  · change endI bs = k at hi
    obtain ⟨e1, e2⟩ := end_hit hi
    rw [hi] at hr
    rw [← hrE] at e1
    rw [← hrN] at e2
    subst hr e1 e2
    have hk16 : (k : Int) ≤ 100000 := by
      have h1 : (bs.take 16384).length ≤ 16384 := by rw [List.length_take]; omega
      omega
    have i4 : (0 : Int) ≤ (k : Int) := by omega
    clear hkl
    clear hmn hw2 hcy hm2 hm hi h hlen hrN hrE kc hocc
    go_enter Tryz.func23, Tryz.ntmps23
    go_wp2_with fail
    refine hq.mono ?_
    rintro e w3 ⟨rfl, b3⟩
    go_wp2_with fail
    go_ret2
    exact ⟨by simp, t _ b3⟩
end Go.Proofs.YtfifoimnebbflaaGreatDoor
