/- strconv.FormatUint at base 10. -/
import Derived.Test.YtbplnglmjcmfiaaGreatDoorShelf5
import Derived.Test.YtbplnglmjcmfiaaGreatDoorOwn
import Derived.Deep.DeepCutAuto
import Derived.Lib.ItoaMem
namespace Go.Proofs.YtbplnglmjcmfiaaGreatDoor
open Go.RowKit
set_option linter.unusedVariables false
set_option linter.unusedSimpArgs false

theorem holds_zero24w (w : World) (T : TypeId) (nd : Nat) (hs : nd ≤ 24) : Go.Sort.Holds (fun (b : UInt8) => Value.int .u8 (b.toNat : Int)) (w.alloc (.cells Lib.zeros24 T)) w.heap.size 0 (Array.replicate nd (0 : UInt8)) := fun j hj => by
  have hj' : j < nd := by simpa using hj
  refine ⟨?_, World.frozen?_alloc_new _ _ _ _⟩
  rw [World.cell?_alloc_new, Lib.zeros24_at _ (by omega), getElem!_pos _ j hj]
  simp
set_option maxRecDepth 100000 in
set_option maxHeartbeats 3200000 in
theorem fmtuint0_any (u : Nat) (hu : 100 ≤ u) (hu64 : u < 18446744073709551616) (w : World) (htab : Lib.TabIs Tryz.prog w "internal/strconv.uint64pow10" .u64 Lib.pow10Tab) :
    Calls Tryz.prog 99 #[.int .u64 u, .int .i64 10] w fun e w' => e = .returned (.string ⟨(Lib.decDigits u).toArray⟩) ∧ Below w.heap.size w w' := by
  have hnd20 : Lib.nDigits u ≤ 20 := by have := Lib.numDigits_eq u (by omega) hu64; split at this <;> omega
  obtain ⟨a, ha⟩ : ∃ a, w.heap.size = a := ⟨_, rfl⟩
  have hH0 := holds_zero24w w 227 (Lib.nDigits u) (by omega)
  have htab1 := Lib.tabIs_alloc htab (.cells Lib.zeros24 227)
  have b1 : Below a w (w.alloc (.cells Lib.zeros24 227)) := (Below.refl _ _).alloc (Nat.le_of_eq ha.symm) _
  rw [ha] at hH0
  unfold Lib.zeros24 at hH0 htab1 b1
  have hlt : ¬ (u : Int) < 100 := by omega
  go_enter Tryz.func99, Tryz.ntmps99
  go_upto_region 5 with (fail)
  generalize w.alloc _ = w1 at hH0 htab1 b1 ⊢
  go_wp2_with fail
  refine (Tryz.internal_strconv_numDigits u (by omega) hu64 w1 htab1).mono ?_
  rintro e w' ⟨rfl, rfl⟩
  obtain ⟨nd, hnd⟩ : ∃ n, Lib.nDigits u = n := ⟨_, rfl⟩
  have hfmt := Tryz.internal_strconv_formatBase10 a 0 24 u (Array.replicate (Lib.nDigits u) 0) w' hH0 (by rw [Array.size_replicate]; exact Lib.lt_pow_nDigits u) hu64 (by rw [Array.size_replicate]; omega)
  rw [Array.size_replicate, hnd] at hfmt
  have hal : Tryz.prog.arrayLen 227 = 24 := by kernel_rfl
  have hsl : ∀ W, (Instr.sliceAt 227 (.pointer (some ⟨a, 0, none⟩)) none (some (.int .i64 (nd : Int))) none).run Tryz.prog W = .ok (.slice (some ⟨a, 0, none⟩) nd 24) W := fun W => by
    rw [run_sliceAt_array_h W 227 ⟨a, 0, none⟩ (by simp [Program.arrayLen, Program.elem, Tryz.underlying227]) .i64 (nd : Int) (by omega) (by rw [hal]; omega)]
    rw [hal, show Tryz.prog.elem 227 = 5 by kernel_rfl]
    go_simp
    all_goals omega
  have hnd2 : nd ≤ 24 := by omega
  rw [hnd]
  have HND := hide hnd
  have HH0 := hide hH0
  clear hnd hnd20 hal hH0
  go_wp2_with fail
  refine hfmt.mono ?_
  rintro e w2 ⟨rfl, k, v', dk, rfl, hF⟩
  have b2 : Below a w ((Go.Sort.putRow (fun (b : UInt8) => Value.int .u8 (b.toNat : Int)) w' a 0 dk).drewN k) :=
    below_drewN ⟨b1.os, b1.tape, b1.output, by simpa [Go.Sort.putRow, Go.Sort.mapBlock] using b1.size, fun k hk => by
      rw [← b1.block k hk]
      simp [Go.Sort.putRow, Go.Sort.mapBlock, Array.getElem?_modify, show a ≠ k by omega]⟩
  have hcv : (convert 22 9 (.slice (some ⟨a, 0, none⟩) nd 24)).run Tryz.prog ((Go.Sort.putRow (fun (b : UInt8) => Value.int .u8 (b.toNat : Int)) w' a 0 dk).drewN k) = .ok (.string ⟨(Lib.decDigits u).toArray⟩) ((Go.Sort.putRow (fun (b : UInt8) => Value.int .u8 (b.toNat : Int)) w' a 0 dk).drewN k) := by
    have h := run_convert_bytes_back (P := Tryz.prog) ((Go.Sort.putRow (fun (b : UInt8) => Value.int .u8 (b.toNat : Int)) w' a 0 dk).drewN k) 22 9 5 ⟨a, 0, none⟩ 24 (Lib.decDigits u) Tryz.underlying22 Tryz.underlying5 Tryz.underlying9 (fun j hj => by
      have hjn : j < Lib.nDigits u := by rw [Lib.decDigits_length] at hj; exact hj
      have hF' := HND.out.symm ▸ hF
      rw [Lib.row_is_numeral hF' j hj, Lib.add_plain, World.cell?_drewN]
      exact Go.Sort.cell?_putRow (fun (b : UInt8) => Value.int .u8 (b.toNat : Int)) _ a 0 _ dk HH0.out (by rw [hF'.size, Array.size_replicate]) j (by rw [hF'.size]; exact hjn))
    rw [Lib.decDigits_length, HND.out] at h
    exact h
  have HB := hide b2
  clear b2 b1 hfmt htab1 hF
  generalize (Go.Sort.putRow _ w' a 0 dk).drewN k = w2 at hcv HB ⊢
  go_wp2_with fail
  go_ret
  rw [ha]
  exact ⟨rfl, HB.out⟩
set_option maxRecDepth 100000 in
set_option maxHeartbeats 800000 in
theorem shnumber_any (u : Nat) (hu : 100 ≤ u) (hu32 : u ≤ 4294967295) (w : World) (htab : Lib.TabIs Tryz.prog w "internal/strconv.uint64pow10" .u64 Lib.pow10Tab) :
    Calls Tryz.prog 29 #[.int .u32 u] w fun e w' => e = .returned (.string (⟨(Lib.decDigits u).toArray⟩ ++ ⟨#[10]⟩)) ∧ Below w.heap.size w w' := by
  have q : Calls Tryz.prog 62 #[.int .u64 u, .int .i64 10] w fun e w' => e = .returned (.string ⟨(Lib.decDigits u).toArray⟩) ∧ Below w.heap.size w w' := by
    have q0 := fmtuint0_any u hu (by omega) w htab
    go_enter Tryz.func62, Tryz.ntmps62
    go_wp2_with fail
    refine q0.mono ?_
    rintro e w1 ⟨rfl, b1⟩
    go_wp2_with fail
    go_ret
    exact ⟨rfl, b1⟩
  have hwr : IntKind.u64.wrap (u : Int) = (u : Int) := by rw [IntKind.wrap_u64]; omega
  have hlen : (Lib.decDigits u).length ≤ 20 := by rw [Lib.decDigits_length]; have := Lib.numDigits_eq u (by omega) (by omega); split at this <;> omega
  obtain ⟨s, hs⟩ : ∃ s : ByteArray, s = ⟨(Lib.decDigits u).toArray⟩ := ⟨_, rfl⟩
  have hsz : s.size ≤ 20 := by rw [hs]; show (Lib.decDigits u).toArray.size ≤ 20; rw [List.size_toArray]; exact hlen
  have hcat : ¬ (9223372036854775807 < s.size + 1) := by omega
  rw [← hs] at q ⊢
  clear hs
  go_enter Tryz.func29, Tryz.ntmps29
  go_wp2_with fail
  refine q.mono ?_
  rintro e w1 ⟨rfl, b1⟩
  go_wp2_with fail
  go_ret
  exact ⟨rfl, b1⟩
end Go.Proofs.YtbplnglmjcmfiaaGreatDoor
