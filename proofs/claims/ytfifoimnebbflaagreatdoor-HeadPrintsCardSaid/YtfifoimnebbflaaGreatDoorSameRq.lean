/- concertinalaw17.light; the reference's SameRequest and SameResponse. -/
import Derived.Test.YtfifoimnebbflaaGreatDoorGets
import Derived.Test.YtfifoimnebbflaaGreatDoorSameF
import Derived.Test.YtfifoimnebbflaaGreatDoorTold
import Derived.Deep.QuietTactic
import Derived.BigQuiet
namespace Go.Proofs.YtfifoimnebbflaaGreatDoor
open Go.RowKit

set_option maxRecDepth 100000 in
set_option maxHeartbeats 3200000 in
theorem light17_any (A : Option Addr) (n c B : Nat) (fs : List (List UInt8 × List UInt8)) (w : World) (h : Rd w B 2 A n (fcells fs)) (hn : n ≤ 9223372036854775807) (hz : ∀ f ∈ fs, f.1.length ≤ 140737488351232 ∧ f.2.length ≤ 140737488351232) :
    Calls Tryz.prog 17 #[.slice A n c] w fun e w' => e = .returned (.bool (lightS 100 30000 fs)) ∧ ∃ k, w' = w.drewN k := by
  have hlen := h.flen
  have HLEN := hide hlen
  have hle : n ≤ fs.length := by omega
  clear hlen
  go_enter Tryz.func17, Tryz.ntmps17
  go_wp2_with fail
  go_loopw [3, 4] (fun s i wr => ∃ (k : Nat) (v : Int), k ≤ n ∧ i = .int .i64 k ∧ s = .int .i64 v ∧ (n ≤ 100 → v = sumF (fs.take k)) ∧ ∃ m, wr = w.drewN m) (fun _ i _ => n - (intOf i).toNat)
  case atStart => exact ⟨0, 0, Nat.zero_le _, rfl, rfl, fun _ => rfl, 0, rfl⟩
  case round =>
    obtain ⟨k, v, hk, rfl, rfl, hv, m, rfl⟩ := hrel
    by_cases hlt : k < n
    · have hkl : k < fs.length := by omega
      obtain ⟨b, off, rfl, hbB, e0, e1⟩ := h.fld hlt hkl
      have hsn := sumF_snoc fs k hkl
      have hzk := hz fs[k] (List.getElem_mem hkl)
      have hsl := sumF_le 140737488351232 (fs.take k) (fun f hf => hz f (List.mem_of_mem_take hf))
      rw [List.length_take] at hsl
      obtain ⟨x, hx⟩ : ∃ x, x = fs[k] := ⟨_, rfl⟩
      rw [← hx] at e0 e1 hsn hzk
      have hz1 := mk_size x.1
      have hz2 := mk_size x.2
      obtain ⟨sx, hsx⟩ : ∃ sx : ByteArray, sx = ⟨x.1.toArray⟩ := ⟨_, rfl⟩
      obtain ⟨sv, hsv⟩ : ∃ sv : ByteArray, sv = ⟨x.2.toArray⟩ := ⟨_, rfl⟩
      rw [← hsx] at e0 hz1
      rw [← hsv] at e1 hz2
      rw [← hz1, ← hz2] at hsn
      obtain ⟨q, hq⟩ : ∃ q, q = sumF (fs.take k) := ⟨_, rfl⟩
      rw [← hq] at hsn hv hsl
      have HS := hide hsn
      have HV := hide hv
      have HZ := hide hz
      have hq2 : n ≤ 100 → q ≤ 28147497670246400 := fun h100 => by
        have : min k fs.length ≤ 100 := by omega
        have h2 : min k fs.length * (2 * 140737488351232) ≤ 100 * (2 * 140737488351232) := Nat.mul_le_mul_right _ this
        omega
      have HQ := hide hq2
      clear hx hsx hsv hsn hq hv hsl hz hq2
      go_wp2_with fail
      go_quiet (fail)
      go_wp2
      go_roundw
      case rel =>
        refine ⟨k + 1, _, by omega, by go_num, rfl, fun h100 => ?_, _, rfl⟩
        have h1 := HV.out h100
        have h2 := HQ.out h100
        rw [h1, HS.out]
        rw [Go.IntWalk.wrap64_in ((q : Int) + (x.1.length : Int)) (by omega), Go.IntWalk.wrap64_in _ (by omega)]
        omega
      case measure => simp [intOf]; omega
    · have hL := HLEN.out
      rw [List.take_of_length_le (by omega)] at hv
      by_cases h100 : n ≤ 100
      · have hv' := hv h100
        subst hv'
        have hfin : lightS 100 30000 fs = decide (sumF fs ≤ 30000) := by unfold lightS; rw [hL]; simp [h100]
        have HF := hide hfin
        clear hv hfin
        go_wp2
        go_ret
        exact ⟨ret_bool (by rw [HF.out]; exact decide_eq_decide.2 (by omega)), _, rfl⟩
      · have hfin : lightS 100 30000 fs = false := by unfold lightS; rw [hL]; simp [h100]
        have HF := hide hfin
        clear hv hfin
        go_wp2
        go_ret
        exact ⟨ret_bool (by rw [HF.out]), _, rfl⟩

set_option maxRecDepth 100000 in
set_option maxHeartbeats 3200000 in
theorem samerq_any (m t : ByteArray) (minor : Int) (A A' : Option Addr) (n c n' c' B B' : Nat) (fs : List (List UInt8 × List UInt8)) (w : World) (h : Rd w B 2 A n (fcells fs)) (h' : Rd w B' 2 A' n' (fcells fs)) (hB : B ≤ w.heap.size) (hB' : B' ≤ w.heap.size) (hn : n ≤ 140737488355328) (hn' : n' ≤ 140737488355328) :
    Calls Tryz.prog 24 #[.agg #[.string m, .string t, .int .i64 minor, .slice A n c], .agg #[.string m, .string t, .int .i64 minor, .slice A' n' c']] w fun e w' => e = .returned (.bool true) ∧ Below w.heap.size w w' := by
  have q := fun (W : World) (b : Below w.heap.size w W) => samef_any A A' n c n' c' B B' fs fs W (h.below (b.mono hB)) (h'.below (b.mono hB')) hn hn'
  simp only [decide_true] at q
  go_enter Tryz.func24, Tryz.ntmps24
  go_wp2_with fail
  refine (q _ (below_alloc2 _ _ _)).mono ?_
  rintro e w3 ⟨rfl, k, rfl⟩
  go_wp2
  go_ret
  exact ⟨rfl, below_drewN (below_alloc2 _ _ _)⟩

set_option maxRecDepth 100000 in
set_option maxHeartbeats 3200000 in
theorem samers_any (minor status : Int) (s_ : ByteArray) (A A' : Option Addr) (n c n' c' B B' : Nat) (fs : List (List UInt8 × List UInt8)) (w : World) (h : Rd w B 2 A n (fcells fs)) (h' : Rd w B' 2 A' n' (fcells fs)) (hB : B ≤ w.heap.size) (hB' : B' ≤ w.heap.size) (hn : n ≤ 140737488355328) (hn' : n' ≤ 140737488355328) :
    Calls Tryz.prog 26 #[.agg #[.int .i64 minor, .int .i64 status, .string s_, .slice A n c], .agg #[.int .i64 minor, .int .i64 status, .string s_, .slice A' n' c']] w fun e w' => e = .returned (.bool true) ∧ Below w.heap.size w w' := by
  have q := fun (W : World) (b : Below w.heap.size w W) => samef_any A A' n c n' c' B B' fs fs W (h.below (b.mono hB)) (h'.below (b.mono hB')) hn hn'
  simp only [decide_true] at q
  go_enter Tryz.func26, Tryz.ntmps26
  go_wp2_with fail
  refine (q _ (below_alloc2 _ _ _)).mono ?_
  rintro e w3 ⟨rfl, k, rfl⟩
  go_wp2
  go_ret
  exact ⟨rfl, below_drewN (below_alloc2 _ _ _)⟩
end Go.Proofs.YtfifoimnebbflaaGreatDoor
