/- concertinalaw19.light: not too many fields, not too long all together. -/
import Derived.Test.YtmijkefdnfmpiaaDoorFlds
namespace Go.Proofs.YtmijkefdnfmpiaaDoor
open Go.RowKit

/-- All letters. -/
def sumF (fs : List (List UInt8 × List UInt8)) : Nat := (fs.map fun f => f.1.length + f.2.length).sum
def lightS (most sum : Nat) (fs : List (List UInt8 × List UInt8)) : Bool := decide (fs.length ≤ most) && decide (sumF fs ≤ sum)
theorem sumF_snoc (fs : List (List UInt8 × List UInt8)) (k : Nat) (h : k < fs.length) : sumF (fs.take (k + 1)) = sumF (fs.take k) + fs[k].1.length + fs[k].2.length := by
  unfold sumF
  rw [list_take_snoc fs k h, List.map_append, List.sum_append]
  simp only [List.map_cons, List.map_nil, List.sum_cons, List.sum_nil]; omega
theorem sumF_mem : ∀ (fs : List (List UInt8 × List UInt8)), ∀ f ∈ fs, f.1.length + f.2.length ≤ sumF fs
  | [], f, hf => by cases hf
  | x :: fs, f, hf => by
    have ih := sumF_mem fs f
    unfold sumF at ih ⊢
    simp only [List.map_cons, List.sum_cons]
    rcases List.mem_cons.1 hf with rfl | hf
    · omega
    · have := ih hf; omega
theorem sumF_le (b : Nat) : ∀ (fs : List (List UInt8 × List UInt8)), (∀ f ∈ fs, f.1.length ≤ b ∧ f.2.length ≤ b) → sumF fs ≤ fs.length * (2 * b)
  | [], _ => by simp [sumF]
  | f :: fs, h => by
    have ih := sumF_le b fs (fun x hx => h x (by simp [hx]))
    have h0 := h f (by simp)
    unfold sumF at ih ⊢
    simp only [List.map_cons, List.sum_cons, List.length_cons, Nat.add_mul]
    omega
theorem lightS_ok {most sum : Nat} {fs : List (List UInt8 × List UInt8)} (h : lightS most sum fs = true) (hs : sum ≤ 1000000) : fsOk fs ∧ fs.length ≤ most ∧ sumF fs ≤ sum := by
  unfold lightS at h
  simp at h
  refine ⟨fun f hf => ?_, h.1, h.2⟩
  have := sumF_mem fs f hf
  omega

theorem wrap_small {z : Int} (h0 : 0 ≤ z) (h1 : z < 9223372036854775808) : IntKind.i64.wrap z = z := by simp [IntKind.wrap, IntKind.bits, IntKind.signed]; omega

set_option maxRecDepth 100000 in
set_option maxHeartbeats 3200000 in
theorem light19_any (A : Option Addr) (n c B : Nat) (fs : List (List UInt8 × List UInt8)) (w : World) (h : Rd w B 2 A n (fcells fs)) (hn : n ≤ 9223372036854775807) (hz : ∀ f ∈ fs, f.1.length ≤ 140737488351232 ∧ f.2.length ≤ 140737488351232) :
    Calls Tryd.prog 32 #[.slice A n c] w fun e w' => e = .returned (.bool (lightS 100 30000 fs)) ∧ ∃ k, w' = w.drewN k := by
  have hlen := h.flen
  have HLEN := hide hlen
  have hle : n ≤ fs.length := by omega
  clear hlen
  go_enter Tryd.func32, Tryd.ntmps32
  go_wp2_with fail
  go_loopw [3, 4] (fun s i wr => ∃ (k : Nat) (v : Int), k ≤ n ∧ i = .int .i64 k ∧ s = .int .i64 v ∧ (n ≤ 100 → v = sumF (fs.take k)) ∧ ∃ m, wr = w.drewN m) (fun _ i _ => n - (intOf i).toNat)
  case atStart => exact ⟨0, 0, Nat.zero_le _, rfl, rfl, fun _ => rfl, 0, rfl⟩
  case round =>
    obtain ⟨k, v, hk, rfl, rfl, hv, m, rfl⟩ := hrel
    by_cases hlt : k < n
    · have hkl : k < fs.length := by omega
      obtain ⟨b, off, rfl, hbB, e0, e1⟩ := h.fld hlt hkl
      have hsn := sumF_snoc fs k hkl
      have hzk := hz fs[k] (List.getElem_mem hkl)
      have hsl := sumF_le 140737488351232 (fs.take k) (fun f hf => hz f (List.mem_of_mem_take hf))
      rw [List.length_take] at hsl
      obtain ⟨x, hx⟩ : ∃ x, x = fs[k] := ⟨_, rfl⟩
      rw [← hx] at e0 e1 hsn hzk
      have hz1 := mk_size x.1
      have hz2 := mk_size x.2
      obtain ⟨sx, hsx⟩ : ∃ sx : ByteArray, sx = ⟨x.1.toArray⟩ := ⟨_, rfl⟩
      obtain ⟨sv, hsv⟩ : ∃ sv : ByteArray, sv = ⟨x.2.toArray⟩ := ⟨_, rfl⟩
      rw [← hsx] at e0 hz1
      rw [← hsv] at e1 hz2
      rw [← hz1, ← hz2] at hsn
      obtain ⟨q, hq⟩ : ∃ q, q = sumF (fs.take k) := ⟨_, rfl⟩
      rw [← hq] at hsn hv hsl
      have HS := hide hsn
      have HV := hide hv
      have HZ := hide hz
      have hq2 : n ≤ 100 → q ≤ 28147497670246400 := fun h100 => by
        have : min k fs.length ≤ 100 := by omega
        have h2 : min k fs.length * (2 * 140737488351232) ≤ 100 * (2 * 140737488351232) := Nat.mul_le_mul_right _ this
        omega
      have HQ := hide hq2
      clear hx hsx hsv hsn hq hv hsl hz hq2
      go_wp2_with fail
      go_quiet (fail)
      go_wp2
      go_roundw
      case rel =>
        refine ⟨k + 1, _, by omega, by go_num, rfl, fun h100 => ?_, _, rfl⟩
        have h1 := HV.out h100
        have h2 := HQ.out h100
        have h3 : IntKind.i64.wrap ((q : Int) + (x.1.length : Int)) = q + x.1.length := wrap_small (by omega) (by omega)
        rw [h1, HS.out, h3, wrap_small (by omega) (by omega)]
        omega
      case measure => simp [intOf]; omega
    · have hL := HLEN.out
      rw [List.take_of_length_le (by omega)] at hv
      by_cases h100 : n ≤ 100
      · have hv' := hv h100
        subst hv'
        have hfin : lightS 100 30000 fs = decide (sumF fs ≤ 30000) := by unfold lightS; rw [hL]; simp [h100]
        have HF := hide hfin
        clear hv hfin
        go_wp2
        go_ret
        exact ⟨ret_bool (by rw [HF.out]; exact decide_eq_decide.2 (by omega)), _, rfl⟩
      · have hfin : lightS 100 30000 fs = false := by unfold lightS; rw [hL]; simp [h100]
        have HF := hide hfin
        clear hv hfin
        go_wp2
        go_ret
        exact ⟨ret_bool (by rw [HF.out]), _, rfl⟩
end Go.Proofs.YtmijkefdnfmpiaaDoor
