/- concertinalaw21.light, few and answers. -/
import Derived.Test.YtgdjlmpfjmakkaaDoorPolicySpec
import Derived.Test.YtgdjlmpfjmakkaaDoorEditSmall
import Derived.Test.YtgdjlmpfjmakkaaDoorLightT
import Derived.Test.YtgdjlmpfjmakkaaDoorMedia
import Derived.Test.YtgdjlmpfjmakkaaDoorWorth
import Derived.Test.YtgdjlmpfjmakkaaDoorBox
namespace Go.Proofs.YtgdjlmpfjmakkaaDoor
open Go.RowKit
def fewT (vs : List (List UInt8)) : Bool := decide (vs.length ≤ 100) && decide (sumT vs ≤ 10000)
theorem fewT_ok {vs : List (List UInt8)} (h : fewT vs = true) : (∀ v ∈ vs, v.length ≤ 10000) ∧ vs.length ≤ 100 := by
  unfold fewT at h
  simp at h
  exact ⟨fun v hv => by have := sumT_mem vs v hv; omega, h.1⟩

set_option maxRecDepth 100000 in
set_option maxHeartbeats 3200000 in
theorem light21_any (A : Option Addr) (n c B : Nat) (fs : List (List UInt8 × List UInt8)) (w : World) (h : Rd w B 2 A n (fcells fs)) (hn : n ≤ 9223372036854775807) (hz : ∀ f ∈ fs, f.1.length ≤ 140737488351232 ∧ f.2.length ≤ 140737488351232) :
    Calls Tryd.prog 40 #[.slice A n c] w fun e w' => e = .returned (.bool (lightS 100 30000 fs)) ∧ ∃ k, w' = w.drewN k := by
  have hlen := h.flen
  have HLEN := hide hlen
  have hle : n ≤ fs.length := by omega
  clear hlen
  go_enter Tryd.func40, Tryd.ntmps40
  go_wp2_with fail
  go_loopw [3, 4] (fun s i wr => ∃ (k : Nat) (v : Int), k ≤ n ∧ i = .int .i64 k ∧ s = .int .i64 v ∧ (n ≤ 100 → v = sumF (fs.take k)) ∧ ∃ m, wr = w.drewN m) (fun _ i _ => n - (intOf i).toNat)
  case atStart => exact ⟨0, 0, Nat.zero_le _, rfl, rfl, fun _ => rfl, 0, rfl⟩
  case round =>
    obtain ⟨k, v, hk, rfl, rfl, hv, m, rfl⟩ := hrel
    by_cases hlt : k < n
    · have hkl : k < fs.length := by omega
      obtain ⟨b, off, rfl, hbB, e0, e1⟩ := h.fld hlt hkl
      have hsn := sumF_snoc fs k hkl
      have hzk := hz fs[k] (List.getElem_mem hkl)
      have hsl := sumF_le 140737488351232 (fs.take k) (fun f hf => hz f (List.mem_of_mem_take hf))
      rw [List.length_take] at hsl
      obtain ⟨x, hx⟩ : ∃ x, x = fs[k] := ⟨_, rfl⟩
      rw [← hx] at e0 e1 hsn hzk
      have hz1 := mk_size x.1
      have hz2 := mk_size x.2
      obtain ⟨sx, hsx⟩ : ∃ sx : ByteArray, sx = ⟨x.1.toArray⟩ := ⟨_, rfl⟩
      obtain ⟨sv, hsv⟩ : ∃ sv : ByteArray, sv = ⟨x.2.toArray⟩ := ⟨_, rfl⟩
      rw [← hsx] at e0 hz1
      rw [← hsv] at e1 hz2
      rw [← hz1, ← hz2] at hsn
      obtain ⟨q, hq⟩ : ∃ q, q = sumF (fs.take k) := ⟨_, rfl⟩
      rw [← hq] at hsn hv hsl
      have HS := hide hsn
      have HV := hide hv
      have HZ := hide hz
      have hq2 : n ≤ 100 → q ≤ 28147497670246400 := fun h100 => by
        have : min k fs.length ≤ 100 := by omega
        have h2 : min k fs.length * (2 * 140737488351232) ≤ 100 * (2 * 140737488351232) := Nat.mul_le_mul_right _ this
        omega
      have HQ := hide hq2
      clear hx hsx hsv hsn hq hv hsl hz hq2
      go_wp2_with fail
      go_quiet (fail)
      go_wp2
      go_roundw
      case rel =>
        refine ⟨k + 1, _, by omega, by go_num, rfl, fun h100 => ?_, _, rfl⟩
        have h1 := HV.out h100
        have h2 := HQ.out h100
        rw [h1, HS.out]
        rw [Go.IntWalk.wrap64_in ((q : Int) + (x.1.length : Int)) (by omega), Go.IntWalk.wrap64_in _ (by omega)]
        omega
      case measure => simp [intOf]; omega
    · have hL := HLEN.out
      rw [List.take_of_length_le (by omega)] at hv
      by_cases h100 : n ≤ 100
      · have hv' := hv h100
        subst hv'
        have hfin : lightS 100 30000 fs = decide (sumF fs ≤ 30000) := by unfold lightS; rw [hL]; simp [h100]
        have HF := hide hfin
        clear hv hfin
        go_wp2
        go_ret
        exact ⟨ret_bool (by rw [HF.out]; exact decide_eq_decide.2 (by omega)), _, rfl⟩
      · have hfin : lightS 100 30000 fs = false := by unfold lightS; rw [hL]; simp [h100]
        have HF := hide hfin
        clear hv hfin
        go_wp2
        go_ret
        exact ⟨ret_bool (by rw [HF.out]), _, rfl⟩

set_option maxRecDepth 100000 in
set_option maxHeartbeats 3200000 in
theorem few21_any (A : Option Addr) (n c B : Nat) (vs : List (List UInt8)) (w : World) (h : Rd w B 1 A n (scells vs)) (hn : n ≤ 9223372036854775807) (hz : ∀ v ∈ vs, v.length ≤ 140737488351232) :
    Calls Tryd.prog 41 #[.slice A n c] w fun e w' => e = .returned (.bool (fewT vs)) ∧ w' = w := by
  have hlen : vs.length = n := by have := h.1; simpa [scells] using this
  have HLEN := hide hlen
  have hle : n ≤ vs.length := by omega
  clear hlen
  go_enter Tryd.func41, Tryd.ntmps41
  go_wp2_with fail
  go_loopw [3, 4] (fun s i wr => ∃ (k : Nat) (v : Int), k ≤ n ∧ i = .int .i64 k ∧ s = .int .i64 v ∧ (n ≤ 100 → v = sumT (vs.take k)) ∧ wr = w) (fun _ i _ => n - (intOf i).toNat)
  case atStart => exact ⟨0, 0, Nat.zero_le _, rfl, rfl, fun _ => rfl, rfl⟩
  case round =>
    obtain ⟨k, v, hk, rfl, rfl, hv, hwr⟩ := hrel
    obtain rfl : w = wr := hwr.symm
    by_cases hlt : k < n
    · have hkl : k < vs.length := by omega
      obtain ⟨a, rfl, -, e0⟩ := h.text hlt hkl
      have hsn := sumT_snoc vs k hkl
      have hzk := hz vs[k] (List.getElem_mem hkl)
      have hsl := sumT_le 140737488351232 (vs.take k) (fun f hf => hz f (List.mem_of_mem_take hf))
      rw [List.length_take] at hsl
      obtain ⟨x, hx⟩ : ∃ x, x = vs[k] := ⟨_, rfl⟩
      rw [← hx] at e0 hsn hzk
      have hz1 := mk_size x
      obtain ⟨sx, hsx⟩ : ∃ sx : ByteArray, sx = ⟨x.toArray⟩ := ⟨_, rfl⟩
      rw [← hsx] at e0 hz1
      obtain ⟨q, hq⟩ : ∃ q, q = sumT (vs.take k) := ⟨_, rfl⟩
      rw [← hq] at hsn hv hsl
      have hq2 : n ≤ 100 → q ≤ 14073748835123200 := fun h100 => by
        have : min k vs.length ≤ 100 := by omega
        have h2 : min k vs.length * 140737488351232 ≤ 100 * 140737488351232 := Nat.mul_le_mul_right _ this
        omega
      have HS := hide hsn
      have HV := hide hv
      have HZ := hide hz
      have HQ := hide hq2
      have HZ1 := hide hz1
      clear hx hsx hsn hq hv hsl hz hq2 hz1
      go_wp2
      go_roundw
      case rel =>
        refine ⟨k + 1, _, by omega, by go_num, rfl, fun h100 => ?_, trivial⟩
        have h1 := HV.out h100
        have h2 := HQ.out h100
        rw [h1, HS.out, HZ1.out]
        unfold wrap64
        omega
      case measure => simp [intOf]; omega
    · have hL := HLEN.out
      rw [List.take_of_length_le (by omega)] at hv
      by_cases h100 : n ≤ 100
      · have hv' := hv h100
        subst hv'
        have hfin : fewT vs = decide (sumT vs ≤ 10000) := by unfold fewT; rw [hL]; simp [h100]
        have HF := hide hfin
        clear hv hfin
        go_wp2
        go_ret
        exact ⟨ret_bool (by rw [HF.out]; exact decide_eq_decide.2 (by omega)), rfl⟩
      · have hfin : fewT vs = false := by unfold fewT; rw [hL]; simp [h100]
        have HF := hide hfin
        clear hv hfin
        go_wp2
        go_ret
        exact ⟨ret_bool (by rw [HF.out]), rfl⟩

def htmlF : List UInt8 × List UInt8 := ([67, 111, 110, 116, 101, 110, 116, 45, 84, 121, 112, 101], [84, 101, 120, 116, 47, 72, 84, 77, 76, 59, 32, 97, 61, 98])
theorem rd_txt (w : World) (s : ByteArray) : Rd (w.alloc (.cells #[.string s] 9)) (w.heap.size + 1) 1 (some ⟨w.heap.size, 0, none⟩) 1 (scells [s.data.toList]) := rd_new w #[.string s] 9 1 1 rfl
set_option maxRecDepth 100000 in
set_option maxHeartbeats 1600000 in
theorem ans21_any (w : World) : Calls Tryd.prog 42 #[] w fun e w' => e = .returned (.bool true) ∧ Below w.heap.size w w' := by
  obtain ⟨w1, hw1⟩ : ∃ w1, (w.alloc (.cells #[.string ⟨#[67, 111, 110, 116, 101, 110, 116, 45, 84, 121, 112, 101]⟩, .string ⟨#[84, 101, 120, 116, 47, 72, 84, 77, 76, 59, 32, 97, 61, 98]⟩] 38)).alloc (.cells #[.int .i64 0, .int .i64 200, .string ⟨#[]⟩, .slice (some ⟨w.heap.size, 0, none⟩) 1 1] 41) = w1 := ⟨_, rfl⟩
  have r0 : Rd (w.alloc (.cells #[.string ⟨#[67, 111, 110, 116, 101, 110, 116, 45, 84, 121, 112, 101]⟩, .string ⟨#[84, 101, 120, 116, 47, 72, 84, 77, 76, 59, 32, 97, 61, 98]⟩] 38)) (w.heap.size + 1) 2 (some ⟨w.heap.size, 0, none⟩) 1 (fcells [htmlF]) := rd_new w _ _ 2 1 rfl
  have r1 : Rd w1 (w.heap.size + 1) 2 (some ⟨w.heap.size, 0, none⟩) 1 (fcells [htmlF]) := by
    rw [← hw1]; exact r0.below ((Below.refl _ _).alloc (by simp) _)
  have t1 : Below w.heap.size w w1 := by rw [← hw1]; exact ((Below.refl _ _).alloc (Nat.le_refl _) _).alloc (by simp) _
  have hz1 : w.heap.size + 1 ≤ w1.heap.size := by rw [← hw1]; simp
  have bR : Box w1 (w.heap.size + 1) [.int .i64 0, .int .i64 200, .string ⟨#[]⟩, .slice (some ⟨w.heap.size, 0, none⟩) 1 1] := by
    have := Box.new (w.alloc (.cells #[.string ⟨#[67, 111, 110, 116, 101, 110, 116, 45, 84, 121, 112, 101]⟩, .string ⟨#[84, 101, 120, 116, 47, 72, 84, 77, 76, 59, 32, 97, 61, 98]⟩] 38)) #[.int .i64 0, .int .i64 200, .string ⟨#[]⟩, .slice (some ⟨w.heap.size, 0, none⟩) 1 1] 41
    rw [← hw1]; simpa using this
  have q1 := media_any 0 200 ⟨#[]⟩ (some ⟨w.heap.size, 0, none⟩) 1 1 _ [htmlF] w1 r1 hz1 (by omega) (by intro f hf; rw [List.mem_singleton.1 hf]; decide)
  have e1 : (⟨(mediaL [htmlF]).toArray⟩ : ByteArray) = ⟨#[116, 101, 120, 116, 47, 104, 116, 109, 108]⟩ := by decide
  rw [e1] at q1
  have q2 := fun (W : World) => worth_any (some ⟨W.heap.size, 0, none⟩) 1 1 (W.heap.size + 1) [[116, 101, 120, 116, 47]] ⟨#[116, 101, 120, 116, 47, 104, 116, 109, 108]⟩ _ (rd_txt W ⟨#[116, 101, 120, 116, 47]⟩) (by simp) (by omega) (by intro t ht; rw [List.mem_singleton.1 ht]; decide) (by decide)
  have e2 : worthL [[116, 101, 120, 116, 47]] (⟨#[116, 101, 120, 116, 47, 104, 116, 109, 108]⟩ : ByteArray).data.toList = true := by decide
  rw [e2] at q2
  clear e1 e2 r0 r1
  go_enter Tryd.func42, Tryd.ntmps42
  go_upto_region 2 with (fail)
  try rw [hw1]
  clear hw1
  obtain ⟨x0, x1, x2, x3⟩ := bR.four
  go_wp2_with fail
  refine q1.mono ?_
  rintro e w2 ⟨rfl, k2⟩
  have t2 := t1.trans (k2.mono t1.size)
  go_wp2_with fail
  refine (q2 w2).mono ?_
  rintro e w3 ⟨rfl, k3⟩
  go_wp2
  go_ret
  exact ⟨rfl, (t2.alloc t2.size _).trans (k3.mono (by have := t2.size; simp; omega))⟩
end Go.Proofs.YtgdjlmpfjmakkaaDoor
