/- concertinalaw16.light: are fields not too many, and not too long? -/
import Derived.Test.YtmijkefdnfmpiaaDoorHas
namespace Go.Proofs.YtmijkefdnfmpiaaDoor
open Go.RowKit

def okF (f : List UInt8 × List UInt8) : Bool := decide (f.1.length ≤ 600) && decide (f.2.length ≤ 6000)
def lightB (fs : List (List UInt8 × List UInt8)) : Bool := fs.all okF
def lightL (fs : List (List UInt8 × List UInt8)) : Bool := lightB fs && decide (fs.length ≤ 100)
theorem lightB_snoc (fs : List (List UInt8 × List UInt8)) (k : Nat) (h : k < fs.length) : lightB (fs.take (k + 1)) = (lightB (fs.take k) && okF fs[k]) := by
  unfold lightB; rw [list_take_snoc fs k h, List.all_append, List.all_cons, List.all_nil, Bool.and_true]
theorem lightL_of (fs : List (List UInt8 × List UInt8)) (k : Nat) (h : k < fs.length) (hs : okF fs[k] = false) : lightL fs = false := by
  unfold lightL lightB
  rw [Bool.and_eq_false_iff]
  left
  rw [List.all_eq_false]
  exact ⟨_, List.getElem_mem h, by rw [hs]; simp⟩
theorem lightL_ok {fs : List (List UInt8 × List UInt8)} (h : lightL fs = true) : fsOk fs ∧ fs.length ≤ 100 ∧ ∀ f ∈ fs, f.1.length ≤ 600 ∧ f.2.length ≤ 6000 := by
  unfold lightL lightB at h
  simp only [Bool.and_eq_true, decide_eq_true_eq, List.all_eq_true, okF] at h
  refine ⟨fun f hf => ?_, h.2, h.1⟩
  have := h.1 f hf
  omega

set_option maxRecDepth 100000 in
set_option maxHeartbeats 3200000 in
theorem light_any (A : Option Addr) (n c B : Nat) (fs : List (List UInt8 × List UInt8)) (w : World) (h : Rd w B 2 A n (fcells fs)) (hn : n ≤ 9223372036854775807) :
    Calls Tryd.prog 37 #[.slice A n c] w fun e w' => e = .returned (.bool (lightL fs)) ∧ w' = w := by
  have hlen := h.flen
  have HLEN := hide hlen
  have hle : n ≤ fs.length := by omega
  clear hlen
  go_enter Tryd.func37, Tryd.ntmps37
  go_wp2_with fail
  go_loopw [3] (fun i wr => ∃ k : Nat, k ≤ n ∧ i = .int .i64 k ∧ lightB (fs.take k) = true ∧ wr = w) (fun i _ => n - (intOf i).toNat)
  case atStart => exact ⟨0, Nat.zero_le _, rfl, rfl, rfl⟩
  case round =>
    obtain ⟨k, hk, rfl, hl, hw⟩ := hrel
    obtain rfl : w = wr := hw.symm
    by_cases hlt : k < n
    · have hkl : k < fs.length := by omega
      obtain ⟨b, off, rfl, hbB, e0, e1⟩ := h.fld hlt hkl
      have hsn := lightB_snoc fs k hkl
      have hof := lightL_of fs k hkl
      rw [hl] at hsn
      obtain ⟨x, hx⟩ : ∃ x, x = fs[k] := ⟨_, rfl⟩
      rw [← hx] at e0 e1 hsn hof
      have hz1 := mk_size x.1
      have hz2 := mk_size x.2
      obtain ⟨sx, hsx⟩ : ∃ sx : ByteArray, sx = ⟨x.1.toArray⟩ := ⟨_, rfl⟩
      obtain ⟨sv, hsv⟩ : ∃ sv : ByteArray, sv = ⟨x.2.toArray⟩ := ⟨_, rfl⟩
      rw [← hsx] at e0 hz1
      rw [← hsv] at e1 hz2
      have hokF : okF x = (decide (sx.size ≤ 600) && decide (sv.size ≤ 6000)) := by unfold okF; rw [hz1, hz2]
      rw [hokF] at hsn hof
      clear hx hsx hsv hl hz1 hz2 hokF
      by_cases h1 : sx.size ≤ 600
      · by_cases h2 : sv.size ≤ 6000
        · have hs2 : lightB (fs.take (k + 1)) = true := by rw [hsn]; simp [h1, h2]
          have HS := hide hs2
          clear hsn hof hs2
          go_wp2
          go_roundw
          case rel => exact ⟨k + 1, by omega, by go_num, HS.out, trivial⟩
          case measure => simp [intOf]; omega
        · have HO := hide (hof (by simp [h2]))
          clear hsn hof
          go_wp2
          go_ret
          exact ⟨ret_bool HO.out.symm, rfl⟩
      · have HO := hide (hof (by simp [h1]))
        clear hsn hof
        go_wp2
        go_ret
        exact ⟨ret_bool HO.out.symm, rfl⟩
    · have hfin : lightL fs = decide (n ≤ 100) := by
        have hL := HLEN.out; unfold lightL; rw [List.take_of_length_le (by omega)] at hl; rw [hl, hL]; simp
      have HF := hide hfin
      clear hl hfin
      go_wp2
      go_ret
      exact ⟨ret_bool (by rw [HF.out]; exact decide_eq_decide.2 (by omega)), rfl⟩
end Go.Proofs.YtmijkefdnfmpiaaDoor
