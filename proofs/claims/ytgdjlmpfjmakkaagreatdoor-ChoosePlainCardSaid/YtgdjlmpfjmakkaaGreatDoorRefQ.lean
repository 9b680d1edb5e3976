/- The reference's Q: the weight of a coding. -/
import Derived.Test.YtgdjlmpfjmakkaaGreatDoorQ
import Derived.Test.YtgdjlmpfjmakkaaGreatDoorMembers
namespace Go.Proofs.YtgdjlmpfjmakkaaGreatDoor
open Go.RowKit
/-- What stands for the first star behind some items. -/
def optI : Option Nat → Int
  | some q => q
  | none => -1
def optN : Option Nat → Nat → Nat
  | some q, _ => q
  | none, d => d
def starI (its : List (List UInt8 × Nat)) : Int := optI (lookI its [42])
theorem lookI_snoc (name : List UInt8) : ∀ (l : List (List UInt8 × Nat)) (k : Nat) (hk : k < l.length), lookI (l.take (k + 1)) name = match lookI (l.take k) name with
    | some q => some q
    | none => if l[k].1 = name then some l[k].2 else none
  | f :: l, 0, _ => by
    show lookI [f] name = _
    simp only [List.take_zero, lookI]
    rfl
  | f :: l, k + 1, hk => by
    rw [List.take_succ_cons, List.take_succ_cons, lookI, lookI]
    by_cases h : f.1 = name
    · rw [if_pos h, if_pos h]
    · rw [if_neg h, if_neg h, lookI_snoc name l k (by simpa using hk)]
      rfl
theorem lookI_none_of {name : List UInt8} : ∀ {l : List (List UInt8 × Nat)}, lookI l name = none → ∀ f ∈ l, f.1 ≠ name
  | f :: l, h, x, hx => by
    rw [lookI] at h
    by_cases hf : f.1 = name
    · rw [if_pos hf] at h; cases h
    · rw [if_neg hf] at h
      rcases List.mem_cons.1 hx with rfl | hx
      · exact hf
      · exact lookI_none_of h x hx

set_option maxRecDepth 100000 in
set_option maxHeartbeats 3200000 in
theorem refq_any (A : Option Addr) (n c B : Nat) (vs : List (List UInt8)) (coding : ByteArray) (w : World) (h : Rd w B 1 A n (scells vs)) (hB : B ≤ w.heap.size) (hn : n ≤ 1000) (hok : ∀ v ∈ vs, v.length ≤ 1000000) :
    Calls Tryz.prog 15 #[.slice A n c, .string coding] w fun e w' => e = .returned (.int .i64 (qL vs coding.data.toList)) ∧ Below w.heap.size w w' := by
  have hlen : vs.length = n := by have := h.1; simpa [scells] using this
  have hp := members_any A n c B vs w h hB hn hok
  have hml := memL_len' vs hok
  rw [hlen] at hml
  obtain ⟨r, hr⟩ : ∃ r, r = qL vs coding.data.toList := ⟨_, rfl⟩
  rw [← hr]
  unfold qL at hr
  obtain ⟨its, hits⟩ : ∃ l, l = membersL vs := ⟨_, rfl⟩
  rw [← hits] at hp hr hml
  obtain ⟨ni, hni⟩ : ∃ m, its.length = m := ⟨_, rfl⟩
  rw [hni] at hp hml
  have HNI := hide hni
  by_cases h0 : n = 0
  · subst h0
    have hnil : vs = [] := List.eq_nil_of_length_eq_zero hlen
    have hr0 : r = 1000 := by rw [hr, if_pos hnil]
    have HR := hide hr0
    clear hr hr0 hnil hp hml hits hlen hni
    go_enter Tryz.func15, Tryz.ntmps15
    go_wp2
    go_ret
    exact ⟨by rw [HR.out] <;> rfl, Below.refl _ _⟩
  · have hne : ¬ vs = [] := fun e => h0 (by rw [← hlen, e]; rfl)
    rw [if_neg hne] at hr
    have h0' : ((n : Int) == 0) = false := by simpa using h0
    have hid : (coding.toList == [105, 100, 101, 110, 116, 105, 116, 121]) = decide (coding.data.toList = identL) := by rw [ByteArray.toList_eq, Bool.eq_iff_iff, decide_eq_true_iff]; simp [identL]
    have HR := hide hr
    clear hr hne hlen hits hni h0
    go_enter Tryz.func15, Tryz.ntmps15
    go_wp2_with fail
    refine hp.mono ?_
    rintro e w1 ⟨A1, c1, rfl, o1, hc1, b1⟩
    have r1 := o1.rd
    clear o1 hp
    go_wp2_with fail
    go_loopw [6, 7] (fun s i wr => ∃ k : Nat, k ≤ ni ∧ i = .int .i64 k ∧ s = .int .i64 (starI (its.take k)) ∧ lookI (its.take k) coding.data.toList = none ∧ wr = w1) (fun _ i _ => ni - (intOf i).toNat)
    case atStart => exact ⟨0, Nat.zero_le _, rfl, rfl, rfl, rfl⟩
    case round =>
      obtain ⟨k, hk, rfl, rfl, hnone, hwr⟩ := hrel
      obtain rfl : w1 = wr := hwr.symm
      by_cases hlt : k < ni
      · have hjl : k < its.length := by have := HNI.out; omega
        obtain ⟨b, off, rfl, hbB, e0, e1⟩ := r1.item hlt hjl
        have hat := lookI_at its k hjl (lookI_none_of hnone)
        have hsn := lookI_snoc coding.data.toList its k hjl
        have hst := lookI_snoc [42] its k hjl
        rw [hnone] at hsn
        have hs1 : starI (its.take (k + 1)) = optI (lookI (its.take (k + 1)) [42]) := rfl
        rw [hst] at hs1
        obtain ⟨st, hstk⟩ : ∃ s, s = lookI (its.take k) [42] := ⟨_, rfl⟩
        have hs0 : starI (its.take k) = optI st := by rw [hstk]; rfl
        rw [← hstk] at hs1
        obtain ⟨x, hx⟩ : ∃ x, x = its[k] := ⟨_, rfl⟩
        rw [← hx] at e0 e1 hat hsn hs1
        have hcm : ((⟨x.1.toArray⟩ : ByteArray).toList == coding.toList) = decide (x.1 = coding.data.toList) := by rw [ByteArray.toList_eq, Bool.eq_iff_iff, decide_eq_true_iff]; simp [ByteArray.toList_eq]
        have hcs : ((⟨x.1.toArray⟩ : ByteArray).toList == [42]) = decide (x.1 = [42]) := by rw [ByteArray.toList_eq, Bool.eq_iff_iff, decide_eq_true_iff]; simp
        obtain ⟨sx, hsx⟩ : ∃ sx : ByteArray, sx = ⟨x.1.toArray⟩ := ⟨_, rfl⟩
        rw [← hsx] at e0 hcm hcs
        obtain ⟨q, hq⟩ : ∃ q, q = x.2 := ⟨_, rfl⟩
        rw [← hq] at e1 hat hs1
        obtain ⟨s0, hs0'⟩ : ∃ s, s = starI (its.take k) := ⟨_, rfl⟩
        rw [← hs0'] at hs0 ⊢
        by_cases he : x.1 = coding.data.toList
        · rw [decide_eq_true he] at hcm
          have HAT := hide (hat he)
          clear hat hsn hx hsx hq hnone hst hs1 hstk hs0 hs0' hcs he
          go_wp2
          go_ret
          exact ⟨by rw [HR.out, HAT.out] <;> rfl, b1⟩
        · rw [decide_eq_false he] at hcm
          rw [if_neg he] at hsn
          have HSN := hide hsn
          by_cases hsx2 : x.1 = [42]
          · rw [decide_eq_true hsx2] at hcs
            rw [if_pos hsx2] at hs1
            rcases st with _ | p
            · have HS1 := hide (show starI (its.take (k + 1)) = q from hs1)
              have hneg : s0 < 0 := by rw [hs0]; decide
              clear hat hsn hx hsx hq hnone hst hs1 hstk hs0 hs0' he hsx2
              go_wp2
              go_roundw
              case rel => exact ⟨k + 1, by omega, by go_num, by rw [HS1.out], HSN.out, trivial⟩
              case measure => simp [intOf]; omega
            · have hpos : ¬ s0 < 0 := by rw [hs0]; show ¬ (p : Int) < 0; omega
              have HS1 := hide (show starI (its.take (k + 1)) = s0 by rw [hs1, hs0])
              clear hat hsn hx hsx hq hnone hst hs1 hstk hs0 hs0' he hsx2
              go_wp2
              go_roundw
              case rel => exact ⟨k + 1, by omega, by go_num, by rw [HS1.out], HSN.out, trivial⟩
              case measure => simp [intOf]; omega
          · rw [decide_eq_false hsx2] at hcs
            rw [if_neg hsx2] at hs1
            have HS1 := hide (show starI (its.take (k + 1)) = s0 by rw [hs1, hs0]; cases st <;> rfl)
            clear hat hsn hx hsx hq hnone hst hs1 hstk hs0 hs0' he hsx2
            go_wp2
            go_roundw
            case rel => exact ⟨k + 1, by omega, by go_num, by rw [HS1.out], HSN.out, trivial⟩
            case measure => simp [intOf]; omega
      · have hfin : its.take k = its := List.take_of_length_le (by have := HNI.out; omega)
        rw [hfin] at hnone ⊢
        obtain ⟨st, hst⟩ : ∃ s, s = lookI its [42] := ⟨_, rfl⟩
        have hs0 : starI its = optI st := by rw [hst]; rfl
        have hr2 : r = optN st (if coding.data.toList = identL then 1000 else 0) := by have := HR.out; rw [hnone, ← hst] at this; clear hs0 hst; cases st <;> exact this
        rw [hs0]
        clear hfin hs0 hst hnone HR
        rcases st with _ | p
        · by_cases hi : coding.data.toList = identL
          · rw [decide_eq_true hi] at hid
            have hR : r = 1000 := by rw [hr2]; exact if_pos hi
            subst hR
            clear hr2 hi
            go_wp2
            go_ret
            exact ⟨rfl, b1⟩
          · rw [decide_eq_false hi] at hid
            have hR : r = 0 := by rw [hr2]; exact if_neg hi
            subst hR
            clear hr2 hi
            go_wp2
            go_ret
            exact ⟨rfl, b1⟩
        · have hR : r = p := hr2
          subst hR
          clear hr2 hid
          go_wp2
          go_ret
          exact ⟨rfl, b1⟩
end Go.Proofs.YtgdjlmpfjmakkaaGreatDoor
