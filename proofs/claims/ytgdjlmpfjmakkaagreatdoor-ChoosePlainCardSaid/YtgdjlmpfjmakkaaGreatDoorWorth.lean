/- Worth of the program and of the reference. -/
import Derived.Test.YtgdjlmpfjmakkaaGreatDoorPolicySpec
import Derived.Test.YtgdjlmpfjmakkaaGreatDoorShelf3
namespace Go.Proofs.YtgdjlmpfjmakkaaGreatDoor
open Go.RowKit
theorem worthL_some {ts : List (List UInt8)} {m : List UInt8} (h : m ≠ []) : worthL ts m = ts.any (hitL m) := by
  unfold worthL
  rcases m with _ | ⟨a, l⟩
  · exact absurd rfl h
  · rfl
theorem last_byte (sy : ByteArray) (y : List UInt8) (l : Nat) (hs : sy.data.toList = y) (hl : y.length = l) (h0 : 0 < l) : ∃ h : l - 1 < sy.size, y.drop (l - 1) = [sy[l - 1]] := by
  subst hs
  have hz := size_of sy
  have h : l - 1 < sy.size := by omega
  refine ⟨h, ?_⟩
  have h1 : l - 1 < sy.data.toList.length := by omega
  rw [List.drop_eq_getElem_cons h1, List.drop_of_length_le (by omega)]
  have h2 := get_toList sy (l - 1) h
  rw [List.getElem?_eq_getElem h1] at h2
  rw [Option.some.inj h2]
theorem hit_parts (m t : List UInt8) : hitL m t = (decide (lowL t = m) || (Lib.hasSuffix (lowL t) [47] && Lib.hasPrefix m (lowL t))) := rfl

set_option maxRecDepth 100000 in
set_option maxHeartbeats 3200000 in
theorem worth_any (A : Option Addr) (n c B : Nat) (ts : List (List UInt8)) (m : ByteArray) (w : World) (h : Rd w B 1 A n (scells ts)) (hB : B ≤ w.heap.size) (hn : n ≤ 1000) (hok : ∀ t ∈ ts, t.length ≤ 1000000) (_hm : m.size ≤ 1000000) :
    Calls Tryz.prog 46 #[.slice A n c, .string m] w fun e w' => e = .returned (.bool (worthL ts m.data.toList)) ∧ Below w.heap.size w w' := by
  have hlen : ts.length = n := by have := h.1; simpa [scells] using this
  by_cases hm0 : m.data.toList = []
  · have hemp : m.toList.isEmpty = true := by rw [ByteArray.toList_eq, hm0]; rfl
    have hr : worthL ts m.data.toList = false := by unfold worthL; rw [hm0]; rfl
    rw [hr]
    clear hr hm0
    go_enter Tryz.func46, Tryz.ntmps46
    go_wp2
    go_ret
    exact ⟨rfl, Below.refl _ _⟩
  · have hemp : m.toList.isEmpty = false := by rw [ByteArray.toList_eq]; simpa using hm0
    obtain ⟨r, hr⟩ : ∃ r, r = worthL ts m.data.toList := ⟨_, rfl⟩
    rw [← hr]
    rw [worthL_some hm0] at hr
    have HR := hide hr
    have HOK := hide hok
    have HL := hide hlen
    have hle : n ≤ ts.length := by omega
    clear hr hm0 hok hlen
    go_enter Tryz.func46, Tryz.ntmps46
    go_wp2_with fail
    go_loopw [11] (fun i wr => ∃ k : Nat, k ≤ n ∧ i = .int .i64 k ∧ (ts.take k).any (hitL m.data.toList) = false ∧ Below w.heap.size w wr) (fun i _ => n - (intOf i).toNat)
    case atStart => exact ⟨0, Nat.zero_le _, rfl, rfl, Below.refl _ _⟩
    case round =>
      obtain ⟨k, hk, rfl, ht, hb⟩ := hrel
      by_cases hlt : k < n
      · have hkl : k < ts.length := by omega
        obtain ⟨a, rfl, -, hcell⟩ := (h.below (hb.mono hB)).text hlt hkl
        have hsn := any_snoc (hitL m.data.toList) ts k hkl
        have hof := any_of (hitL m.data.toList) ts k hkl
        rw [ht, Bool.false_or] at hsn
        have hxs := HOK.out ts[k] (List.getElem_mem hkl)
        have hbz := hb.size
        obtain ⟨x, hx⟩ : ∃ x, x = ts[k] := ⟨_, rfl⟩
        rw [← hx] at hcell hsn hxs hof
        rw [hit_parts] at hsn hof
        have hl := fun W => lower_any ⟨x.toArray⟩ W (by rw [mk_size]; omega)
        rw [mk_list] at hl
        have hyl := lowL_length x
        obtain ⟨y, hy⟩ : ∃ y, y = lowL x := ⟨_, rfl⟩
        rw [← hy] at hl hsn hof hyl
        have c1 := fun W => Tryz.strings_HasSuffix ⟨y.toArray⟩ ⟨#[47]⟩ W (by rw [mk_size]; omega)
        have c2 := fun W => Tryz.strings_HasPrefix m ⟨y.toArray⟩ W
        dsimp only at c1 c2
        have hq : ((⟨y.toArray⟩ : ByteArray).toList == m.toList) = decide (y = m.data.toList) := by rw [ByteArray.toList_eq, ByteArray.toList_eq, Bool.eq_iff_iff, decide_eq_true_iff]; simp
        obtain ⟨b1, hb1⟩ : ∃ b, b = decide (y = m.data.toList) := ⟨_, rfl⟩
        obtain ⟨b2, hb2⟩ : ∃ b, b = Lib.hasSuffix y [47] := ⟨_, rfl⟩
        obtain ⟨b3, hb3⟩ : ∃ b, b = Lib.hasPrefix m.data.toList y := ⟨_, rfl⟩
        rw [← hb1, ← hb2, ← hb3] at hsn hof
        rw [← hb1] at hq
        simp only [← hb2] at c1
        simp only [← hb3] at c2
        obtain ⟨sx, hsx⟩ : ∃ sx : ByteArray, sx = ⟨x.toArray⟩ := ⟨_, rfl⟩
        obtain ⟨sy, hsy⟩ : ∃ sy : ByteArray, sy = ⟨y.toArray⟩ := ⟨_, rfl⟩
        rw [← hsx] at hcell
        simp only [← hsx, ← hsy] at hl
        simp only [← hsy] at c1 c2 hq
        have HS := hide hsn
        have HO := hide hof
        clear hsn hof hx hy hsx hsy hyl hb1 hb2 hb3 ht
        rcases b1 with _ | _
        · rcases b2 with _ | _
          · go_wp2_with fail
            refine (hl wr).mono ?_
            rintro e w2 ⟨rfl, k2⟩
            have t2 := hb.trans (k2.mono hbz)
            go_wp2_with fail
            refine (c1 w2).mono ?_
            rintro e w3 ⟨rfl, hw3⟩
            obtain rfl : w2 = w3 := hw3.symm
            clear hw3
            go_wp2
            go_roundw
            case rel => exact ⟨k + 1, by omega, by go_num, HS.out, t2⟩
            case measure => simp [intOf]; omega
          · rcases b3 with _ | _
            · go_wp2_with fail
              refine (hl wr).mono ?_
              rintro e w2 ⟨rfl, k2⟩
              have t2 := hb.trans (k2.mono hbz)
              go_wp2_with fail
              refine (c1 w2).mono ?_
              rintro e w3 ⟨rfl, hw3⟩
              obtain rfl : w2 = w3 := hw3.symm
              clear hw3
              go_wp2_with fail
              refine (c2 w2).mono ?_
              rintro e w3 ⟨rfl, hw3⟩
              obtain rfl : w2 = w3 := hw3.symm
              clear hw3
              go_wp2
              go_roundw
              case rel => exact ⟨k + 1, by omega, by go_num, HS.out, t2⟩
              case measure => simp [intOf]; omega
            · have hT : r = true := by rw [HR.out]; exact HO.out rfl
              subst hT
              go_wp2_with fail
              refine (hl wr).mono ?_
              rintro e w2 ⟨rfl, k2⟩
              have t2 := hb.trans (k2.mono hbz)
              go_wp2_with fail
              refine (c1 w2).mono ?_
              rintro e w3 ⟨rfl, hw3⟩
              obtain rfl : w2 = w3 := hw3.symm
              clear hw3
              go_wp2_with fail
              refine (c2 w2).mono ?_
              rintro e w3 ⟨rfl, hw3⟩
              obtain rfl : w2 = w3 := hw3.symm
              clear hw3
              go_wp2
              go_ret
              exact ⟨rfl, t2⟩
        · have hT : r = true := by rw [HR.out]; exact HO.out rfl
          subst hT
          go_wp2_with fail
          refine (hl wr).mono ?_
          rintro e w2 ⟨rfl, k2⟩
          have t2 := hb.trans (k2.mono hbz)
          go_wp2
          go_ret
          exact ⟨rfl, t2⟩
      · have hF : r = false := by rw [HR.out]; rw [List.take_of_length_le (by have := HL.out; omega)] at ht; exact ht
        subst hF
        clear ht
        go_wp2
        go_ret
        exact ⟨rfl, hb⟩

set_option maxRecDepth 100000 in
set_option maxHeartbeats 3200000 in
theorem refworth_any (A : Option Addr) (n c B : Nat) (ts : List (List UInt8)) (m : ByteArray) (w : World) (h : Rd w B 1 A n (scells ts)) (hB : B ≤ w.heap.size) (hn : n ≤ 1000) (hok : ∀ t ∈ ts, t.length ≤ 1000000) (_hm : m.size ≤ 1000000) :
    Calls Tryz.prog 27 #[.slice A n c, .string m] w fun e w' => e = .returned (.bool (worthL ts m.data.toList)) ∧ Below w.heap.size w w' := by
  have hlen : ts.length = n := by have := h.1; simpa [scells] using this
  by_cases hm0 : m.data.toList = []
  · have hemp : m.toList.isEmpty = true := by rw [ByteArray.toList_eq, hm0]; rfl
    have hr : worthL ts m.data.toList = false := by unfold worthL; rw [hm0]; rfl
    rw [hr]
    clear hr hm0
    go_enter Tryz.func27, Tryz.ntmps27
    go_wp2_with fail
    go_loopw [5] (fun i wr => i = .int .i64 0 ∧ wr = w) (fun _ _ => 0)
    case atStart => exact ⟨rfl, rfl⟩
    case round =>
      obtain ⟨rfl, hwr⟩ := hrel
      obtain rfl : w = wr := hwr.symm
      by_cases h0 : 0 < n
      · go_wp2
        go_ret
        exact ⟨rfl, Below.refl _ _⟩
      · go_wp2
        go_ret
        exact ⟨rfl, Below.refl _ _⟩
  · have hemp : m.toList.isEmpty = false := by rw [ByteArray.toList_eq]; simpa using hm0
    obtain ⟨r, hr⟩ : ∃ r, r = worthL ts m.data.toList := ⟨_, rfl⟩
    rw [← hr]
    rw [worthL_some hm0] at hr
    have HR := hide hr
    have HOK := hide hok
    have HL := hide hlen
    have hle : n ≤ ts.length := by omega
    clear hr hm0 hok hlen
    go_enter Tryz.func27, Tryz.ntmps27
    go_wp2_with fail
    go_loopw [5] (fun i wr => ∃ k : Nat, k ≤ n ∧ i = .int .i64 k ∧ (ts.take k).any (hitL m.data.toList) = false ∧ Below w.heap.size w wr) (fun i _ => n - (intOf i).toNat)
    case atStart => exact ⟨0, Nat.zero_le _, rfl, rfl, Below.refl _ _⟩
    case round =>
      obtain ⟨k, hk, rfl, ht, hb⟩ := hrel
      by_cases hlt : k < n
      · have hkl : k < ts.length := by omega
        obtain ⟨a, rfl, -, hcell⟩ := (h.below (hb.mono hB)).text hlt hkl
        have hsn := any_snoc (hitL m.data.toList) ts k hkl
        have hof := any_of (hitL m.data.toList) ts k hkl
        rw [ht, Bool.false_or] at hsn
        have hxs := HOK.out ts[k] (List.getElem_mem hkl)
        have hbz := hb.size
        obtain ⟨x, hx⟩ : ∃ x, x = ts[k] := ⟨_, rfl⟩
        rw [← hx] at hcell hsn hxs hof
        have hh : hitL m.data.toList x = (decide (lowL x = m.data.toList) || dirL (lowL x) m.data.toList) := rfl
        rw [hh] at hsn hof
        clear hh
        have hl := fun W => reflower_any ⟨x.toArray⟩ W (by rw [mk_size]; omega)
        rw [mk_list] at hl
        have hyl := lowL_length x
        obtain ⟨y, hy⟩ : ∃ y, y = lowL x := ⟨_, rfl⟩
        rw [← hy] at hl hsn hof hyl
        have hq : ((⟨y.toArray⟩ : ByteArray).toList == m.toList) = decide (y = m.data.toList) := by rw [ByteArray.toList_eq, ByteArray.toList_eq, Bool.eq_iff_iff, decide_eq_true_iff]; simp
        obtain ⟨b1, hb1⟩ : ∃ b, b = decide (y = m.data.toList) := ⟨_, rfl⟩
        rw [← hb1] at hsn hof hq
        obtain ⟨sx, hsx⟩ : ∃ sx : ByteArray, sx = ⟨x.toArray⟩ := ⟨_, rfl⟩
        rw [← hsx] at hcell
        simp only [← hsx] at hl
        rcases b1 with _ | _
        · rw [Bool.false_or] at hsn hof
          by_cases h0 : 0 < y.length
          · rw [dir_slash y m.data.toList h0] at hsn hof
            have hml : m.data.toList.length = m.size := (size_of m).symm
            rw [hml] at hsn hof
            obtain ⟨sy, hsy⟩ : ∃ sy : ByteArray, sy = ⟨y.toArray⟩ := ⟨_, rfl⟩
            have hsl : sy.data.toList = y := by rw [hsy]
            have hsz : sy.size = y.length := by rw [size_of, hsl]
            obtain ⟨l, hll⟩ : ∃ l, y.length = l := ⟨_, rfl⟩
            obtain ⟨hlz, hd⟩ := last_byte sy y l hsl hll (by omega)
            simp only [hll, hd] at hsn hof
            have hex : (m.extract 0 l).toList = m.data.toList.take l := by rw [ByteArray.toList_eq, extract_list, List.drop_zero]
            have hq3 : ((m.extract 0 l).toList == sy.toList) = decide (m.data.toList.take l = y) := by rw [hex, ByteArray.toList_eq, hsl, Bool.eq_iff_iff, decide_eq_true_iff]; simp
            simp only [← hsy] at hl hq
            rw [hll] at h0 hyl hsz
            obtain ⟨bt, hbt⟩ : ∃ b, sy[l - 1] = b := ⟨_, rfl⟩
            simp only [hbt] at hsn hof
            obtain ⟨b3, hb3⟩ : ∃ b, b = decide (m.data.toList.take l = y) := ⟨_, rfl⟩
            rw [← hb3] at hsn hof hq3
            have hl0 : (0 : Int) ≤ (l : Int) - 1 := by omega
            have hl1 : (l : Int) - 1 < (l : Int) := by omega
            have hlt' : ((l : Int) - 1).toNat = l - 1 := by omega
            have hgb : (((bt.toNat : Nat) : Int) == 47) = decide ([bt] = [47]) := by rw [Bool.eq_iff_iff]; exact (byte_eq_num bt 47 (by decide)).trans (by simp)
            obtain ⟨b2, hb2⟩ : ∃ b, b = decide ([bt] = [47]) := ⟨_, rfl⟩
            rw [← hb2] at hsn hof hgb
            have hlm : l ≤ 1000000 := by omega
            have HS := hide hsn
            have HO := hide hof
            clear hsn hof hx hy hsx hsy hb1 hb2 hb3 ht hd hex hll hsl hml hyl hxs
            go_wp2_with fail
            refine (hl wr).mono ?_
            rintro e w2 ⟨rfl, k2⟩
            have t2 := hb.trans (k2.mono hbz)
            rcases b2 with _ | _
            · go_wp2
              go_roundw
              case rel => exact ⟨k + 1, by omega, by go_num, by rw [HS.out]; rfl, t2⟩
              case measure => simp [intOf]; omega
            · by_cases hlm2 : l ≤ m.size
              · rcases b3 with _ | _
                · go_wp2
                  go_roundw
                  case rel => exact ⟨k + 1, by omega, by go_num, by rw [HS.out]; simp, t2⟩
                  case measure => simp [intOf]; omega
                · have hT : r = true := by rw [HR.out]; exact HO.out (by simp [hlm2])
                  subst hT
                  go_wp2
                  go_ret
                  exact ⟨rfl, t2⟩
              · have hlm3 : m.size < l := by omega
                have hmiss : (true && (decide (l ≤ m.size) && b3)) = false := by simp [hlm2]
                have HM := hide hmiss
                clear hmiss hlm2
                go_wp2
                go_roundw
                case rel => exact ⟨k + 1, by omega, by go_num, by rw [HS.out]; exact HM.out, t2⟩
                case measure => simp [intOf]; omega
          · obtain rfl : y = [] := List.eq_nil_of_length_eq_zero (by omega)
            rw [dir_nil] at hsn hof
            obtain ⟨sy, hsy⟩ : ∃ sy : ByteArray, sy = ⟨([] : List UInt8).toArray⟩ := ⟨_, rfl⟩
            have hsz : sy.size = 0 := by rw [hsy]; rfl
            simp only [← hsy] at hl hq
            have HS := hide hsn
            clear hsn hof hx hsx hsy hb1 ht h0 hyl hy
            go_wp2_with fail
            refine (hl wr).mono ?_
            rintro e w2 ⟨rfl, k2⟩
            have t2 := hb.trans (k2.mono hbz)
            go_wp2
            go_roundw
            case rel => exact ⟨k + 1, by omega, by go_num, HS.out, t2⟩
            case measure => simp [intOf]; omega
        · have hT : r = true := by rw [HR.out]; exact hof rfl
          subst hT
          obtain ⟨sy, hsy⟩ : ∃ sy : ByteArray, sy = ⟨y.toArray⟩ := ⟨_, rfl⟩
          simp only [← hsy] at hl hq
          clear hsn hof hx hsx hsy hb1 ht hyl hy
          go_wp2_with fail
          refine (hl wr).mono ?_
          rintro e w2 ⟨rfl, k2⟩
          have t2 := hb.trans (k2.mono hbz)
          go_wp2
          go_ret
          exact ⟨rfl, t2⟩
      · have hF : r = false := by rw [HR.out]; rw [List.take_of_length_le (by have := HL.out; omega)] at ht; exact ht
        subst hF
        clear ht
        go_wp2
        go_ret
        exact ⟨rfl, hb⟩
end Go.Proofs.YtgdjlmpfjmakkaaGreatDoor
