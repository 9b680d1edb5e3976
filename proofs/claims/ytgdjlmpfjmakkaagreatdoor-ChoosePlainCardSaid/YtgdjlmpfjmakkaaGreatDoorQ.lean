/- accept.Q: the weight of a coding. -/
import Derived.Test.YtgdjlmpfjmakkaaGreatDoorItems
namespace Go.Proofs.YtgdjlmpfjmakkaaGreatDoor
open Go.RowKit

/-- The first item of a name. -/
def lookI : List (List UInt8 × Nat) → List UInt8 → Option Nat
  | [], _ => none
  | f :: l, name => if f.1 = name then some f.2 else lookI l name
theorem lookI_none {l : List (List UInt8 × Nat)} {name : List UInt8} (h : ∀ f ∈ l, f.1 ≠ name) : lookI l name = none := by
  induction l with
  | nil => rfl
  | cons f l ih => rw [lookI, if_neg (h f (by simp)), ih fun x hx => h x (by simp [hx])]
theorem lookI_at {name : List UInt8} : ∀ (l : List (List UInt8 × Nat)) (k : Nat) (hk : k < l.length), (∀ f ∈ l.take k, f.1 ≠ name) → l[k].1 = name → lookI l name = some l[k].2
  | f :: l, 0, _, _, h => by
    have h' : f.1 = name := h
    rw [lookI, if_pos h']; rfl
  | f :: l, k + 1, hk, hn, h => by
    rw [lookI, if_neg (hn f (by simp))]
    exact lookI_at l k (by simpa using hk) (fun x hx => hn x (by simp [hx])) h
def identL : List UInt8 := [105, 100, 101, 110, 116, 105, 116, 121]
def qL (vs : List (List UInt8)) (coding : List UInt8) : Nat :=
  if vs = [] then 1000 else match lookI (membersL vs) coding with
    | some q => q
    | none => match lookI (membersL vs) [42] with
      | some q => q
      | none => if coding = identL then 1000 else 0
theorem memL_len' (vs : List (List UInt8)) (h : ∀ v ∈ vs, v.length ≤ 1000000) : (membersL vs).length ≤ vs.length * 1000001 := Nat.le_trans (memL_len _) (allV_len vs h)

theorem pick0 (a b : ByteArray) (w : World) : (Instr.index 74 (.agg #[.string a, .string b]) (.int .i64 0)).run Tryz.prog w = .ok (.string a) w := by kernel_rfl
theorem pick1 (a b : ByteArray) (w : World) : (Instr.index 74 (.agg #[.string a, .string b]) (.int .i64 1)).run Tryz.prog w = .ok (.string b) w := by kernel_rfl
set_option maxRecDepth 100000 in
set_option maxHeartbeats 6400000 in
theorem q_any (A : Option Addr) (n c B : Nat) (vs : List (List UInt8)) (coding : ByteArray) (w : World) (h : Rd w B 1 A n (scells vs)) (hB : B ≤ w.heap.size) (hn : n ≤ 1000) (hok : ∀ v ∈ vs, v.length ≤ 1000000) :
    Calls Tryz.prog 45 #[.slice A n c, .string coding] w fun e w' => e = .returned (.int .i64 (qL vs coding.data.toList)) ∧ Below w.heap.size w w' := by
  have hlen : vs.length = n := by have := h.1; simpa [scells] using this
  have hp := parse_any A n c B vs w h hB hn hok
  have hml := memL_len' vs hok
  rw [hlen] at hml
  obtain ⟨r, hr⟩ : ∃ r, r = qL vs coding.data.toList := ⟨_, rfl⟩
  rw [← hr]
  unfold qL at hr
  obtain ⟨its, hits⟩ : ∃ l, l = membersL vs := ⟨_, rfl⟩
  rw [← hits] at hp hr hml
  obtain ⟨ni, hni⟩ : ∃ m, its.length = m := ⟨_, rfl⟩
  rw [hni] at hp hml
  have HNI := hide hni
  by_cases h0 : n = 0
  · subst h0
    have hnil : vs = [] := List.eq_nil_of_length_eq_zero hlen
    have hr0 : r = 1000 := by rw [hr, if_pos hnil]
    have HR := hide hr0
    clear hr hr0 hnil hp hml hits hlen hni
    go_enter Tryz.func45, Tryz.ntmps45
    go_wp2
    go_ret
    exact ⟨by rw [HR.out] <;> rfl, Below.refl _ _⟩
  · have hne : ¬ vs = [] := fun e => h0 (by rw [← hlen, e]; rfl)
    rw [if_neg hne] at hr
    have h0' : ((n : Int) == 0) = false := by simpa using h0
    have hid : (coding.toList == [105, 100, 101, 110, 116, 105, 116, 121]) = decide (coding.data.toList = identL) := by rw [ByteArray.toList_eq, Bool.eq_iff_iff, decide_eq_true_iff]; simp [identL]
    have HR := hide hr
    clear hr hne hlen hits hni h0
    have hp0 := pick0 coding ⟨#[42]⟩
    have hp1 := pick1 coding ⟨#[42]⟩
    go_enter Tryz.func45, Tryz.ntmps45
    go_wp2_with fail
    refine hp.mono ?_
    rintro e w1 ⟨A1, c1, rfl, o1, hc1, b1⟩
    have r1 := o1.rd
    clear o1 hp
    go_wp2_with fail
    go_loopw [17] (fun i wr => ∃ t : Nat, t ≤ 2 ∧ i = .int .i64 t ∧ (1 ≤ t → lookI its coding.data.toList = none) ∧ (2 ≤ t → lookI its [42] = none) ∧ Below w1.heap.size w1 wr) (fun i _ => 2 - (intOf i).toNat)
    case atStart => exact ⟨0, by omega, rfl, fun h => by omega, fun h => by omega, Below.refl _ _⟩
    case round =>
      obtain ⟨t, ht, rfl, hl1, hl2, hb⟩ := hrel
      have HL1 := hide hl1
      have HL2 := hide hl2
      clear hl1 hl2
      have hcase : t = 0 ∨ t = 1 ∨ t = 2 := by omega
      rcases hcase with rfl | rfl | rfl
      · go_wp2_with fail
        go_loopw [22] (fun k wr2 => ∃ j : Nat, j ≤ ni ∧ k = .int .i64 j ∧ (∀ f ∈ its.take j, f.1 ≠ coding.data.toList) ∧ Below w1.heap.size w1 wr2) (fun k _ => ni - (intOf k).toNat)
        case atStart => exact ⟨0, Nat.zero_le _, rfl, by simp, hb⟩
        case round =>
          obtain ⟨j, hj, rfl, hnone, hb2⟩ := hrel
          by_cases hlt : j < ni
          · have hjl : j < its.length := by have := HNI.out; omega
            obtain ⟨b, off, rfl, hbB, e0, e1⟩ := (r1.below hb2).item hlt hjl
            have hat := lookI_at its j hjl hnone
            have hsn : its[j].1 ≠ coding.data.toList → ∀ f ∈ its.take (j + 1), f.1 ≠ coding.data.toList := fun hne f hf => by
              rw [list_take_snoc its j hjl] at hf
              rcases List.mem_append.1 hf with h1 | h1
              · exact hnone f h1
              · rw [List.mem_singleton.1 h1]; exact hne
            obtain ⟨x, hx⟩ : ∃ x, x = its[j] := ⟨_, rfl⟩
            rw [← hx] at e0 e1 hat hsn
            have hcm : ((⟨x.1.toArray⟩ : ByteArray).toList == coding.toList) = decide (x.1 = coding.data.toList) := by rw [ByteArray.toList_eq, Bool.eq_iff_iff, decide_eq_true_iff]; simp [ByteArray.toList_eq]
            obtain ⟨sx, hsx⟩ : ∃ sx : ByteArray, sx = ⟨x.1.toArray⟩ := ⟨_, rfl⟩
            rw [← hsx] at e0 hcm
            obtain ⟨q, hq⟩ : ∃ q, q = x.2 := ⟨_, rfl⟩
            rw [← hq] at e1 hat
            have HAT := hide hat
            have HSN := hide hsn
            have hb2z := hb2.size
            have hxe : x.1 = coding.data.toList ∨ ¬ x.1 = coding.data.toList := Classical.em _
            clear hat hsn hx hsx hq hnone
            rcases hxe with he | he
            · have hc : (sx.toList == coding.toList) = true := by rw [hcm]; simpa using he
              have HE := hide he
              clear hcm he
              go_wp2
              go_ret
              exact ⟨by rw [HR.out, HAT.out HE.out] <;> rfl, (b1.trans (hb2.mono b1.size)).alloc (Nat.le_trans b1.size hb2z) _⟩
            · have hc : (sx.toList == coding.toList) = false := by rw [hcm]; simpa using he
              have HE := hide he
              clear hcm he
              go_wp2
              go_roundw
              case rel => exact ⟨j + 1, by omega, by go_num, HSN.out HE.out, hb2.alloc hb2z _⟩
              case measure => simp [intOf]; omega
          · have hl0 : lookI its coding.data.toList = none := lookI_none fun f hf => hnone f (by rw [List.take_of_length_le (by have := HNI.out; omega)]; exact hf)
            have HL0 := hide hl0
            clear hl0 hnone
            go_wp2
            go_roundw
            case rel => exact ⟨1, by omega, rfl, fun _ => HL0.out, fun h => by omega, hb2⟩
            case measure => simp [intOf]
      · go_wp2_with fail
        go_loopw [22] (fun k wr2 => ∃ j : Nat, j ≤ ni ∧ k = .int .i64 j ∧ (∀ f ∈ its.take j, f.1 ≠ [42]) ∧ Below w1.heap.size w1 wr2) (fun k _ => ni - (intOf k).toNat)
        case atStart => exact ⟨0, Nat.zero_le _, rfl, by simp, hb⟩
        case round =>
          obtain ⟨j, hj, rfl, hnone, hb2⟩ := hrel
          by_cases hlt : j < ni
          · have hjl : j < its.length := by have := HNI.out; omega
            obtain ⟨b, off, rfl, hbB, e0, e1⟩ := (r1.below hb2).item hlt hjl
            have hat := lookI_at its j hjl hnone
            have hsn : its[j].1 ≠ [42] → ∀ f ∈ its.take (j + 1), f.1 ≠ [42] := fun hne f hf => by
              rw [list_take_snoc its j hjl] at hf
              rcases List.mem_append.1 hf with h1 | h1
              · exact hnone f h1
              · rw [List.mem_singleton.1 h1]; exact hne
            obtain ⟨x, hx⟩ : ∃ x, x = its[j] := ⟨_, rfl⟩
            rw [← hx] at e0 e1 hat hsn
            have hcm : ((⟨x.1.toArray⟩ : ByteArray).toList == [42]) = decide (x.1 = [42]) := by rw [ByteArray.toList_eq, Bool.eq_iff_iff, decide_eq_true_iff]; simp
            obtain ⟨sx, hsx⟩ : ∃ sx : ByteArray, sx = ⟨x.1.toArray⟩ := ⟨_, rfl⟩
            rw [← hsx] at e0 hcm
            obtain ⟨q, hq⟩ : ∃ q, q = x.2 := ⟨_, rfl⟩
            rw [← hq] at e1 hat
            have HAT := hide hat
            have HSN := hide hsn
            have hb2z := hb2.size
            have hxe : x.1 = [42] ∨ ¬ x.1 = [42] := Classical.em _
            clear hat hsn hx hsx hq hnone
            rcases hxe with he | he
            · have hc : (sx.toList == [42]) = true := by rw [hcm]; simpa using he
              have HE := hide he
              clear hcm he
              go_wp2
              go_ret
              exact ⟨by rw [HR.out, HL1.out (Nat.le_refl _), HAT.out HE.out] <;> rfl, (b1.trans (hb2.mono b1.size)).alloc (Nat.le_trans b1.size hb2z) _⟩
            · have hc : (sx.toList == [42]) = false := by rw [hcm]; simpa using he
              have HE := hide he
              clear hcm he
              go_wp2
              go_roundw
              case rel => exact ⟨j + 1, by omega, by go_num, HSN.out HE.out, hb2.alloc hb2z _⟩
              case measure => simp [intOf]; omega
          · have hl0 : lookI its [42] = none := lookI_none fun f hf => hnone f (by rw [List.take_of_length_le (by have := HNI.out; omega)]; exact hf)
            have HL0 := hide hl0
            clear hl0 hnone
            go_wp2
            go_roundw
            case rel => exact ⟨2, by omega, rfl, fun _ => HL1.out (Nat.le_refl _), fun _ => HL0.out, hb2⟩
            case measure => simp [intOf]
      · by_cases hci : coding.data.toList = identL
        · have hc : (coding.toList == [105, 100, 101, 110, 116, 105, 116, 121]) = true := by rw [hid]; simpa using hci
          have HC := hide hci
          clear hid hci
          go_wp2
          go_ret
          exact ⟨by rw [HR.out, HL1.out (by omega), HL2.out (Nat.le_refl _)]; exact congrArg (fun q : Nat => Ending.returned (.int .i64 q)) (if_pos HC.out).symm, b1.trans (hb.mono b1.size)⟩
        · have hc : (coding.toList == [105, 100, 101, 110, 116, 105, 116, 121]) = false := by rw [hid]; simpa using hci
          have HC := hide hci
          clear hid hci
          go_wp2
          go_ret
          exact ⟨by rw [HR.out, HL1.out (by omega), HL2.out (Nat.le_refl _)]; exact congrArg (fun q : Nat => Ending.returned (.int .i64 q)) (if_neg HC.out).symm, b1.trans (hb.mono b1.size)⟩
end Go.Proofs.YtgdjlmpfjmakkaaGreatDoor
