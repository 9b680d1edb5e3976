/- concertinalaw22.light, few and answers. -/
import Derived.Test.YtgdjlmpfjmakkaaGreatDoorRefPick
import Derived.Test.YtgdjlmpfjmakkaaGreatDoorPolicySmall
namespace Go.Proofs.YtgdjlmpfjmakkaaGreatDoor
open Go.RowKit
set_option maxRecDepth 100000 in
set_option maxHeartbeats 3200000 in
theorem light22_any (A : Option Addr) (n c B : Nat) (fs : List (List UInt8 × List UInt8)) (w : World) (h : Rd w B 2 A n (fcells fs)) (hn : n ≤ 9223372036854775807) (hz : ∀ f ∈ fs, f.1.length ≤ 140737488351232 ∧ f.2.length ≤ 140737488351232) :
    Calls Tryz.prog 6 #[.slice A n c] w fun e w' => e = .returned (.bool (lightS 100 20000 fs)) ∧ ∃ k, w' = w.drewN k := by
  have hlen := h.flen
  have HLEN := hide hlen
  have hle : n ≤ fs.length := by omega
  clear hlen
  go_enter Tryz.func6, Tryz.ntmps6
  go_wp2_with fail
  go_loopw [3, 4] (fun s i wr => ∃ (k : Nat) (v : Int), k ≤ n ∧ i = .int .i64 k ∧ s = .int .i64 v ∧ (n ≤ 100 → v = sumF (fs.take k)) ∧ ∃ m, wr = w.drewN m) (fun _ i _ => n - (intOf i).toNat)
  case atStart => exact ⟨0, 0, Nat.zero_le _, rfl, rfl, fun _ => rfl, 0, rfl⟩
  case round =>
    obtain ⟨k, v, hk, rfl, rfl, hv, m, rfl⟩ := hrel
    by_cases hlt : k < n
    · have hkl : k < fs.length := by omega
      obtain ⟨b, off, rfl, hbB, e0, e1⟩ := h.fld hlt hkl
      have hsn := sumF_snoc fs k hkl
      have hzk := hz fs[k] (List.getElem_mem hkl)
      have hsl := sumF_le 140737488351232 (fs.take k) (fun f hf => hz f (List.mem_of_mem_take hf))
      rw [List.length_take] at hsl
      obtain ⟨x, hx⟩ : ∃ x, x = fs[k] := ⟨_, rfl⟩
      rw [← hx] at e0 e1 hsn hzk
      have hz1 := mk_size x.1
      have hz2 := mk_size x.2
      obtain ⟨sx, hsx⟩ : ∃ sx : ByteArray, sx = ⟨x.1.toArray⟩ := ⟨_, rfl⟩
      obtain ⟨sv, hsv⟩ : ∃ sv : ByteArray, sv = ⟨x.2.toArray⟩ := ⟨_, rfl⟩
      rw [← hsx] at e0 hz1
      rw [← hsv] at e1 hz2
      rw [← hz1, ← hz2] at hsn
      obtain ⟨q, hq⟩ : ∃ q, q = sumF (fs.take k) := ⟨_, rfl⟩
      rw [← hq] at hsn hv hsl
      have HS := hide hsn
      have HV := hide hv
      have HZ := hide hz
      have hq2 : n ≤ 100 → q ≤ 28147497670246400 := fun h100 => by
        have : min k fs.length ≤ 100 := by omega
        have h2 : min k fs.length * (2 * 140737488351232) ≤ 100 * (2 * 140737488351232) := Nat.mul_le_mul_right _ this
        omega
      have HQ := hide hq2
      clear hx hsx hsv hsn hq hv hsl hz hq2
      go_wp2_with fail
      go_quiet (fail)
      go_wp2
      go_roundw
      case rel =>
        refine ⟨k + 1, _, by omega, by go_num, rfl, fun h100 => ?_, _, rfl⟩
        have h1 := HV.out h100
        have h2 := HQ.out h100
        rw [h1, HS.out]
        rw [Go.IntWalk.wrap64_in ((q : Int) + (x.1.length : Int)) (by omega), Go.IntWalk.wrap64_in _ (by omega)]
        omega
      case measure => simp [intOf]; omega
    · have hL := HLEN.out
      rw [List.take_of_length_le (by omega)] at hv
      by_cases h100 : n ≤ 100
      · have hv' := hv h100
        subst hv'
        have hfin : lightS 100 20000 fs = decide (sumF fs ≤ 20000) := by unfold lightS; rw [hL]; simp [h100]
        have HF := hide hfin
        clear hv hfin
        go_wp2
        go_ret
        exact ⟨ret_bool (by rw [HF.out]; exact decide_eq_decide.2 (by omega)), _, rfl⟩
      · have hfin : lightS 100 20000 fs = false := by unfold lightS; rw [hL]; simp [h100]
        have HF := hide hfin
        clear hv hfin
        go_wp2
        go_ret
        exact ⟨ret_bool (by rw [HF.out]), _, rfl⟩

set_option maxRecDepth 100000 in
set_option maxHeartbeats 3200000 in
theorem few22_any (A : Option Addr) (n c B : Nat) (vs : List (List UInt8)) (w : World) (h : Rd w B 1 A n (scells vs)) (hn : n ≤ 9223372036854775807) (hz : ∀ v ∈ vs, v.length ≤ 140737488351232) :
    Calls Tryz.prog 7 #[.slice A n c] w fun e w' => e = .returned (.bool (fewT vs)) ∧ w' = w := by
  have hlen : vs.length = n := by have := h.1; simpa [scells] using this
  have HLEN := hide hlen
  have hle : n ≤ vs.length := by omega
  clear hlen
  go_enter Tryz.func7, Tryz.ntmps7
  go_wp2_with fail
  go_loopw [3, 4] (fun s i wr => ∃ (k : Nat) (v : Int), k ≤ n ∧ i = .int .i64 k ∧ s = .int .i64 v ∧ (n ≤ 100 → v = sumT (vs.take k)) ∧ wr = w) (fun _ i _ => n - (intOf i).toNat)
  case atStart => exact ⟨0, 0, Nat.zero_le _, rfl, rfl, fun _ => rfl, rfl⟩
  case round =>
    obtain ⟨k, v, hk, rfl, rfl, hv, hwr⟩ := hrel
    obtain rfl : w = wr := hwr.symm
    by_cases hlt : k < n
    · have hkl : k < vs.length := by omega
      obtain ⟨a, rfl, -, e0⟩ := h.text hlt hkl
      have hsn := sumT_snoc vs k hkl
      have hzk := hz vs[k] (List.getElem_mem hkl)
      have hsl := sumT_le 140737488351232 (vs.take k) (fun f hf => hz f (List.mem_of_mem_take hf))
      rw [List.length_take] at hsl
      obtain ⟨x, hx⟩ : ∃ x, x = vs[k] := ⟨_, rfl⟩
      rw [← hx] at e0 hsn hzk
      have hz1 := mk_size x
      obtain ⟨sx, hsx⟩ : ∃ sx : ByteArray, sx = ⟨x.toArray⟩ := ⟨_, rfl⟩
      rw [← hsx] at e0 hz1
      obtain ⟨q, hq⟩ : ∃ q, q = sumT (vs.take k) := ⟨_, rfl⟩
      rw [← hq] at hsn hv hsl
      have hq2 : n ≤ 100 → q ≤ 14073748835123200 := fun h100 => by
        have : min k vs.length ≤ 100 := by omega
        have h2 : min k vs.length * 140737488351232 ≤ 100 * 140737488351232 := Nat.mul_le_mul_right _ this
        omega
      have HS := hide hsn
      have HV := hide hv
      have HZ := hide hz
      have HQ := hide hq2
      have HZ1 := hide hz1
      clear hx hsx hsn hq hv hsl hz hq2 hz1
      go_wp2
      go_roundw
      case rel =>
        refine ⟨k + 1, _, by omega, by go_num, rfl, fun h100 => ?_, trivial⟩
        have h1 := HV.out h100
        have h2 := HQ.out h100
        rw [h1, HS.out, HZ1.out]
        unfold wrap64
        omega
      case measure => simp [intOf]; omega
    · have hL := HLEN.out
      rw [List.take_of_length_le (by omega)] at hv
      by_cases h100 : n ≤ 100
      · have hv' := hv h100
        subst hv'
        have hfin : fewT vs = decide (sumT vs ≤ 10000) := by unfold fewT; rw [hL]; simp [h100]
        have HF := hide hfin
        clear hv hfin
        go_wp2
        go_ret
        exact ⟨ret_bool (by rw [HF.out]; exact decide_eq_decide.2 (by omega)), rfl⟩
      · have hfin : fewT vs = false := by unfold fewT; rw [hL]; simp [h100]
        have HF := hide hfin
        clear hv hfin
        go_wp2
        go_ret
        exact ⟨ret_bool (by rw [HF.out]), rfl⟩


def wantF : List UInt8 × List UInt8 := ([65, 99, 99, 101, 112, 116, 45, 69, 110, 99, 111, 100, 105, 110, 103], [105, 100, 101, 110, 116, 105, 116, 121, 59, 113, 61, 48, 44, 32, 103, 122, 105, 112])
theorem want_split : splitL [105, 100, 101, 110, 116, 105, 116, 121, 59, 113, 61, 48, 44, 32, 103, 122, 105, 112] = [[105, 100, 101, 110, 116, 105, 116, 121, 59, 113, 61, 48], [103, 122, 105, 112]] := by
  have h1 : cutL false [105, 100, 101, 110, 116, 105, 116, 121, 59, 113, 61, 48, 44, 32, 103, 122, 105, 112] = 12 := by decide
  have h2 : cutL false [32, 103, 122, 105, 112] = 5 := by decide
  rw [splitL_step _ (by rw [h1]; decide), h1]
  simp only [List.take_succ_cons, List.take_zero, List.drop_succ_cons, List.drop_zero]
  rw [splitL_last [32, 103, 122, 105, 112] (by rw [h2]; decide)]
  decide
theorem want_mem : membersL [[105, 100, 101, 110, 116, 105, 116, 121, 59, 113, 61, 48, 44, 32, 103, 122, 105, 112]] = [(kindL 0, 0), (kindL 1, 1000)] := by
  have e : membersL [[105, 100, 101, 110, 116, 105, 116, 121, 59, 113, 61, 48, 44, 32, 103, 122, 105, 112]] = memL (splitL [105, 100, 101, 110, 116, 105, 116, 121, 59, 113, 61, 48, 44, 32, 103, 122, 105, 112]) := by simp [membersL, allV]
  rw [e, want_split]
  decide
theorem want_pick : pickL 0 [] ⟨#[71, 69, 84]⟩ [wantF] 200 [] = ((false, 0, 1), true) := by
  have hg : getL [wantF] aeL = [[105, 100, 101, 110, 116, 105, 116, 121, 59, 113, 61, 48, 44, 32, 103, 122, 105, 112]] := by rw [getL_cons, if_pos (by decide)]; rfl
  have w0 : wtL [[105, 100, 101, 110, 116, 105, 116, 121, 59, 113, 61, 48, 44, 32, 103, 122, 105, 112]] 0 = 0 := by unfold wtL qL; rw [if_neg (by simp), want_mem]; decide
  have w1 : wtL [[105, 100, 101, 110, 116, 105, 116, 121, 59, 113, 61, 48, 44, 32, 103, 122, 105, 112]] 1 = 1000 := by unfold wtL qL; rw [if_neg (by simp), want_mem]; decide
  have w2 : wtL [[105, 100, 101, 110, 116, 105, 116, 121, 59, 113, 61, 48, 44, 32, 103, 122, 105, 112]] 2 = 0 := by unfold wtL qL; rw [if_neg (by simp), want_mem]; decide
  have k1 : (keptL 200 [] || emptyB ⟨#[71, 69, 84]⟩ 200) = false := by
    have : (⟨#[71, 69, 84]⟩ : ByteArray).toList = [71, 69, 84] := by rw [ByteArray.toList_eq]
    unfold emptyB
    rw [this]; decide
  have k2 : codingL (allL [] codeL) = 0 := by decide
  have k3 : ∀ m, eligL 0 [] m 200 [] = false := fun m => by
    unfold eligL
    rw [show worthL [] (mediaL []) = false by decide]; simp
  have k4 : ∀ oth, toL (wtL [[105, 100, 101, 110, 116, 105, 116, 121, 59, 113, 61, 48, 44, 32, 103, 122, 105, 112]]) oth false 0 = (1, true) := fun oth => by
    unfold toL
    rw [if_neg (by decide), if_neg (by decide), if_pos rfl, w0, if_neg (by decide)]
    have s1 : bestS (wtL [[105, 100, 101, 110, 116, 105, 116, 121, 59, 113, 61, 48, 44, 32, 103, 122, 105, 112]]) (0, 0) 1 = (1, 1000) := by unfold bestS; rw [w1]; rfl
    have s2 : bestS (wtL [[105, 100, 101, 110, 116, 105, 116, 121, 59, 113, 61, 48, 44, 32, 103, 122, 105, 112]]) (1, 1000) 2 = (1, 1000) := by unfold bestS; rw [w2]; rfl
    have b : bestF (wtL [[105, 100, 101, 110, 116, 105, 116, 121, 59, 113, 61, 48, 44, 32, 103, 122, 105, 112]]) [1, 2] = (1, 1000) := by
      show bestS _ (bestS _ (0, 0) 1) 2 = _
      rw [s1, s2]
    unfold bestL
    rw [b]; rfl
  unfold pickL
  rw [hg, k1, k2, k3, k4]
  rfl

set_option maxRecDepth 100000 in
set_option maxHeartbeats 1600000 in
theorem ans22_any (w : World) : Calls Tryz.prog 8 #[] w fun e w' => e = .returned (.bool true) ∧ Below w.heap.size w w' := by
  have rk := rd_new w #[.string ⟨#[65, 99, 99, 101, 112, 116, 45, 69, 110, 99, 111, 100, 105, 110, 103]⟩, .string ⟨#[105, 100, 101, 110, 116, 105, 116, 121, 59, 113, 61, 48, 44, 32, 103, 122, 105, 112]⟩] 49 2 1 rfl
  have ka := (Below.refl w.heap.size w).alloc (Nat.le_refl _) (.cells #[.string ⟨#[65, 99, 99, 101, 112, 116, 45, 69, 110, 99, 111, 100, 105, 110, 103]⟩, .string ⟨#[105, 100, 101, 110, 116, 105, 116, 121, 59, 113, 61, 48, 44, 32, 103, 122, 105, 112]⟩] 49)
  have q := pick_any none none 0 0 0 0 0 0 0 0 0 0 0 200 ⟨#[71, 69, 84]⟩ ⟨#[]⟩ ⟨#[]⟩ (some ⟨w.heap.size, 0, none⟩) 1 1 none 0 0 (w.heap.size + 1) [] [] [wantF] _ Rd.nil_ Rd.nil_ rk (by simp) (by omega) (by omega) (by omega) (by intro f hf; cases hf) (by intro t ht; cases ht) (by intro f hf; rw [List.mem_singleton.1 hf]; decide)
  rw [want_pick] at q
  unfold plV at q
  dsimp only at q
  clear rk
  go_enter Tryz.func8, Tryz.ntmps8
  go_wp2_with fail
  refine q.mono ?_
  rintro e w2 ⟨rfl, k2⟩
  have t2 := ka.trans (k2.mono ka.size)
  go_wp2
  go_ret
  exact ⟨rfl, t2.alloc t2.size _⟩
end Go.Proofs.YtgdjlmpfjmakkaaGreatDoor
