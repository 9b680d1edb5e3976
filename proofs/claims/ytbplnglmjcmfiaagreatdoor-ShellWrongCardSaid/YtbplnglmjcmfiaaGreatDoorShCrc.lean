/- sums.step, Table, CRC. -/
import Derived.Test.YtbplnglmjcmfiaaGreatDoorOwn
import Derived.Test.YtbplnglmjcmfiaaGreatDoorProg
import Derived.Deep.WholeRow
import Derived.Deep.DeepCutAuto
import Derived.Deep.CutBlock
import Derived.OpenShut
import Derived.Great.BuildSlice
namespace Go.Proofs.YtbplnglmjcmfiaaGreatDoor
open Go.RowKit
set_option linter.unusedVariables false
set_option linter.unusedSimpArgs false

def stepI (x : Int) : Int := if (bits BinOp.and .u32 x 1 != 0) = true then bits BinOp.xor .u32 (x / 2) 3988292384 else x / 2
theorem stepI_range (x : Int) (h : 0 ≤ x ∧ x ≤ 4294967295) : 0 ≤ stepI x ∧ stepI x ≤ 4294967295 := by
  unfold stepI
  split
  · have := wf_bits BinOp.xor .u32 (x / 2) 3988292384
    simp [Lit.wf, IntKind.min, IntKind.max, IntKind.signed, IntKind.bits] at this
    omega
  · omega
def iterI : Nat → Int → Int
  | 0, x => x
  | k + 1, x => stepI (iterI k x)
def tabE (i : Nat) : Int := iterI 8 i
set_option maxHeartbeats 800000 in
theorem sumstep_any (x : Int) (w : World) (h0 : 0 ≤ x ∧ x ≤ 4294967295) : Calls Tryz.prog 100 #[.int .u32 x] w fun e w' => e = .returned (.int .u32 (stepI x)) ∧ w = w' := by
  go_enter Tryz.func100, Tryz.ntmps100
  go_wp2_with fail
  · rename_i h1
    go_ret
    exact ⟨by unfold stepI; rw [if_pos h1]; rfl, rfl⟩
  · rename_i h1
    go_ret
    exact ⟨by unfold stepI; rw [if_neg (by rw [h1]; decide)]; rfl, rfl⟩
theorem iterI_range (x : Int) (h : 0 ≤ x ∧ x ≤ 4294967295) : ∀ k, 0 ≤ iterI k x ∧ iterI k x ≤ 4294967295
  | 0 => h
  | k + 1 => stepI_range _ (iterI_range x h k)
def tabL (k : Nat) : List Value := (List.range 256).map fun i => if i < k then .int .u32 (tabE i) else .int .u32 0
theorem tabL_len (k : Nat) : (tabL k).length = 256 := by simp [tabL]
theorem tabL_at (k i : Nat) (h : i < 256) : (tabL k)[i]? = some (if i < k then .int .u32 (tabE i) else .int .u32 0) := by
  unfold tabL
  rw [List.getElem?_map, List.getElem?_range h]; rfl
theorem tabL_set (k : Nat) (h : k < 256) : (tabL k).set k (.int .u32 (tabE k)) = tabL (k + 1) := by
  apply List.ext_getElem?
  intro i
  by_cases hi : i < 256
  · rw [List.getElem?_set, tabL_at _ _ hi, tabL_at _ _ hi]
    by_cases hk : k = i
    · subst hk
      rw [if_pos rfl, if_pos (by rw [tabL_len]; exact h), if_pos (Nat.lt_succ_self k)]
    · rw [if_neg hk]
      by_cases h2 : i < k
      · rw [if_pos h2, if_pos (by omega)]
      · rw [if_neg h2, if_neg (by omega)]
  · rw [List.getElem?_eq_none (by rw [List.length_set, tabL_len]; omega), List.getElem?_eq_none (by rw [tabL_len]; omega)]
theorem tab0 : Tryz.zeroCells113 = (tabL 0).toArray := by kernel_rfl
theorem heap_set_row {w : World} {b k : Nat} {c : Array Value} {t : TypeId} (h : w.heap[b]? = some (.cells c t (0, 0))) (v : Value) : (w.setCell ⟨b, k, none⟩ v).heap[b]? = some (.cells (c.setIfInBounds k v) t (0, 0)) := by
  simp [World.setCell, Array.getElem?_modify, h]
set_option maxRecDepth 100000 in
set_option maxHeartbeats 3200000 in
theorem sumtable_any (w : World) : Calls Tryz.prog 63 #[] w fun e w' => e = .returned (.agg (tabL 256).toArray) ∧ Below w.heap.size w w' := by
  obtain ⟨a, ha⟩ : ∃ a, w.heap.size = a := ⟨_, rfl⟩
  obtain ⟨b, hb⟩ : ∃ b, a + 1 = b := ⟨_, rfl⟩
  have hs1 : (w.alloc (.cells Tryz.zeroCells113 113)).heap.size = b := by rw [← hb, ← ha]; simp
  have h0a : (w.alloc (.cells Tryz.zeroCells113 113)).heap[a]? = some (.cells (tabL 0).toArray 113 (0, 0)) := by rw [← ha, ← tab0]; exact heap_alloc_last w _
  have t1 : Below a w (w.alloc (.cells Tryz.zeroCells113 113)) := (Below.refl _ _).alloc (Nat.le_of_eq ha.symm) _
  have h1b : ((w.alloc (.cells Tryz.zeroCells113 113)).alloc (.cells Tryz.zeroCells113 113)).heap[b]? = some (.cells (tabL 0).toArray 113 (0, 0)) := by rw [← hs1, ← tab0]; exact heap_alloc_last _ _
  have b2 : Below b (w.alloc (.cells Tryz.zeroCells113 113)) ((w.alloc (.cells Tryz.zeroCells113 113)).alloc (.cells Tryz.zeroCells113 113)) := (Below.refl _ _).alloc (Nat.le_of_eq hs1.symm) _
  have h1a := (b2.block a (by omega)).trans h0a
  have t2 := t1.trans (b2.mono (by omega))
  go_enter Tryz.func63, Tryz.ntmps63
  go_upto_region 2 with (fail)
  generalize (World.alloc (World.alloc _ _) _) = w2 at h1a h1b t2 ⊢
  clear hs1 h0a t1 b2
  go_wp2_with fail
  go_loopw [4] (fun i W => ∃ k : Nat, k ≤ 256 ∧ i = .int .i64 k ∧ W.heap[b]? = some (.cells (tabL k).toArray 113 (0, 0)) ∧ W.heap[a]? = some (.cells (tabL 0).toArray 113 (0, 0)) ∧ Below a w W) (fun i _ => 256 - (intOf i).toNat)
  case atStart => exact ⟨0, by omega, rfl, h1b, h1a, t2⟩
  case round =>
    obtain ⟨k, hk, rfl, rb, ra, tr⟩ := hrel
    by_cases hlt : k < 256
    · have hlt' : (k : Int) < 256 := by omega
      have hwk : IntKind.u32.wrap (k : Int) = (k : Int) := by rw [IntKind.wrap_u32]; omega
      have hc : wr.cell? ⟨b, k, none⟩ = some (.int .u32 0) := by
        simp [World.cell?, rb, tabL_at k k hlt]
      have hf : wr.frozen? ⟨b, k, none⟩ = false := by simp [World.frozen?, rb]
      have rb2 := heap_set_row (k := k) rb (.int .u32 (tabE k))
      have ra2 : (wr.setCell ⟨b, k, none⟩ (.int .u32 (tabE k))).heap[a]? = some (.cells (tabL 0).toArray 113 (0, 0)) := (Below.heap_setCell _ _ _ _ (by simp only; omega)).trans ra
      have tr2 : Below a w (wr.setCell ⟨b, k, none⟩ (.int .u32 (tabE k))) := tr.setCell (by simp only; omega) _
      rw [List.setIfInBounds_toArray, tabL_set k hlt] at rb2
      obtain ⟨wo, hwo⟩ : ∃ wo, wo = wr := ⟨_, rfl⟩
      subst hwo
      have HRB := hide (And.intro rb2 (And.intro ra2 tr2))
      clear rb ra tr rb2 ra2 tr2 h1a h1b t2
      go_wp2_with fail
      go_loopw [9, 3] (fun jv xv W => ∃ j : Nat, j ≤ 8 ∧ jv = .int .i64 j ∧ xv = .int .u32 (iterI j k) ∧ W = wo) (fun jv _ _ => 8 - (intOf jv).toNat)
      case atStart => exact ⟨0, by omega, rfl, rfl, rfl⟩
      case round =>
        obtain ⟨j, hj, rfl, rfl, rfl⟩ := hrel
        by_cases hjl : j < 8
        · have hjl' : (j : Int) < 8 := by omega
          have q := sumstep_any (iterI j k) wr (iterI_range k (by omega) j)
          have e1 : stepI (iterI j k) = iterI (j + 1) k := rfl
          rw [e1] at q
          go_wp2_with fail
          refine q.mono ?_
          rintro e w3 ⟨rfl, rfl⟩
          go_wp2_with fail
          go_roundw
          case rel => exact ⟨j + 1, by omega, by go_num, rfl, trivial⟩
          case measure => simp [intOf]; omega
        · have hjl' : ¬ (j : Int) < 8 := by omega
          obtain rfl : j = 8 := by omega
          have e1 : iterI 8 k = tabE k := rfl
          rw [e1]
          go_wp2_with fail
          exact ⟨⟨k + 1, by omega, by go_num, HRB.out.1, HRB.out.2.1, HRB.out.2.2⟩, by simp [intOf]; omega⟩
    · have hlt' : ¬ (k : Int) < 256 := by omega
      obtain rfl : k = 256 := by omega
      go_upto_region 12 with (fail)
      have hu : Tryz.prog.underlying 113 = some (.array 256 70) := Tryz.underlying113
      have hsz : (Tryz.prog.info? 113).map (·.size) = some (tabL 256).toArray.size := by rw [List.size_toArray, tabL_len]; kernel_rfl
      have hone : (tabL 256).toArray.all (·.oneCell') = true := by kernel_rfl
      have hsz0 : (tabL 0).toArray.size = (tabL 256).toArray.size := by rw [List.size_toArray, List.size_toArray, tabL_len, tabL_len]
      have tr2 : Below a w (wr.setRow a (tabL 256).toArray) := tr.trans ⟨rfl, rfl, rfl, by simp [World.setRow], fun k hk => setRow_other wr a k _ (by omega)⟩
      have ra2 : (wr.setRow a (tabL 256).toArray).heap[a]? = some (.cells (tabL 256).toArray 113 (0, 0)) := setRow_heap wr a _ _ _ _ ra
      obtain ⟨cv, hcv⟩ : ∃ cv, cv = (tabL 256).toArray := ⟨_, rfl⟩
      rw [← hcv] at rb tr2 ra2 hone hsz0 hsz
      go_wp2_with (first | refine wpList_load_row rfl 113 _ rfl b rfl 113 _ (0, 0) _ rb hu rfl hsz ?_ | refine wpList_store_rowTo rfl 113 _ _ rfl rfl a cv rfl rfl 113 _ ra hsz hsz0 hone ?_)
      subst hcv
      refine bodyPost_ret (v := .agg (tabL 256).toArray) ?_ rfl ⟨rfl, tr2⟩
      exact results_cell_row rfl _ _ a 113 _ (0, 0) _ rfl ra2 hu rfl hsz
/-- A byte more. -/
def notI (x : Int) : Int := bits BinOp.xor .u32 (if IntKind.u32.signed = true then -1 else IntKind.u32.max) x
theorem u32_bits (op : BinOp) (x y : Int) : 0 ≤ bits op .u32 x y ∧ bits op .u32 x y ≤ 4294967295 := by
  have := wf_bits op .u32 x y
  simp [Lit.wf, IntKind.min, IntKind.max, IntKind.signed, IntKind.bits] at this
  omega
theorem u8_bits (op : BinOp) (x y : Int) : 0 ≤ bits op .u8 x y ∧ bits op .u8 x y ≤ 255 := by
  have := wf_bits op .u8 x y
  simp [Lit.wf, IntKind.min, IntKind.max, IntKind.signed, IntKind.bits] at this
  omega
def crcIx (x : Int) (c : Int) : Int := bits BinOp.xor .u8 (x % 256) c
def crcStep (x : Int) (c : UInt8) : Int := bits BinOp.xor .u32 (tabE (crcIx x c.toNat).toNat) (x / 256)
theorem crc_range (x : Int) (h : 0 ≤ x ∧ x ≤ 4294967295) : ∀ l : List UInt8, 0 ≤ l.foldl crcStep x ∧ l.foldl crcStep x ≤ 4294967295
  | [] => h
  | c :: l => crc_range _ (u32_bits _ _ _) l
set_option maxRecDepth 100000 in
set_option maxHeartbeats 3200000 in
theorem sumcrc_any (crc : Int) (A : Option Addr) (n c : Nat) (l : List UInt8) (w : World) (hl : Rd w w.heap.size 1 A n (bcells l)) (h0 : 0 ≤ crc ∧ crc ≤ 4294967295) (hn : n ≤ 9223372036854775807) :
    Calls Tryz.prog 30 #[.int .u32 crc, .slice A n c] w fun e w' => e = .returned (.int .u32 (notI (l.foldl crcStep (notI crc)))) ∧ Below w.heap.size w w' := by
  have hln : l.length = n := by have := hl.1; simpa [bcells] using this
  go_enter Tryz.func30, Tryz.ntmps30
  go_wp2_with fail
  refine (sumtable_any w).mono ?_
  rintro e w1 ⟨rfl, b1⟩
  have hsz : (Tryz.prog.info? 113).map (·.size) = some (tabL 256).toArray.size := by rw [List.size_toArray, tabL_len]; kernel_rfl
  have hone : (tabL 256).toArray.all (·.oneCell') = true := by kernel_rfl
  have hz0 : (Tryz.zeroCells113 : Array Value).size = (tabL 256).toArray.size := by rw [tab0, List.size_toArray, List.size_toArray, tabL_len, tabL_len]
  have hst : (storeCells ⟨w1.heap.size, 0, none⟩ (tabL 256)).run Tryz.prog (w1.alloc (.cells Tryz.zeroCells113 113)) = .ok () (w1.alloc (.cells (tabL 256).toArray 113)) := run_storeCells_new w1 113 _ (tabL 256).toArray hsz hz0 hone
  obtain ⟨a, ha⟩ : ∃ a, w1.heap.size = a := ⟨_, rfl⟩
  rw [ha] at hst
  have r2 : (w1.alloc (.cells (tabL 256).toArray 113)).heap[a]? = some (.cells (tabL 256).toArray 113 (0, 0)) := by rw [← ha]; exact heap_alloc_last _ _
  have b2 : Below w1.heap.size w1 (w1.alloc (.cells (tabL 256).toArray 113)) := (Below.refl _ _).alloc (Nat.le_refl _) _
  have hl2 := (hl.below b1).below (b2.mono b1.size)
  have t2 := b1.trans (b2.mono b1.size)
  clear hone hz0 hsz b1 b2
  go_upto_region 2 with (fail)
  generalize w1.alloc _ = w2 at r2 hl2 t2 ⊢
  go_upto_region 3 with (fail)
  obtain ⟨x0, hx0⟩ : ∃ x, bits BinOp.xor IntKind.u32 (if IntKind.u32.signed = true then -1 else IntKind.u32.max) crc = x := ⟨_, rfl⟩
  have hr0 : 0 ≤ x0 ∧ x0 ≤ 4294967295 := hx0 ▸ u32_bits _ _ _
  rw [hx0]
  have HX := hide hx0
  clear hx0 hst h0 ha
  have HLN := hide hln
  clear hln
  go_wp2_with fail
  go_loopw [14, 6] (fun i xv W => ∃ k : Nat, k ≤ n ∧ i = .int .i64 k ∧ xv = .int .u32 ((l.take k).foldl crcStep x0) ∧ W = w2) (fun i _ _ => n - (intOf i).toNat)
  case atStart => exact ⟨0, Nat.zero_le _, rfl, rfl, rfl⟩
  case round =>
    obtain ⟨k, hk, rfl, rfl, rfl⟩ := hrel
    by_cases hlt : k < n
    · have hlt' : (k : Int) < (n : Int) := by omega
      have hkl : k < l.length := by rw [HLN.out]; exact hlt
      obtain ⟨ad, hAa, hab, hc⟩ := hl2.at_ (k := 0) (by omega)
      have hx := hc k (.int .u8 (l[k].toNat : Int)) (by simp [bcells, hkl])
      obtain ⟨cb, hcb⟩ : ∃ x, x = l[k] := ⟨_, rfl⟩
      have htk : l.take (k + 1) = l.take k ++ [cb] := by rw [hcb]; exact (List.take_succ_eq_append_getElem hkl)
      rw [← hcb] at hx
      obtain ⟨x, hxx⟩ : ∃ x, (l.take k).foldl crcStep x0 = x := ⟨_, rfl⟩
      have hxr : 0 ≤ x ∧ x ≤ 4294967295 := hxx ▸ crc_range x0 hr0 _
      obtain ⟨ix, hix⟩ : ∃ ix : Nat, bits BinOp.xor .u8 (x % 256) (cb.toNat : Int) = (ix : Int) := ⟨_, (Int.toNat_of_nonneg (u8_bits _ _ _).1).symm⟩
      have hi256 : ix < 256 := by have := (u8_bits BinOp.xor (x % 256) (cb.toNat : Int)).2; omega
      have hcell : wr.cell? ⟨a, ix, none⟩ = some (.int .u32 (tabE ix)) := by
        simp [World.cell?, r2, tabL_at 256 ix hi256, hi256]
      have hi2 : (ix : Int) < 256 := by omega
      have hnext : bits BinOp.xor .u32 (tabE ix) (x / 256) = (l.take (k + 1)).foldl crcStep x0 := by
        rw [htk, List.foldl_append, hxx]
        show _ = crcStep x cb
        unfold crcStep crcIx
        rw [hix]; rfl
      have HN := hide hnext
      rw [hxx]
      subst hAa
      clear hc hcb htk hxx hnext
      go_wp2_with fail
      go_roundw
      case rel => exact ⟨k + 1, by omega, by go_num, by rw [← HN.out], trivial⟩
      case measure => simp [intOf]; omega
    · have hlt' : ¬ (k : Int) < (n : Int) := by omega
      have hall : l.take k = l := List.take_of_length_le (by rw [HLN.out]; omega)
      rw [hall]
      clear hall
      go_wp2_with fail
      go_ret
      exact ⟨by rw [← HX.out]; rfl, t2⟩
theorem crc_nine : notI ([49, 50, 51, 52, 53, 54, 55, 56, 57].foldl crcStep (notI 0)) = 3421780262 := by decide +kernel
end Go.Proofs.YtbplnglmjcmfiaaGreatDoor
