/- chunk.Decoder in memory; its line. -/
import Derived.Test.YtdpcncpfbaigeaaDoorDecSpec
import Derived.Test.YtdpcncpfbaigeaaDoorShelf3
import Derived.Test.YtdpcncpfbaigeaaDoorBody
import Derived.Test.YtdpcncpfbaigeaaDoorCalm
namespace Go.Proofs.YtdpcncpfbaigeaaDoor
open Go.RowKit

/-- A decoder in block d, what waits in it in blocks from 'base' on. -/
def IsDec (w : World) (d base : Nat) (own : Option Nat) (S : DS) : Prop :=
  ∃ A c, Box w d [.slice A S.inp.length c, .int .i64 S.st, .int .i64 S.left, .int .i64 S.fl, .int .i64 S.er] ∧ Ow w base 1 (.slice A S.inp.length c) S.inp.length (bcells S.inp) ∧ ((Value.slice A S.inp.length c).ownBlock = own ∧ own ≠ some d) ∧ base ≤ d
set_option linter.unusedSimpArgs false
set_option linter.unusedVariables false
theorem IsDec.below {w w' : World} {d base : Nat} {own : Option Nat} {S : DS} (h : IsDec w d base own S) (hb : Below w.heap.size w w') : IsDec w' d base own S := by
  obtain ⟨A, c, h1, h2, h3, h4⟩ := h
  exact ⟨A, c, h1.below hb, h2.below hb, h3, h4⟩
theorem IsDec.drewN {w : World} {d base : Nat} {own : Option Nat} {S : DS} (h : IsDec w d base own S) (k : Nat) : IsDec (w.drewN k) d base own S := h.below (below_drewN (Below.refl _ _))
theorem Ow.noneCap {w : World} {base size n c : Nat} {xs : List Value} (h : Ow w base size (.slice none n c) n xs) : c = 0 ∧ n = 0 := by
  rcases h.2 with ⟨hv, h0⟩ | ⟨g, off, cap, hv, _⟩
  · cases hv; exact ⟨rfl, rfl⟩
  · cases hv
theorem bytesOf_nums (l : List UInt8) : Lib.bytesOf (l.map fun b => (b.toNat : Int)) = l := by
  unfold Lib.bytesOf
  rw [List.map_map]
  conv => rhs; rw [← List.map_id l]
  refine List.map_congr_left fun b _ => ?_
  simp
theorem lineIx_le (l : List UInt8) (h : 0 ≤ lineIx l) : (lineIx l).toNat + 2 ≤ l.length ∧ (lineIx l).toNat + 2 ≤ 1024 := by
  rcases Lib.index_spec (l.take 1024) crlfL with ⟨hi, _⟩ | ⟨k, hi, hkl, hocc, _⟩
  · unfold lineIx at h; omega
  · have hl : (l.take 1024).length ≤ l.length ∧ (l.take 1024).length ≤ 1024 := by rw [List.length_take]; omega
    have hk : k + 2 ≤ (l.take 1024).length := by
      rcases Lib.occAt_room hocc with h1 | h1
      · simpa [crlfL] using h1
      · cases h1
    unfold lineIx
    rw [hi]
    omega
theorem index_crlf (A : Option Addr) (n c B : Nat) (bs : List UInt8) (mx : Int) (w w2 : World) (g : Nat) (h : Rd w2 B 1 A n (bcells bs)) (hnc : n ≤ c) (hc62 : c ≤ 9223372036854775807) (hA : A = none → c = 0)
    (hcy : ∀ i, i < 2 → w2.cell? ((⟨g, 0, none⟩ : Addr).add i) = some (.int .u8 (([13, 10] : List Int).getD i 0))) (hm : w2.cell? ⟨1, 0, none⟩ = some (.int .i64 mx)) (m : Nat) (hmn : m = min n 1024) :
    Calls Tryd.prog 57 #[.slice A m c, .slice (some ⟨g, 0, none⟩) 2 2] w2 fun e w' => e = .returned (.int .i64 (lineIx bs)) ∧ Below w2.heap.size w2 w' := by
  have hlen : bs.length = n := by have := h.1; rw [bcells_length] at this; omega
  rcases A with _ | a
  · have h0 : n = 0 := by
      rcases h.2 with h0 | ⟨_, h0, _⟩
      · exact h0
      · cases h0
    subst h0
    obtain rfl : c = 0 := hA rfl
    obtain rfl : m = 0 := by omega
    obtain rfl : bs = [] := List.eq_nil_of_length_eq_zero hlen
    refine (Tryd.bytes_Index_nil (some ⟨g, 0, none⟩) 2 2 w2 (by omega) (by omega)).mono ?_
    rintro e w' ⟨rfl, rfl⟩
    exact ⟨rfl, Below.refl _ _⟩
  · have hx := (Tryd.bytes_Index_at a ⟨g, 0, none⟩ m c 2 2 ((bs.take m).map fun b => (b.toNat : Int)) [13, 10] mx w2 (by simp; omega) rfl (by intro x hx; obtain ⟨b, _, rfl⟩ := List.mem_map.1 hx; have := b.toNat_lt; omega) (by decide)
      (fun i hi => by
        obtain ⟨a', ha, hab, hc⟩ := h.at_ (k := i) (by omega)
        cases ha
        have hbi : i < bs.length := by omega
        have hbt : i < (bs.take m).length := by rw [List.length_take]; omega
        have := hc i _ (bcells_get bs i hbi)
        rw [this, List.getD_eq_getElem?_getD, List.getElem?_map, List.getElem?_eq_getElem hbt, List.getElem_take]
        rfl) hcy (by omega) (by omega) (by omega) hm)
    rw [bytesOf_nums] at hx
    refine hx.mono ?_
    rintro e w' ⟨rfl, q, rfl⟩
    refine ⟨?_, below_drewN (Below.refl _ _)⟩
    have : bs.take m = bs.take 1024 := by
      rw [hmn, ← hlen]
      rcases Nat.le_total bs.length 1024 with h1 | h1
      · rw [Nat.min_eq_left h1, List.take_length, List.take_of_length_le h1]
      · rw [Nat.min_eq_right h1]
    rw [this]
    rfl
set_option maxRecDepth 100000 in
set_option maxHeartbeats 3200000 in
theorem decline_any (d base : Nat) (own : Option Nat) (S : DS) (mx : Int) (w : World) (h : IsDec w d base own S) (hbase : base ≤ w.heap.size) (hn : S.inp.length ≤ 1000000000) (hm : w.cell? ⟨1, 0, none⟩ = some (.int .i64 mx)) :
    Calls Tryd.prog 43 #[.pointer (some ⟨d, 0, none⟩)] w fun e w' => e = .returned (.tuple #[.string ⟨(lineT S.inp).toArray⟩, .int .i64 (lineE S.inp)]) ∧ IsDec w' d base own { S with inp := lineR S.inp } ∧ w.grownBy w' (some d) := by
  obtain ⟨l, st, lf, fl, er⟩ := S
  obtain ⟨A, c, hx, ho, ⟨hoe, hod⟩, hB⟩ := h
  have hne := fun e => hod (hoe.symm.trans e)
  dsimp only at hx ho hne hoe hn ⊢
  obtain ⟨k0, k1, k2, k3, k4⟩ := hx.five
  have hnc : l.length ≤ c ∧ c ≤ maxLen ∧ (A = none → c = 0) := by
    obtain ⟨A', c', hv, h1, h2⟩ := ho.shape
    cases hv
    exact ⟨h1, h2, fun e => by subst e; exact ho.noneCap.1⟩
  obtain ⟨hnc, hcm, hAc⟩ := hnc
  have hmb : 1 < w.heap.size := World.block_lt_of_cell? w _ hm
  obtain ⟨n, hnn⟩ : ∃ n, n = l.length := ⟨_, rfl⟩
  rw [← hnn] at k0 hn hnc hx ho hne hoe
  obtain ⟨rT, hrT⟩ : ∃ x, x = lineT l := ⟨_, rfl⟩
  obtain ⟨rE, hrE⟩ : ∃ x, x = lineE l := ⟨_, rfl⟩
  obtain ⟨rR, hrR⟩ : ∃ x, x = lineR l := ⟨_, rfl⟩
  rw [← hrT, ← hrE, ← hrR]
  have HRT := hide hrT
  have HRE := hide hrE
  have HRR := hide hrR
  clear hrT hrE hrR
  obtain ⟨m, hmm⟩ : ∃ m, m = min n 1024 := ⟨_, rfl⟩
  have hm1 : min (n : Int) 1024 = (m : Int) := by omega
  have hmc : (m : Int) ≤ (c : Int) := by omega
  have kc := fun (w : World) (C : Array Value) (n c : Nat) => Lib.run_convert_bytes_const (P := Tryd.prog) w 26 5 C n c Tryd.underlying26 Tryd.underlying5
  have kd : ∀ (w : World) (C : Array Value) (n c : Nat), (convert 26 26 (.slice (some ⟨w.heap.size, 0, none⟩) n c)).run Tryd.prog ((w.alloc (.cells C 5)).drew) = .ok (.slice (some ⟨w.heap.size, 0, none⟩) n c) ((w.alloc (.cells C 5 (C.size, C.size + 1))).drew) := fun w C n c => kc w.drew C n c
  have HNN := hide hnn
  have HMM := hide hmm
  clear hnn hmm
  go_enter Tryd.func43, Tryd.ntmps43
  go_upto_region 1 with (fail)
  have b0 : Below w.heap.size w w.drew := (Below.refl _ _).drew
  obtain ⟨w2, hw2⟩ : ∃ x, x = (w.alloc (.cells #[.int .u8 13, .int .u8 10] 5 (2, 3))).drew := ⟨_, rfl⟩
  have b2 : Below w.heap.size w w2 := by rw [hw2]; exact ((Below.refl _ _).alloc (Nat.le_refl _) _).drew
  have hcy : ∀ i, i < 2 → w2.cell? ((⟨w.heap.size, 0, none⟩ : Addr).add i) = some (.int .u8 (([13, 10] : List Int).getD i 0)) := fun i hi => by
    rw [Addr.add_lit, hw2]
    show (w.alloc _).cell? _ = _
    rw [cell_of_row _ w.heap.size _ _ _ (2, 3) (heap_alloc_new w _)]
    match i, hi with
    | 0, _ => rfl
    | 1, _ => rfl
  have hq := index_crlf A n c _ l mx w w2 w.heap.size (ho.rd.below b2) hnc (by unfold maxLen at hcm; omega) hAc hcy ((b2.cell (p := ⟨1, 0, none⟩) hmb).trans hm) m HMM.out
  have t12 : ∀ w', Below w2.heap.size w2 w' → Below w.heap.size w w' := fun w' bb => b2.trans (bb.mono b2.size)
  rw [hw2] at hq t12
  have HW2 := hide hw2
  clear hw2 hcy b2 hm
  refine CalmP.hideN (fun K0 hQ => ?_)
  refine wp_region_held_drew (S := fun w' : World => w'.cell? ⟨d, 0, none⟩ = some (.slice A n c) ∧ Below w.heap.size w w') (by kernel_rfl) ⟨k0, b0⟩ (fun hHeld => ?_)
  refine wpAnyH_take (i := 0) (v := ?_) rfl (by kernel_rfl) (by kernel_rfl) (by kernel_rfl) CalmP.onlyN_panic (Or.inl ⟨by kernel_rfl, ?_⟩) (by assumption) ?_
  rotate_left
  · (intro w_ hSw; (try dsimp only at hSw); go_simp; try with_reducible rfl)
  try simp only [Act.put, List.setIfInBounds_toArray, List.set_cons_zero, List.set_cons_succ]
  refine wpAnyH_take (i := 1) (v := ?_) rfl (by kernel_rfl) (by kernel_rfl) (by kernel_rfl) CalmP.onlyN_panic (Or.inl ⟨by kernel_rfl, ?_⟩) (by assumption) ?_
  rotate_left
  · (intro w_ hSw; (try dsimp only at hSw); go_simp; try with_reducible rfl)
  try simp only [Act.put, List.setIfInBounds_toArray, List.set_cons_zero, List.set_cons_succ]
  refine wpAnyH_take (i := 2) (v := ?_) rfl (by kernel_rfl) (by kernel_rfl) (by kernel_rfl) CalmP.onlyN_panic (Or.inl ⟨by kernel_rfl, ?_⟩) (by assumption) ?_
  rotate_left
  · (intro w_ hSw; (try dsimp only at hSw); go_simp; try with_reducible rfl)
  try simp only [Act.put, List.setIfInBounds_toArray, List.set_cons_zero, List.set_cons_succ]
  refine wpAnyH_take (i := 3) (v := ?_) rfl (by kernel_rfl) (by kernel_rfl) (by kernel_rfl) CalmP.onlyN_panic (Or.inl ⟨by kernel_rfl, ?_⟩) (by assumption) ?_
  rotate_left
  · (intro w_ hSw; (try dsimp only at hSw); go_simp; try with_reducible rfl)
  try simp only [Act.put, List.setIfInBounds_toArray, List.set_cons_zero, List.set_cons_succ]
  refine wpAnyH_take (i := 4) (v := ?_) rfl (by kernel_rfl) (by kernel_rfl) (by kernel_rfl) CalmP.onlyN_panic (Or.inl ⟨by kernel_rfl, ?_⟩) (by assumption) ?_
  rotate_left
  · (intro w_ hSw; (try dsimp only at hSw); go_simp; try with_reducible rfl)
  try simp only [Act.put, List.setIfInBounds_toArray, List.set_cons_zero, List.set_cons_succ]
  refine wpAnyH_take (i := 5) (v := ?_) rfl (by kernel_rfl) (by kernel_rfl) (by kernel_rfl) CalmP.onlyN_panic (Or.inl ⟨by kernel_rfl, ?_⟩) (by assumption) ?_
  rotate_left
  · (intro w_ hSw; (try dsimp only at hSw); go_simp; try with_reducible rfl)
  try simp only [Act.put, List.setIfInBounds_toArray, List.set_cons_zero, List.set_cons_succ]
  refine wpAnyH_take (i := 6) (v := ?_) rfl (by kernel_rfl) (by kernel_rfl) (by kernel_rfl) CalmP.onlyN_panic (Or.inl ⟨by kernel_rfl, ?_⟩) (by assumption) ?_
  rotate_left
  · (intro w_ hSw; (try dsimp only at hSw); go_simp; try with_reducible rfl)
  try simp only [Act.put, List.setIfInBounds_toArray, List.set_cons_zero, List.set_cons_succ]
  refine wpAnyH_take (i := 7) (v := ?_) rfl (by kernel_rfl) (by kernel_rfl) (by kernel_rfl) CalmP.onlyN_panic (Or.inl ⟨by kernel_rfl, ?_⟩) (by assumption) ?_
  rotate_left
  · (intro w_ hSw; (try dsimp only at hSw); go_simp; try with_reducible rfl)
  try simp only [Act.put, List.setIfInBounds_toArray, List.set_cons_zero, List.set_cons_succ]
  refine wpAnyH_take (i := 8) (v := ?_) rfl (by kernel_rfl) (by kernel_rfl) (by kernel_rfl) CalmP.onlyN_panic (Or.inl ⟨by kernel_rfl, ?_⟩) (by assumption) ?_
  rotate_left
  · (intro w_ hSw; (try dsimp only at hSw); go_simp; try with_reducible rfl)
  try simp only [Act.put, List.setIfInBounds_toArray, List.set_cons_zero, List.set_cons_succ]
  refine wpAnyH_take (i := 9) (v := ?_) rfl (by kernel_rfl) (by kernel_rfl) (by kernel_rfl) CalmP.onlyN_panic (Or.inl ⟨by kernel_rfl, ?_⟩) (by assumption) ?_
  rotate_left
  · (intro w_ hSw; (try dsimp only at hSw); go_simp; try with_reducible rfl)
  try simp only [Act.put, List.setIfInBounds_toArray, List.set_cons_zero, List.set_cons_succ]
  refine wpAnyH_take (i := 10) (v := ?_) rfl (by kernel_rfl) (by kernel_rfl) (by kernel_rfl) CalmP.onlyN_panic (Or.inl ⟨by kernel_rfl, ?_⟩) (by assumption) ?_
  rotate_left
  · (intro w_ hSw; (try dsimp only at hSw); go_simp; try with_reducible rfl)
  try simp only [Act.put, List.setIfInBounds_toArray, List.set_cons_zero, List.set_cons_succ]
  refine wpAnyH_ready (rs := [11]) (by kernel_rfl) (by simp) ?_
  refine AllReadyH.cons rfl (fun K_ hK => ?_) AllReadyH.nil
  go_simp
  refine hK.out _ _ (show (World.cell? _ ⟨d, 0, none⟩ = some (.slice A n c) ∧ Below w.heap.size w _) from ⟨cell_past w _ k0, ((Below.refl _ _).alloc (Nat.le_refl _) _).drew⟩) (fun hHeld => ?_)
  clear hK K_
  try simp only [Act.put, List.setIfInBounds_toArray, List.set_cons_zero, List.set_cons_succ]
  refine wpAnyH_ready (rs := [12]) (by kernel_rfl) (by simp) ?_
  refine AllReadyH.cons rfl (fun K_ hK => ?_) AllReadyH.nil
  go_simp
  refine hK.out _ _ (show (World.cell? _ ⟨d, 0, none⟩ = some (.slice A n c) ∧ Below w.heap.size w _) from ⟨cell_past w _ k0, ((Below.refl _ _).alloc (Nat.le_refl _) _).drew⟩) (fun hHeld => ?_)
  clear hK K_
  try simp only [Act.put, List.setIfInBounds_toArray, List.set_cons_zero, List.set_cons_succ]
  refine wpAnyH_ready (rs := [13]) (by kernel_rfl) (by simp) ?_
  refine AllReadyH.cons rfl (fun K_ hK => ?_) AllReadyH.nil
  go_simp
  refine hq.mono ?_
  rintro e w12 ⟨rfl, b12⟩
  have u12 := t12 _ b12
  have s12 : w12.cell? ⟨d, 0, none⟩ = some (.slice A n c) ∧ Below w.heap.size w w12 := ⟨(u12.cell (p := ⟨d, 0, none⟩) (World.block_lt_of_cell? w _ k0)).trans k0, u12⟩
  refine hK.out _ _ s12 (fun hHeld => ?_)
  clear hK K_
  try simp only [Act.put, List.setIfInBounds_toArray, List.set_cons_zero, List.set_cons_succ]
  refine wpAnyH_take (i := 14) (v := ?_) rfl (by kernel_rfl) (by kernel_rfl) (by kernel_rfl) CalmP.onlyN_panic (Or.inl ⟨by kernel_rfl, ?_⟩) (by assumption) ?_
  rotate_left
  · (intro w_ hSw; (try dsimp only at hSw); go_simp; try with_reducible rfl)
  try simp only [Act.put, List.setIfInBounds_toArray, List.set_cons_zero, List.set_cons_succ]
  refine wpAnyH_done (by kernel_rfl) ?_ _
  refine CalmP.onlyN_here (hQ.out _ _ ?_)
  clear hQ K0
  all_goals
    have hx12 := hx.below u12
    have ho12 := ho.below u12
    have hbt := grown_of_below (row := some d) u12
    obtain ⟨q0, q1, q2, q3, q4⟩ := hx12.five
    obtain ⟨f0, f1, f2, f3, f4⟩ := hx12.free5
    clear hq t12 k0 s12 k1 k2 k3 k4 hx ho
    by_cases hi : 0 ≤ lineIx l
    · obtain ⟨hle1, hle2⟩ := lineIx_le l hi
      obtain ⟨K, hK⟩ : ∃ K : Nat, lineIx l = K := ⟨(lineIx l).toNat, by omega⟩
      obtain rfl : rE = 0 := by rw [HRE.out]; unfold lineE; rw [if_pos hi]
      obtain rfl : rT = l.take K := by rw [HRT.out]; unfold lineT; rw [if_pos hi, hK]; rfl
      obtain rfl : rR = l.drop (K + 2) := by rw [HRR.out]; unfold lineR; rw [if_pos hi, hK]; rfl
      have hnS := HNN.out
      rw [hK] at hle1 hle2 hi ⊢
      rw [Int.toNat_natCast] at hle1 hle2
      have hLen : (l.drop (K + 2)).length = n - (K + 2) := by rw [List.length_drop]; omega
      have hKn : K ≤ n := by omega
      have hfr := ho12.rd.front hKn
      rw [Nat.mul_one, bcells_take] at hfr
      have hcv := run_string_of (P := Tryd.prog) 26 9 5 Tryd.underlying26 Tryd.underlying5 Tryd.underlying9 w12 _ _ c _ _ hfr
      have hcut := ho12.cut (k := K + 2) (m := n) (by omega) (Nat.le_refl _)
      have hcc : ((bcells l).drop ((K + 2) * 1)).take ((n - (K + 2)) * 1) = bcells (l.drop (K + 2)) := by
        rw [Nat.mul_one, Nat.mul_one, bcells_drop]; exact List.take_of_length_le (by rw [bcells_length, hLen]; exact Nat.le_refl _)
      rw [hcc] at hcut
      have hKc : (K : Int) ≤ (c : Int) := by omega
      have hw2 : IntKind.i64.wrap ((K : Int) + 2) = ((K + 2 : Nat) : Int) := by rw [IntKind.wrap_i64]; omega
      obtain ⟨K2, hK2⟩ : ∃ K2, K2 = K + 2 := ⟨_, rfl⟩
      have hK2n : (K2 : Int) ≤ (n : Int) := by omega
      have hK2c' : (K2 : Int) ≤ (c : Int) := by omega
      obtain ⟨lr, hlr⟩ : ∃ lr, lr = l.drop (K + 2) := ⟨_, rfl⟩
      obtain ⟨lt, hlt⟩ : ∃ lt, lt = l.take K := ⟨_, rfl⟩
      rw [← hlr] at hcut hLen HRR
      rw [← hlt] at hcv HRT
      rw [← hK2] at hcut hLen hw2
      have HLR := hide hlr
      have HLT := hide hlt
      have i0 : (0 : Int) ≤ (K : Int) := by omega
      clear hcc hnS hK hle1 hle2 hi hfr hK2 hlr hlt
      by_cases hcK : c = K2
      · rw [if_pos hcK, hcK, Nat.sub_self] at hcut
        rw [hcK] at hcv hx12 q0 hKc hne hoe
        have hne5 : (Value.slice A (n - K2) 0).ownBlock ≠ some d := by
          have : (Value.slice A (n - K2) 0).ownBlock = (Value.slice A n K2).ownBlock := by cases A <;> rfl
          rw [this]; exact hne
        have hoe5 : (Value.slice A (n - K2) 0).ownBlock = own := (show (Value.slice A (n - K2) 0).ownBlock = (Value.slice A n K2).ownBlock by cases A <;> simp [Value.ownBlock, addr_add_block]).trans hoe
        have hst := hx12.set (k := 0) (x := (Value.slice A (n - K2) 0)) (by simp)
        simp only [List.set_cons_zero] at hst
        have ho5 := hcut.store_far (a := ⟨d, 0, none⟩) hne5 (Value.slice A (n - K2) 0)
        have t5 := grown_set hbt 0 (Value.slice A (n - K2) 0)
        have HE := hide (show ∀ W, Box W d [(Value.slice A (n - K2) 0), .int .i64 st, .int .i64 lf, .int .i64 fl, .int .i64 er] → Ow W base 1 (Value.slice A (n - K2) 0) (n - K2) (bcells lr) → IsDec W d base own ⟨l.drop (K + 2), st, lf, fl, er⟩ from fun W b o => by
          rw [← HLR.out]
          exact ⟨_, _, by dsimp only; rw [hLen]; exact b, by dsimp only; rw [hLen]; exact o, by dsimp only; rw [hLen]; exact ⟨hoe5, hod⟩, hB⟩)
        clear hx12 ho12 q1 q2 q3 q4 hcut hLen HNN HRE
        go_wp2_with fail
        go_ret2
        exact ⟨by rw [← HLT.out]; rfl, HE.out _ hst ho5, t5⟩
      · rw [if_neg hcK] at hcut
        simp only [Nat.mul_one] at hcut
        have hne5 : (Value.slice (A.map (fun x => x.add K2)) (n - K2) (c - K2)).ownBlock ≠ some d := by
          have : (Value.slice (A.map (fun x => x.add K2)) (n - K2) (c - K2)).ownBlock = (Value.slice A n c).ownBlock := by cases A <;> simp [Value.ownBlock, addr_add_block]
          rw [this]; exact hne
        have hoe5 : (Value.slice (A.map (fun x => x.add K2)) (n - K2) (c - K2)).ownBlock = own := (show (Value.slice (A.map (fun x => x.add K2)) (n - K2) (c - K2)).ownBlock = (Value.slice A n c).ownBlock by cases A <;> simp [Value.ownBlock, addr_add_block]).trans hoe
        have hst := hx12.set (k := 0) (x := (Value.slice (A.map (fun x => x.add K2)) (n - K2) (c - K2))) (by simp)
        simp only [List.set_cons_zero] at hst
        have ho5 := hcut.store_far (a := ⟨d, 0, none⟩) hne5 (Value.slice (A.map (fun x => x.add K2)) (n - K2) (c - K2))
        have t5 := grown_set hbt 0 (Value.slice (A.map (fun x => x.add K2)) (n - K2) (c - K2))
        have HE := hide (show ∀ W, Box W d [(Value.slice (A.map (fun x => x.add K2)) (n - K2) (c - K2)), .int .i64 st, .int .i64 lf, .int .i64 fl, .int .i64 er] → Ow W base 1 (Value.slice (A.map (fun x => x.add K2)) (n - K2) (c - K2)) (n - K2) (bcells lr) → IsDec W d base own ⟨l.drop (K + 2), st, lf, fl, er⟩ from fun W b o => by
          rw [← HLR.out]
          exact ⟨_, _, by dsimp only; rw [hLen]; exact b, by dsimp only; rw [hLen]; exact o, by dsimp only; rw [hLen]; exact ⟨hoe5, hod⟩, hB⟩)
        clear hx12 ho12 q1 q2 q3 q4 hcut hLen HNN HRE
        go_wp2_with fail
        go_ret2
        exact ⟨by rw [← HLT.out]; rfl, HE.out _ hst ho5, t5⟩
    · obtain rfl : rT = [] := by rw [HRT.out]; unfold lineT; rw [if_neg hi]
      obtain rfl : rR = l := by rw [HRR.out]; unfold lineR; rw [if_neg hi]
      have hE : rE = if 1024 ≤ n then 6 else 5 := by rw [HRE.out]; unfold lineE; rw [if_neg hi, ← HNN.out]
      have hend := hide (show IsDec w12 d base own ⟨rR, st, lf, fl, er⟩ from ⟨A, c, by dsimp only; rw [← HNN.out]; exact hx12, by dsimp only; rw [← HNN.out]; exact ho12, by dsimp only; rw [← HNN.out]; exact ⟨hoe, hod⟩, hB⟩)
      by_cases h1024 : 1024 ≤ n
      · rw [if_pos h1024] at hE
        subst hE
        have i1 : (1024 : Int) ≤ (n : Int) := by omega
        clear h1024 hx12 ho12 b12
        go_wp2_with fail
        go_ret2
        exact ⟨rfl, hend.out, hbt⟩
      · rw [if_neg h1024] at hE
        subst hE
        have i1 : ¬ (1024 : Int) ≤ (n : Int) := by omega
        clear h1024 hx12 ho12 b12
        go_wp2_with fail
        go_ret2
        exact ⟨rfl, hend.out, hbt⟩
end Go.Proofs.YtdpcncpfbaigeaaDoor
