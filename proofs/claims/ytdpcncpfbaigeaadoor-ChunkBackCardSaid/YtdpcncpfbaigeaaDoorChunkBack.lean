/- ChunkBack returns true for any parts and any bytes behind them. -/
import Derived.Test.YtdpcncpfbaigeaaDoorMaxLen
import Derived.Test.YtdpcncpfbaigeaaDoorChunk0
import Derived.Test.YtdpcncpfbaigeaaDoorRunText
import Derived.Test.YtdpcncpfbaigeaaDoorSame
import Derived.Test.YtdpcncpfbaigeaaDoorOpenBs
import Derived.Test.YtdpcncpfbaigeaaDoorLaid7
namespace Go.Proofs.YtdpcncpfbaigeaaDoor
open Go.RowKit
theorem hexC_ok : ∀ k, k < 16 → hexB (hexC k) = true ∧ hexV (hexC k) = k := by decide
theorem hexd_ok (n : Nat) : (∀ c ∈ hexd n, hexB c = true) ∧ hexN (hexd n) = n := by
  induction n using Nat.strongRecOn with
  | _ n ih =>
    by_cases h : n < 16
    · rw [hexd_low h]
      obtain ⟨h1, h2⟩ := hexC_ok n h
      refine ⟨fun c hc => by rw [List.mem_singleton.1 hc]; exact h1, ?_⟩
      show 16 * 0 + hexV (hexC n) = n
      omega
    · obtain ⟨i1, i2⟩ := ih (n / 16) (by omega)
      obtain ⟨h1, h2⟩ := hexC_ok (n % 16) (by omega)
      rw [hexd_high h]
      refine ⟨fun c hc => ?_, ?_⟩
      · rcases List.mem_append.1 hc with h | h
        · exact i1 c h
        · rw [List.mem_singleton.1 h]; exact h1
      · rw [hexN_snoc, i2, h2]; omega
def chunksL : List (List UInt8) → List UInt8
  | [] => []
  | p :: ps => chunkL p ++ chunksL ps
theorem chunksL_append (a b : List (List UInt8)) : chunksL (a ++ b) = chunksL a ++ chunksL b := by
  induction a with
  | nil => rfl
  | cons p a ih => rw [List.cons_append]; show chunkL p ++ chunksL (a ++ b) = _; rw [ih, ← List.append_assoc]; rfl
theorem back_run (behind : List UInt8) : ∀ ps : List (List UInt8), (∀ p ∈ ps, p.length ≤ 500) → Run1 ⟨chunksL ps ++ [48, 13, 10, 13, 10] ++ behind, 0, 0, 0, 0⟩ ps.flatten ⟨behind, 3, 0, 0, 8⟩
  | [], _ => run_last (z := 0) (r := behind) (left := 0) (fl := 0) (by decide)
  | p :: ps, h => by
    have ih := back_run behind ps (fun q hq => h q (by simp [hq]))
    have hp := h p (by simp)
    show Run1 ⟨chunkL p ++ chunksL ps ++ [48, 13, 10, 13, 10] ++ behind, 0, 0, 0, 0⟩ (p ++ ps.flatten) _
    by_cases h0 : p = []
    · subst h0; exact ih
    · obtain ⟨d1, d2⟩ := hexd_ok p.length
      have e : chunkL p ++ chunksL ps ++ [48, 13, 10, 13, 10] ++ behind = hexd p.length ++ [] ++ 13 :: 10 :: (p ++ 13 :: 10 :: (chunksL ps ++ [48, 13, 10, 13, 10] ++ behind)) := by
        unfold chunkL; rw [if_neg h0]; simp
      rw [e]
      have hl := hexd_len 11 p.length (by omega)
      exact run_chunk d1 ⟨hexd_pos _, hl⟩ rfl rfl (by simp; omega) d2 h0 (by omega) ih
theorem chunkL_len {p : List UInt8} (h : p.length ≤ 500) : (chunkL p).length ≤ 520 := by
  unfold chunkL
  split
  · simp
  · have hl := hexd_len 11 p.length (by omega)
    simp; omega
theorem chunksL_len : ∀ ps : List (List UInt8), (∀ p ∈ ps, p.length ≤ 500) → (chunksL ps).length ≤ 520 * ps.length ∧ ps.flatten.length ≤ 500 * ps.length
  | [], _ => by simp [chunksL]
  | p :: ps, h => by
    obtain ⟨i1, i2⟩ := chunksL_len ps (fun q hq => h q (by simp [hq]))
    have hp := h p (by simp)
    have := chunkL_len hp
    constructor
    · show (chunkL p ++ chunksL ps).length ≤ _
      rw [List.length_append, List.length_cons]; omega
    · rw [List.flatten_cons, List.length_append, List.length_cons]; omega
theorem chunkL_nil {p : List UInt8} (h : p.length = 0) : chunkL p = [] := by
  unfold chunkL; rw [if_pos (List.eq_nil_of_length_eq_zero h)]
end Go.Proofs.YtdpcncpfbaigeaaDoor
namespace Go.Proofs.YtdpcncpfbaigeaaDoor.ChunkBackP
open Go.RowKit
set_option linter.unusedSimpArgs false
set_option linter.unusedVariables false

set_option maxRecDepth 100000 in
set_option maxHeartbeats 3200000 in
theorem walk (A : Option Addr) (n c : Nat) (ps : List (List UInt8)) (A' : Option Addr) (n' c' : Nat) (bh : List UInt8) (w : World) (h : RdBs w w.heap.size A n ps) (_hn : n ≤ maxLen) (h' : Rd w w.heap.size 1 A' n' (bcells bh)) (_hn' : n' ≤ maxLen) (mx : Int) (hm : w.cell? ⟨1, 0, none⟩ = some (.int .i64 mx)) (hd : w.cell? ⟨3, 15, none⟩ = some (.int .u8 4)) :
    Calls Tryd.prog 6 #[.slice A n c, .slice A' n' c'] w fun e w' => e = .returned (.bool true) ∧ Below w.heap.size w w' := by
  have hlen' : bh.length = n' := by have := h'.1; rw [bcells_length] at this; omega
  have hlen : ps.length = n := h.1
  have hmb : 1 < w.heap.size := World.block_lt_of_cell? w _ hm
  have hdb : 3 < w.heap.size := World.block_lt_of_cell? w _ hd
  have hmx : Hid (∀ W : World, Below w.heap.size w W → W.cell? ⟨1, 0, none⟩ = some (.int .i64 mx)) := hide fun W bl => (bl.cell (p := ⟨1, 0, none⟩) hmb).trans hm
  have hdx : Hid (∀ W : World, Below w.heap.size w W → W.cell? ⟨3, 15, none⟩ = some (.int .u8 4)) := hide fun W bl => (bl.cell (p := ⟨3, 15, none⟩) hdb).trans hd
  have an : Hid (∀ W : World, Below w.heap.size w W → Calls Tryd.prog 12 #[] W fun e w' => e = .returned (.bool true) ∧ Below W.heap.size W w') := hide fun W bl => ans18_any W (hdx.out W bl)
  have an0 := an.out w (Below.refl _ _)
  obtain ⟨i0, hi0, hz0, hz1, hz2⟩ := info_parts infoU8b
  have hn63 : n ≤ 9223372036854775807 := by unfold maxLen at _hn; omega
  have hn63' : n' ≤ 9223372036854775807 := by unfold maxLen at _hn'; omega
  clear hm hd _hn _hn'
  by_cases h50 : 50 < n
  · have h0' : (50 : Int) < (n : Int) := by omega
    go_enter Tryd.func6, Tryd.ntmps6
    go_wp2_with fail
    refine an0.mono ?_
    rintro e w1 ⟨rfl, b1⟩
    go_wp2_with fail
    go_ret
    exact ⟨rfl, b1⟩
  have h50' : ¬ (50 : Int) < (n : Int) := by omega
  by_cases h500 : 500 < n'
  · have h0' : (500 : Int) < (n' : Int) := by omega
    go_enter Tryd.func6, Tryd.ntmps6
    go_wp2_with fail
    refine an0.mono ?_
    rintro e w1 ⟨rfl, b1⟩
    go_wp2_with fail
    go_ret
    exact ⟨rfl, b1⟩
  have h500' : ¬ (500 : Int) < (n' : Int) := by omega
  clear an0
  obtain ⟨g, hg⟩ : ∃ g, w.heap.size = g := ⟨_, rfl⟩
  go_enter Tryd.func6, Tryd.ntmps6
  go_wp2_with fail
  rw [hg] at h h' hmb hdb hmx hdx an
  go_loopw [5, 6, 7] (fun b a i wr => ∃ (k m1 m2 : Nat) (B1 B2 : Option Addr) (c1 c2 : Nat), k ≤ n ∧ i = .int .i64 k ∧ (∀ p ∈ ps.take k, p.length ≤ 500) ∧ b = .slice B1 m1 c1 ∧ a = .slice B2 m2 c2 ∧ m1 = (chunksL (ps.take k)).length ∧ m2 = (ps.take k).flatten.length ∧ Ow wr g 1 (.slice B1 m1 c1) m1 (bcells (chunksL (ps.take k))) ∧ Ow wr g 1 (.slice B2 m2 c2) m2 (bcells (ps.take k).flatten) ∧ (∀ x, (Value.slice B1 m1 c1).ownBlock = some x → (Value.slice B2 m2 c2).ownBlock ≠ some x) ∧ Below g w wr) (fun _ _ i _ => n - (intOf i).toNat)
  case atStart => exact ⟨0, 0, 0, none, none, 0, 0, Nat.zero_le _, rfl, by simp, rfl, rfl, rfl, rfl, Ow.nil_, Ow.nil_, (fun x e => by cases e), Below.refl _ _⟩
  case round =>
    obtain ⟨k, m1, m2, B1, B2, c1, c2, hk, rfl, hall, rfl, rfl, hm1, hm2, o1, o2, hne, hb⟩ := hrel
    have hgz : g ≤ wr.heap.size := hg ▸ hb.size
    obtain ⟨l1, l2⟩ := chunksL_len _ hall
    rw [← hm1] at l1
    rw [← hm2] at l2
    have hk50 : (ps.take k).length ≤ 50 := by rw [List.length_take]; omega
    have hm1b : m1 ≤ 26000 := by omega
    have hm2b : m2 ≤ 25000 := by omega
    have HALL := hide hall
    have HM1 := hide hm1
    have HM2 := hide hm2
    clear l1 l2 hall hm1 hm2 hk50
    have hbw := h.below hb
    by_cases hlt : k < n
    · obtain ⟨a, Ai, ci, hAa, hab, hcell, hrd, hci, hcm⟩ := hbw.2 k (by omega)
      subst hAa
      have htk := list_take_snoc ps k (by omega)
      obtain ⟨p, hp⟩ : ∃ p, p = ps[k]'(by omega) := ⟨_, rfl⟩
      rw [← hp] at hcell hrd hci htk
      obtain ⟨q, hq⟩ : ∃ q, q = p.length := ⟨_, rfl⟩
      rw [← hq] at hcell hrd hci
      have HTK := hide htk
      have HP := hide hp
      have HQ := hide hq
      clear htk hp hq hbw
      have hq63 : q ≤ 9223372036854775807 := by unfold maxLen at hcm; omega
      by_cases h5 : 500 < q
      · have h5' : (500 : Int) < (q : Int) := by omega
        have anr := an.out wr hb
        clear o1 o2
        go_wp2_with fail
        refine anr.mono ?_
        rintro e w1 ⟨rfl, b1⟩
        have t1 := hb.trans (b1.mono hgz)
        go_wp2_with fail
        go_ret
        rw [hg]
        exact ⟨rfl, t1⟩
      · have h5' : ¬ (500 : Int) < (q : Int) := by omega
        have hpl : p.length ≤ 500 := by have := HQ.out; omega
        have ch := chunk_any Ai q ci g p wr hrd hgz (by omega) (hdx.out wr hb)
        obtain ⟨cl, hcl⟩ : ∃ x, x = chunkL p := ⟨_, rfl⟩
        rw [← hcl] at ch
        obtain ⟨cn, hcn⟩ : ∃ x, x = cl.length := ⟨_, rfl⟩
        rw [← hcn] at ch
        have hcnb : cn ≤ 520 := by rw [hcn, hcl]; exact chunkL_len hpl
        have hz : q = 0 → cn = 0 := fun e => by rw [hcn, hcl, chunkL_nil (by have := HQ.out; omega)]; rfl
        have HCL := hide hcl
        have HCN := hide hcn
        clear hcl hcn
        go_wp2_with fail
        refine ch.mono ?_
        rintro e w1 ⟨A1, cc1, rfl, oc, b1⟩
        have t1 := hb.trans (b1.mono hgz)
        have cell1 := (b1.cell (p := a.add k) (by rw [addr_add_block]; omega)).trans hcell
        have rd1 := hrd.below (b1.mono hgz)
        have oo1 := o1.below b1
        have oo2 := o2.below b1
        have hg1 : g ≤ w1.heap.size := Nat.le_trans hgz b1.size
        have rc := oc.rd
        clear o1 o2 hcell hrd hb ch
        have fin : Hid (∀ (v3 v4 : Value) (w3 w4 : World), Ow w3 g 1 v3 (m1 + cn) (bcells (chunksL (ps.take k)) ++ bcells cl) → Below g w1 w3 → w1.grownBy w3 (Value.slice B1 m1 c1).ownBlock → (v3.ownBlock = (Value.slice B1 m1 c1).ownBlock ∨ ∀ g, v3.ownBlock = some g → w1.heap.size ≤ g) →
            Ow w4 g 1 v4 (m2 + q) (bcells (ps.take k).flatten ++ bcells p) → Below g w3 w4 → w3.grownBy w4 (Value.slice B2 m2 c2).ownBlock → (v4.ownBlock = (Value.slice B2 m2 c2).ownBlock ∨ ∀ g, v4.ownBlock = some g → w3.heap.size ≤ g) →
            ∃ (k' m1 m2 : Nat) (B1 B2 : Option Addr) (c1 c2 : Nat), k' ≤ n ∧ Value.int .i64 ((k : Int) + 1) = .int .i64 k' ∧ (∀ p ∈ ps.take k', p.length ≤ 500) ∧ v3 = .slice B1 m1 c1 ∧ v4 = .slice B2 m2 c2 ∧ m1 = (chunksL (ps.take k')).length ∧ m2 = (ps.take k').flatten.length ∧ Ow w4 g 1 (.slice B1 m1 c1) m1 (bcells (chunksL (ps.take k'))) ∧ Ow w4 g 1 (.slice B2 m2 c2) m2 (bcells (ps.take k').flatten) ∧ (∀ x, (Value.slice B1 m1 c1).ownBlock = some x → (Value.slice B2 m2 c2).ownBlock ≠ some x) ∧ Below g w w4) := by
          refine hide fun v3 v4 w3 w4 x1 x2 x3 x4 y1 y2 y3 y4 => ?_
          obtain ⟨B3, c3, rfl, -⟩ := x1.shape
          obtain ⟨B4, c4, rfl, -⟩ := y1.shape
          have e1 : chunksL (ps.take (k + 1)) = chunksL (ps.take k) ++ cl := by
            rw [HTK.out, chunksL_append, HCL.out]; show _ ++ (chunkL p ++ []) = _; rw [List.append_nil]
          have e2 : (ps.take (k + 1)).flatten = (ps.take k).flatten ++ p := by rw [HTK.out, List.flatten_append]; simp
          have n1 : ∀ x, (Value.slice B3 (m1 + cn) c3).ownBlock = some x → (Value.slice B2 m2 c2).ownBlock ≠ some x := fun x ex e2' => by
            rcases x4 with x4 | x4
            · exact hne x (x4 ▸ ex) e2'
            · have := x4 x ex
              have := (oo2.lt x e2').2
              omega
          have n2 : ∀ x, (Value.slice B3 (m1 + cn) c3).ownBlock = some x → (Value.slice B4 (m2 + q) c4).ownBlock ≠ some x := fun x ex e4 => by
            rcases y4 with y4 | y4
            · exact n1 x ex (y4 ▸ e4)
            · have := y4 x e4
              have := (x1.lt x ex).2
              omega
          refine ⟨k + 1, m1 + cn, m2 + q, B3, B4, c3, c4, by omega, by go_num, ?_, rfl, rfl, ?_, ?_, ?_, ?_, n2, t1.trans (x2.trans y2)⟩
          · intro p' hp'
            rw [HTK.out] at hp'
            rcases List.mem_append.1 hp' with h | h
            · exact HALL.out p' h
            · rw [List.mem_singleton.1 h]; exact hpl
          · rw [e1, List.length_append, ← HM1.out, ← HCN.out]
          · rw [e2, List.length_append, ← HM2.out, ← HQ.out]
          · rw [e1, ← bcells_append]
            refine x1.kept y3 ?_
            by_cases hn : (Value.slice B3 (m1 + cn) c3).ownBlock = none
            · exact .inl hn
            · obtain ⟨x, hx⟩ := Option.ne_none_iff_exists'.1 hn
              exact .inr (fun e => n1 x hx (e.symm.trans hx))
          · rw [e2, ← bcells_append]; exact y1
        have k2 : Hid (∀ w3 : World, w1.grownBy w3 (Value.slice B1 m1 c1).ownBlock → Ow w3 g 1 (.slice B2 m2 c2) m2 (bcells (ps.take k).flatten)) := hide fun w3 x3 => by
          refine oo2.kept x3 ?_
          by_cases hn : (Value.slice B2 m2 c2).ownBlock = none
          · exact .inl hn
          · obtain ⟨x, hx⟩ := Option.ne_none_iff_exists'.1 hn
            exact .inr (fun e => hne x (e.symm.trans hx) hx)
        by_cases hq0 : q = 0
        · subst hq0
          have hcn0 := hz rfl
          subst hcn0
          clear hz
          go_wp2_with (first
            | (at_builtin; refine wpl_append_ow _ rfl _ _ _ rfl g 5 i0 _ 1 1 Tryd.underlying26 hi0 hz0 hz1 hz2 rfl (by omega) _ _ _ rfl _ _ _ _ _ rfl oo1 rc (bcells_one _) (by simp [maxLen]; omega) (by omega) hg1 ?_; intro v3 w3 x1 x2 x3 x4; have oo2' := k2.out w3 x3; have rd3 := rd1.below x2; have hg3 : g ≤ w3.heap.size := Nat.le_trans hg1 x3.size; have cell3 := (x2.cell (p := a.add k) (by rw [addr_add_block]; exact hab)).trans cell1)
            | (at_builtin; refine wpl_append_ow _ rfl _ _ _ rfl g 5 i0 _ 1 1 Tryd.underlying26 hi0 hz0 hz1 hz2 rfl (by omega) _ _ _ rfl _ _ _ _ _ rfl oo2' rd3 (bcells_one _) (by simp [maxLen]; omega) (by omega) hg3 ?_; intro v4 w4 y1 y2 y3 y4))
          go_roundw
          case rel => exact fin.out v3 v4 w3 w4 x1 x2 x3 x4 y1 y2 y3 y4
          case measure => simp [intOf]; omega
        · have hq0' : ¬ (q : Int) = 0 := by omega
          clear hz
          go_wp2_with (first
            | (at_builtin; refine wpl_append_ow _ rfl _ _ _ rfl g 5 i0 _ 1 1 Tryd.underlying26 hi0 hz0 hz1 hz2 rfl (by omega) _ _ _ rfl _ _ _ _ _ rfl oo1 rc (bcells_one _) (by simp [maxLen]; omega) (by omega) hg1 ?_; intro v3 w3 x1 x2 x3 x4; have oo2' := k2.out w3 x3; have rd3 := rd1.below x2; have hg3 : g ≤ w3.heap.size := Nat.le_trans hg1 x3.size; have cell3 := (x2.cell (p := a.add k) (by rw [addr_add_block]; exact hab)).trans cell1)
            | (at_builtin; refine wpl_append_ow _ rfl _ _ _ rfl g 5 i0 _ 1 1 Tryd.underlying26 hi0 hz0 hz1 hz2 rfl (by omega) _ _ _ rfl _ _ _ _ _ rfl oo2' rd3 (bcells_one _) (by simp [maxLen]; omega) (by omega) hg3 ?_; intro v4 w4 y1 y2 y3 y4))
          go_roundw
          case rel => exact fin.out v3 v4 w3 w4 x1 x2 x3 x4 y1 y2 y3 y4
          case measure => simp [intOf]; omega
    · obtain rfl : k = n := by omega
      have htk : ps.take k = ps := List.take_of_length_le (by omega)
      have hps : ∀ p ∈ ps, p.length ≤ 500 := by have := HALL.out; rwa [htk] at this
      have hM1 : m1 = (chunksL ps).length := by have := HM1.out; rwa [htk] at this
      have hM2 : m2 = ps.flatten.length := by have := HM2.out; rwa [htk] at this
      rw [htk] at o1 o2
      have hrun := back_run bh ps hps
      have hT : chunksL ps ++ [48, 13, 10, 13, 10] ++ bh = (chunksL ps ++ [48, 13, 10, 13, 10]) ++ bh := rfl
      obtain ⟨AL, hAL⟩ : ∃ x, x = ps.flatten := ⟨_, rfl⟩
      obtain ⟨CL, hCL⟩ : ∃ x, x = chunksL ps := ⟨_, rfl⟩
      rw [← hAL] at o2 hM2 hrun
      rw [← hCL] at o1 hM1 hrun
      have HRUN := hide hrun
      have HA2 := hide hM2
      have HA1 := hide hM1
      have HLB := hide hlen'
      clear hAL hCL hrun hM1 hM2 hT htk hps HALL HM1 HM2 hbw hlt hk hlen'
      go_wp2_with fail
      refine (last_any wr).mono ?_
      rintro e w1 ⟨rfl, rl, bl⟩
      have t1 := hb.trans (bl.mono hgz)
      have oo1 := o1.below bl
      have oo2 := o2.below bl
      have hg1 : g ≤ w1.heap.size := Nat.le_trans hgz bl.size
      have r1 := h'.below t1
      have k2 : Hid (∀ w3 : World, w1.grownBy w3 (Value.slice B1 m1 c1).ownBlock → Ow w3 g 1 (.slice B2 m2 c2) m2 (bcells AL)) := hide fun w3 x3 => by
        refine oo2.kept x3 ?_
        by_cases hn : (Value.slice B2 m2 c2).ownBlock = none
        · exact .inl hn
        · obtain ⟨x, hx⟩ := Option.ne_none_iff_exists'.1 hn
          exact .inr (fun e => hne x (e.symm.trans hx) hx)
      clear o1 o2 hb bl
      go_wp2_with (first
        | (at_builtin; refine wpl_append_ow _ rfl _ _ _ rfl g 5 i0 _ 1 1 Tryd.underlying26 hi0 hz0 hz1 hz2 rfl (by omega) _ _ _ rfl _ _ _ _ _ rfl oo1 rl (bcells_one _) (by simp [maxLen]; omega) (by omega) hg1 ?_; intro v3 w3 x1 x2 x3 x4; have oo2' := k2.out w3 x3; have rd3 := r1.below x2; have hg3 : g ≤ w3.heap.size := Nat.le_trans hg1 x3.size)
        | (at_builtin; refine wpl_append_ow _ rfl _ _ _ rfl g 5 i0 _ 1 1 Tryd.underlying26 hi0 hz0 hz1 hz2 rfl (by omega) _ _ _ rfl _ _ _ _ _ rfl x1 rd3 (bcells_one _) (by simp [maxLen]; omega) (by omega) hg3 ?_; intro v4 w4 y1 y2 y3 y4))
      have oo4 : Ow w4 g 1 (.slice B2 m2 c2) m2 (bcells AL) := by
        refine oo2'.kept y3 ?_
        by_cases hn : (Value.slice B2 m2 c2).ownBlock = none
        · exact .inl hn
        · obtain ⟨x, hx⟩ := Option.ne_none_iff_exists'.1 hn
          refine .inr (fun e => ?_)
          rcases x4 with x4 | x4
          · exact hne x (x4.symm.trans (e.symm.trans hx)) hx
          · have := x4 x (e.symm.trans hx)
            have := (oo2.lt x hx).2
            omega
      rw [bcells_append, bcells_append] at y1
      obtain ⟨B4, c4, rfl, -⟩ := y1.shape
      obtain ⟨M, hM⟩ : ∃ M, M = m1 + 5 + n' := ⟨_, rfl⟩
      rw [← hM] at y1 ⊢
      have hMb : M ≤ 27000 := by omega
      have hTl : (CL ++ [48, 13, 10, 13, 10] ++ bh).length = M := by have := y1.1; rw [bcells_length] at this; omega
      have t4 := t1.trans (x2.trans y2)
      have r4 := rd3.below y2
      have hg4 : g ≤ w4.heap.size := Nat.le_trans hg3 y3.size
      have hl4 := oo4.lt
      have HM := hide hM
      clear hM x1 x2 x3 x4 y2 y3 y4 oo1 oo2 oo2' rd3 hg3 k2 t1 r1 rl hne
      refine (chunknew_any w4).mono ?_
      rintro e w5 ⟨rfl, z1, b5⟩
      have t5 := t4.trans (b5.mono hg4)
      have d5 := dec_new z1 w4.heap.size (Nat.le_refl _)
      have hz5 := b5.size
      have r5 := r4.below (b5.mono hg4)
      have y5 := y1.below b5
      have a5 := oo4.below b5
      obtain ⟨D, hDw⟩ : ∃ D, w4.heap.size = D := ⟨_, rfl⟩
      rw [hDw] at d5 hz5 hg4 hl4 ⊢
      have p1 := decfeed0_any D D _ w5 d5 rfl B4 M c4 _ (CL ++ [48, 13, 10, 13, 10] ++ bh) y5.rd (by omega) (by omega)
      clear b5 z1 r4 t4 y1 oo4 d5 y5
      go_wp2_with fail
      refine p1.mono ?_
      rintro e w6 ⟨rfl, own6, d6, ow6, g6⟩
      have t6 := t5.grown g6 (by omega) (by intro r e; cases e; omega)
      have hz6 := g6.size
      have hD6 := d6.er_cell.2.2
      have r6 : Rd w6 g 1 A' n' (bcells bh) := h'.below t6
      have a6 := a5.kept g6 (.inr fun e => by have := (hl4 _ e).2; omega)
      have hok6 : DSok ⟨CL ++ [48, 13, 10, 13, 10] ++ bh, 0, 0, 0, 0⟩ := ⟨Nat.zero_le _, Nat.zero_le _, by show 0 + (CL ++ [48, 13, 10, 13, 10] ++ bh).length ≤ _; omega⟩
      have hAl : AL.length = m2 := HA2.out.symm
      obtain ⟨s1, s2, s3, s4, -⟩ := take_run m2 hok6 HRUN.out
      rw [List.take_of_length_le (by omega)] at s1
      rw [List.drop_eq_nil_of_le (by omega)] at s2
      rw [if_pos (by omega)] at s4
      have p2 := dectake_any D D own6 _ m2 mx w6 d6 (fun g e => (ow6 g e).2) (by omega) hok6 (by omega) (hmx.out w6 t6) (by omega)
      rw [s1, s4, hAl] at p2
      obtain ⟨S7, hS7⟩ : ∃ S, S = (takeR m2 ⟨CL ++ [48, 13, 10, 13, 10] ++ bh, 0, 0, 0, 0⟩).2.2 := ⟨_, rfl⟩
      rw [← hS7] at s2 s3 p2
      obtain ⟨-, -, -, q4, q5⟩ := take_run 1 s3 s2
      have q5' := q5 (by decide)
      rw [if_neg (by decide), if_neg (by simp)] at q4
      have p3 := fun (W : World) (q : IsDec W D D own6 S7) (b : Below g w W) (hz : w6.heap.size ≤ W.heap.size) => dectake_any D D own6 S7 1 mx W q (fun g e => by have := (ow6 g e).2; omega) (by omega) s3 (by decide) (hmx.out W b) (by omega)
      have q4' : takeEr 1 S7 = 8 := q4
      have q5'' : (takeR 1 S7).2.2 = ⟨bh, 3, 0, 0, 8⟩ := q5'
      simp only [q4', q5''] at p3
      generalize takeO 1 S7 = o7 at p3
      clear s1 s2 s3 s4 hS7 q4 q5 q5' q4' q5'' p1 t5 g6 d6 r5 a5 HRUN hok6 hTl hAl
      go_wp2_with fail
      refine p2.mono ?_
      rintro e w7 ⟨A7, c7, rfl, v7, d7, g7⟩
      have t7 := t6.grown g7 (by omega) (by intro r e; cases e; omega)
      have hz7 := g7.size
      have a7 := a6.kept g7 (.inr fun e => by have := (hl4 _ e).2; omega)
      clear p2 t6 g7 r6 a6
      go_wp2_with fail
      refine (p3 w7 d7 t7 hz7).mono ?_
      rintro e w8 ⟨A8, c8, rfl, -, d8, g8⟩
      have t8 := t7.grown g8 (by omega) (by intro r e; cases e; omega)
      have hz8 := g8.size
      have r8 : Rd w8 g 1 A' n' (bcells bh) := h'.below t8
      have v8 := v7.kept g8 (.inr fun e => by have := (v7.lt _ e).1; omega)
      have a8 := a7.kept g8 (.inr fun e => by have := (hl4 _ e).2; omega)
      have an8 := an.out w8 t8
      clear p3 t7 g8 d7 v7 a7 ow6
      go_wp2_with fail
      refine an8.mono ?_
      rintro e w9 ⟨rfl, b9⟩
      have t9 := t8.trans (b9.mono (by omega))
      have r9 := r8.below (b9.mono (by omega))
      have v9 := (v8.below b9).rd
      have a9 := (a8.below b9).rd
      have d9 := d8.below b9
      have sm := same_any A7 B2 m2 c7 m2 c2 _ _ AL AL w9 v9 a9 (by omega) (by omega)
      rw [beq_self_eq_true] at sm
      clear an8 b9 t8 r8 v8 a8 d8 v9 a9
      go_wp2_with fail
      refine sm.mono ?_
      rintro e w10 ⟨rfl, kq, rfl⟩
      have t10 := below_drewN (k := kq) t9
      have d10 := d9.drewN kq
      generalize w9.drewN kq = w10 at t10 d10 ⊢
      have rs := decrest_done D D own6 _ w10 d10 rfl
      have hbn : (DS.mk bh 3 0 0 8).inp.length = n' := HLB.out
      rw [hbn] at rs
      clear sm d9 t9 r9
      go_wp2_with fail
      refine rs.mono ?_
      rintro e w11 ⟨A11, c11, rfl, r11, -, g11⟩
      have hz10 := t10.size
      have t11 := t10.grown g11 (by omega) (by intro r e; cases e; omega)
      have sm := same_any A11 A' n' c11 n' c' _ _ bh bh w11 r11 (h'.below t11) (by omega) (by omega)
      rw [beq_self_eq_true] at sm
      clear rs d10 r11 g11
      go_wp2_with fail
      refine sm.mono ?_
      rintro e w12 ⟨rfl, kq2, rfl⟩
      go_wp2_with fail
      go_ret
      rw [hg]
      exact ⟨rfl, below_drewN t11⟩
noncomputable def laidWorld (os : Os) : World := laidWorld7 os
end Go.Proofs.YtdpcncpfbaigeaaDoor.ChunkBackP
