/- LinkLimits returns true for any two numbers and either answer. -/
import Derived.Test.YtfifoimnebbflaaLinkAns
import Derived.Test.YtfifoimnebbflaaLimSpec
import Derived.Test.YtfifoimnebbflaaRingFrame
import Derived.Deep.DeepCutAuto
import Derived.Deep.CutBlock
namespace Go.Proofs.Ytfifoimnebbflaa.LinkLimitsP
open Go.RowKit
set_option linter.unusedVariables false
set_option linter.unusedSimpArgs false

theorem maxLen_cell (w : World) (h : w.ShapedOpen Try.prog) : ∃ m, w.cell? ⟨0, 0, none⟩ = some (.int .i64 m) :=
  cell_of_shapedOpen_int (zero := #[.int .i64 0]) (t := 3) h (of_decide_eq_true (by kernel_rfl)) (by kernel_rfl) rfl (by kernel_rfl) (by kernel_rfl) Try.underlying3
theorem infoU8l : (Try.prog.info? 5).map (fun i => (i.zero, i.size, i.bytes)) = some (some (.int .u8 0), 1, 1) := by kernel_rfl
theorem made_bytes (u : Nat) : (madeCells (Value.int .u8 0).cells (u * 1)).toList = bcells (List.replicate u 0) := by
  apply List.ext_getElem
  · simp [madeCells, bcells]
  · intro i h1 h2
    simp [madeCells, bcells, Value.cells, Nat.mod_one]
theorem make_bytes (w : World) (u : Nat) (hu : u ≤ 1000000) : ∃ w', (Instr.makeSlice 26 (.int .i64 u) (.int .i64 u)).run Try.prog w = .ok (.slice (some ⟨w.heap.size, 0, none⟩) u u) w' ∧
    Ow w' w.heap.size 1 (.slice (some ⟨w.heap.size, 0, none⟩) u u) u (bcells (List.replicate u 0)) ∧ Below w.heap.size w w' := by
  obtain ⟨i0, hi0, hz0, hz1, hz2⟩ := info_parts infoU8l
  have h := run_make (P := Try.prog) w 26 5 i0 _ Try.underlying26 hi0 hz0 .i64 .i64 u u (by omega) (by omega) (by rw [hz2]; omega) (by omega)
  rw [Int.toNat_natCast, hz1] at h
  refine ⟨_, h, ?_, (Below.refl _ _).alloc (Nat.le_refl _) _⟩
  have ho := own_new w (madeCells (Value.int .u8 0).cells (u * 1)) 5 1 u (by rw [size_madeCells]) (by unfold maxLen; omega) w.heap.size (Nat.le_refl _)
  rw [made_bytes] at ho
  exact Ow.of_row ho
theorem bcells_u8 (l : List UInt8) : ∀ x ∈ bcells l, ∃ z : Int, x = .int .u8 z := by
  intro x hx
  obtain ⟨b, _, rfl⟩ := List.mem_map.1 hx
  exact ⟨_, rfl⟩
theorem fill_step (k u : Nat) (h : k < u) : (List.replicate k (97 : UInt8) ++ List.replicate (u - k) 0).set k 97 = List.replicate (k + 1) 97 ++ List.replicate (u - (k + 1)) 0 := by
  rw [show u - k = (u - (k + 1)) + 1 by omega, List.replicate_succ, List.set_append_right _ _ (by simp), List.length_replicate, Nat.sub_self, List.set_cons_zero, List.replicate_succ', List.append_assoc]
  rfl

theorem side_far {w w' : World} {s r mo g : Nat} {ended : Bool} {d : Option Nat} {bs : List UInt8} (h : IsSide w s r mo ended d bs) (hg : w.grownBy w' (some g)) (h1 : g ≠ s) (h2 : g ≠ r) (h3 : d ≠ some g) : IsSide w' s r mo ended d bs :=
  ⟨h.1.grown_ hg (fun e => h1 (Option.some.inj e)), h.2.1.grown hg (fun e => h2 (Option.some.inj e)) (.inr (fun e => h3 e.symm)), h.2.2⟩
theorem wsum (a z m : Nat) (h : z = m - a) (h1 : a < m) (h2 : m ≤ 16387) : wrap64 ((a : Int) + (z : Int)) = (m : Int) := by
  unfold wrap64; omega
theorem rd_endL (w : World) : Rd (w.alloc (.cells #[.int .u8 13, .int .u8 10, .int .u8 13, .int .u8 10] 5)) (w.heap.size + 1) 1 (some ⟨w.heap.size, 0, none⟩) 4 (bcells endL) := rd_new w #[.int .u8 13, .int .u8 10, .int .u8 13, .int .u8 10] 5 1 4 rfl

set_option maxRecDepth 100000 in
set_option maxHeartbeats 3200000 in
theorem walk (n part : Int) (ends : Bool) (w : World) (hn : (Lit.int .u16 n).wf = true) (hp : (Lit.int .u16 part).wf = true) (mx : Int) (hm : w.cell? ⟨0, 0, none⟩ = some (.int .i64 mx)) :
    Calls Try.prog 3 #[.int .u16 n, .int .u16 part, .bool ends] w fun e w' => e = .returned (.bool true) ∧ Below w.heap.size w w' := by
  have hn' : 0 ≤ n ∧ n < 65536 := by simp [Lit.wf, IntKind.min, IntKind.max, IntKind.signed, IntKind.bits] at hn; omega
  have hp' : 0 ≤ part ∧ part < 65536 := by simp [Lit.wf, IntKind.min, IntKind.max, IntKind.signed, IntKind.bits] at hp; omega
  obtain ⟨K, hK, hK1⟩ : ∃ K : Nat, n.tmod 8 = K ∧ K < 8 := ⟨(n.tmod 8).toNat, by rw [Int.tmod_eq_emod_of_nonneg hn'.1]; omega, by rw [Int.tmod_eq_emod_of_nonneg hn'.1]; omega⟩
  obtain ⟨P, hP, hP1⟩ : ∃ K : Nat, part.tmod 5000 = K ∧ K < 5000 := ⟨(part.tmod 5000).toNat, by rw [Int.tmod_eq_emod_of_nonneg hp'.1]; omega, by rw [Int.tmod_eq_emod_of_nonneg hp'.1]; omega⟩
  have hmb : 0 < w.heap.size := World.block_lt_of_cell? w _ hm
  have hmx : Hid (∀ W : World, Below w.heap.size w W → W.cell? ⟨0, 0, none⟩ = some (.int .i64 mx)) := hide fun W bl => (bl.cell (p := ⟨0, 0, none⟩) hmb).trans hm
  clear hn hp hn' hp' hm
  obtain ⟨size, hsz⟩ : ∃ u : Nat, 16380 + (K : Int) = (u : Int) := ⟨16380 + K, by omega⟩
  go_enter Try.func3, Try.ntmps3
  go_wp2_with fail
  refine (linknew_any 20000 w).mono ?_
  obtain ⟨M, hM⟩ : ∃ M, M = bufN 20000 := ⟨_, rfl⟩
  rw [← hM]
  have hM2 : M ≤ 20000 := by rw [hM]; decide
  have hM3 : 20000 ≤ M := by rw [hM]; decide
  clear hM
  rintro e w1 ⟨s, r, rfl, h1, hs, hr, b1⟩
  go_wp2_with fail
  refine (ans25_any w1 mx (hmx.out w1 b1)).mono ?_
  rintro e w2 ⟨rfl, b2⟩
  have h2 := h1.below b2
  have t2 := b1.trans (b2.mono b1.size)
  clear b1 b2 h1
  obtain ⟨w3, hmk, ho3, b3⟩ := make_bytes w2 size (by omega)
  have h3 := h2.below b3
  have hsw : s < w2.heap.size := h2.1.1
  have hrw : r < w2.heap.size := h2.2.1.lt
  have t3 := t2.trans (b3.mono t2.size)
  clear h2 b3
  go_wp2_with fail
  obtain ⟨g, hg⟩ : ∃ g, w2.heap.size = g := ⟨_, rfl⟩
  have hgw : g < w3.heap.size := by
    rcases ho3.2 with ⟨h1, -⟩ | ⟨g', off, cap, h1, -, h2, -⟩
    · cases h1
    · cases h1; omega
  rw [hg] at ho3 hsw hrw ⊢
  have hwg : w.heap.size ≤ g := by rw [← hg]; exact t2.size
  have hs1 : 16380 ≤ size := by omega
  have hs2 : size ≤ 16387 := by omega
  clear hmk hg t2 hsz
  go_loopw [10] (fun i wr => ∃ k : Nat, k ≤ size ∧ i = .int .i64 k ∧ Ow wr g 1 (.slice (some ⟨g, 0, none⟩) size size) size (bcells (List.replicate k 97 ++ List.replicate (size - k) 0)) ∧ IsSide wr s r M false none [] ∧ Below g w3 wr) (fun i _ => size - (intOf i).toNat)
  case atStart => exact ⟨0, Nat.zero_le _, rfl, by simpa using ho3, h3, Below.refl _ _⟩
  case round =>
    obtain ⟨k, hk, rfl, ho, hsd, hb⟩ := hrel
    by_cases hlt : k < size
    · obtain ⟨g', o', hA, hg1, hg2, hc, hf⟩ := ho.at_ (j := k) (by omega)
      cases hA
      have hst := fun v => ho.store (j := k) (by omega) v
      have hset : ∀ v, Below g w3 (wr.setCell ⟨g, 0 + k, none⟩ v) := fun v => hb.setCell (by simp) _
      have hsd2 : ∀ v, IsSide (wr.setCell ⟨g, 0 + k, none⟩ v) s r M false none [] := fun v => side_far hsd (grown_set (World.grownBy.refl _ _) _ v) (by omega) (by omega) (by simp)
      simp only [Nat.zero_add] at hc hf hst hset hsd2
      have HS := hide hst
      have HB := hide hset
      have HD := hide hsd2
      have hlz : k < (bcells (List.replicate k 97 ++ List.replicate (size - k) 0)).length := by rw [bcells_length]; simp; omega
      obtain ⟨z, hz⟩ := bcells_u8 _ _ (List.getElem_mem hlz)
      rw [List.getElem?_eq_getElem hlz, hz] at hc
      have hstep := fill_step k size hlt
      have hsb : (bcells (List.replicate k 97 ++ List.replicate (size - k) 0)).set k (.int .u8 97) = bcells (List.replicate (k + 1) 97 ++ List.replicate (size - (k + 1)) 0) := by
        rw [← hstep]; unfold bcells; rw [List.map_set]; rfl
      have hrel' := HS.out (.int .u8 97)
      rw [hsb] at hrel'
      have HR := hide hrel'
      clear ho hst hset hb HS hstep hsb hrel' hlz hz hsd hsd2 ho3 h3
      go_wp2
      go_roundw
      case rel => exact ⟨k + 1, by omega, by go_num, HR.out, HD.out _, HB.out _⟩
      case measure => simp [intOf]; omega
    · obtain rfl : k = size := by omega
      have ho' : Ow wr g 1 (.slice (some ⟨g, 0, none⟩) k k) k (bcells (List.replicate k 97)) := by simpa using ho
      have hb3 : Below w.heap.size w wr := t3.trans (hb.mono hwg)
      have hgz : g < wr.heap.size := Nat.lt_of_lt_of_le hgw hb.size
      clear ho hlt hk ho3 h3 hb t3
      obtain ⟨i0, hi0, hz0, hz1, hz2⟩ := info_parts infoU8l
      obtain ⟨wq, hwq⟩ : ∃ wq, wq = wr := ⟨_, rfl⟩
      rw [← hwq] at hb3 hsd ho' hgz ⊢
      clear hwq wr
      go_upto_if 37 with (fail)
      go_cut [9] (fun s9 wx => ∃ a9 c9, s9 = .slice (some a9) k c9 ∧ Rd wx wx.heap.size 1 (some a9) k (bcells (limL k ends)) ∧ k ≤ c9 ∧ a9.block ≠ r ∧ IsSide wx s r M false none [] ∧ Below w.heap.size w wx)
      case first =>
        cases ends with
        | false =>
          go_wp2_with fail
          go_meet
          exact ⟨⟨g, 0, none⟩, k, rfl, ho'.rd, Nat.le_refl _, by simp; omega, hsd, hb3⟩
        | true =>
          have hcut := ho'.cut (k := 0) (m := k - 4) (Nat.zero_le _) (by omega)
          have hcx : ((bcells (List.replicate k 97)).drop (0 * 1)).take ((k - 4 - 0) * 1) = bcells (List.replicate (k - 4) 97) := by
            rw [Nat.zero_mul, List.drop_zero, Nat.mul_one, Nat.sub_zero, bcells_take, List.take_replicate, Nat.min_eq_left (by omega)]
          rw [hcx] at hcut
          have hz0' : ¬ k = 0 := by omega
          simp only [hz0', if_false, Nat.sub_zero, Option.map_some, Nat.zero_mul, Addr.add_zero'] at hcut
          have hwl : Below wq.heap.size wq (wq.alloc (.cells #[.int .u8 13, .int .u8 10, .int .u8 13, .int .u8 10] 5)) := (Below.refl _ _).alloc (Nat.le_refl _) _
          have hre := rd_endL wq
          have ho4 := hcut.below hwl
          have hsd4 := hsd.below hwl
          have hgq : g ≤ (wq.alloc (.cells #[.int .u8 13, .int .u8 10, .int .u8 13, .int .u8 10] 5)).heap.size := by simp; omega
          clear hcut hcx
          go_wp2_with (at_builtin; refine wpl_append_ow _ rfl _ _ _ rfl g 5 i0 _ 1 1 Try.underlying26 hi0 hz0 hz1 hz2 rfl (by omega) _ _ _ rfl _ _ _ _ _ rfl ho4 hre (bcells_one _) (by unfold maxLen; omega) (by omega) hgq ?_; intro v1 w4 hown1 hb1 hg1 hv1; obtain ⟨A1, c1, rfl, hc1, -⟩ := Ow.shape hown1)
          go_meet
          have e4 : k - 4 + 4 = k := by omega
          rw [e4] at hown1 hc1 ⊢
          rw [bcells_append] at hown1
          rcases A1 with _ | a1
          · have := hown1.rd.2
            rcases this with h0 | ⟨_, h0, _⟩
            · omega
            · cases h0
          have hl1 := (hown1.lt a1.block rfl).1
          exact ⟨a1, c1, rfl, by simpa [limL] using hown1.rd, hc1, by omega, side_far (g := g) hsd4 hg1 (by omega) (by omega) (by simp), (hb3.trans (hwl.mono hb3.size)).trans (hb1.mono hwg)⟩
      case rest =>
        obtain ⟨a9, c9, rfl, r9, hc9, hne9, hsd9, b9⟩ := hcut
        clear hsd ho' hb3
        have hll := limL_len (size := k) (by omega) ends
        obtain ⟨L, hL⟩ : ∃ L, L = limL k ends := ⟨_, rfl⟩
        rw [← hL] at r9 hll
        have HL := hide hL
        clear hL
        obtain ⟨w9, hw9⟩ : ∃ wq, wq = wc := ⟨_, rfl⟩
        rw [← hw9] at r9 hsd9 b9 ⊢
        clear hw9 wc
        go_wp2_with fail
        go_loopw [11] (fun i wr => ∃ (a : Nat) (d' : Option Nat), a ≤ k ∧ i = .int .i64 a ∧ IsSide wr s r M false d' (L.take a) ∧ w9.grownBy wr (some r)) (fun i _ => k - (intOf i).toNat)
        case atStart => exact ⟨0, none, Nat.zero_le _, rfl, hsd9, World.grownBy.refl _ _⟩
        case round =>
          obtain ⟨a, d', hak, rfl, hsr, hgr⟩ := hrel
          by_cases hlt : a < k
          · obtain ⟨m, hm, hm2⟩ : ∃ m : Nat, m = min (a + P + 1) k ∧ a < m := ⟨_, rfl, by omega⟩
            have hm3 : m ≤ k := by omega
            have rr := (r9.grown hgr (Nat.le_refl _) (by intro x hx; cases hx; intro e; exact hne9 (Option.some.inj e).symm)).cut (k := a) (m := m) (cap := c9) (by omega) hm3 hc9
            have hca : ¬ c9 = a := by omega
            simp only [hca, if_false, Option.map_some, Nat.mul_one, bcells_drop, bcells_take] at rr
            have q1 := linkfeed_any s r M d' (L.take a) (some (a9.add a)) (m - a) (c9 - a) _ ((L.drop a).take (m - a)) wr hsr rr hgr.size (by omega) (by omega)
            have hmin : min (m - a) (M - (L.take a).length) = m - a := by rw [List.length_take]; omega
            rw [hmin, List.take_take, Nat.min_self] at q1
            have happ : L.take a ++ (L.drop a).take (m - a) = L.take m := by
              rw [← List.take_append_drop a (L.take m), List.take_take, Nat.min_eq_left (by omega), List.drop_take]
            rw [happ] at q1
            clear hmin
            have HE := hide (show ((L.drop a).take (m - a)).length ≤ k by rw [List.length_take, List.length_drop]; omega)
            obtain ⟨y, hy⟩ : ∃ y : Nat, y = a + P := ⟨_, rfl⟩
            obtain ⟨x, hx⟩ : ∃ x : Nat, x = y + 1 := ⟨_, rfl⟩
            have hax : a < x := by rw [hx, hy]; omega
            have hmx' : m = min x k := by rw [hx, hy]; exact hm
            have hq : (a : Int) + (P : Int) + 1 = (x : Int) := by omega
            have HS := hide (And.intro hs1 (And.intro hM2 hM3))
            have HL := hide hll
            have hsz := hgr.size
            clear happ rr hs1 hM2 hM3 hm hll hx hy
            by_cases hc : x ≤ k
            · obtain rfl : m = x := by omega
              have i1 : ¬ (k : Int) < (m : Int) := by omega
              have i2 : (m : Int) ≤ (c9 : Int) := by omega
              obtain ⟨z, hz⟩ : ∃ z, z = m - a := ⟨_, rfl⟩
              have i3 : ¬ (z : Int) < 1 := by omega
              have HW := hide (wsum a z m hz hm2 (by omega))
              have HZ := hide hz
              clear hmx' hz
              go_wp2_with fail
              refine q1.mono ?_
              rintro e w4 ⟨he, d4, s4, -, g4⟩
              rw [← HZ.out] at he
              subst he
              clear q1
              go_wp2_with fail
              go_roundw
              case rel => exact ⟨m, d4, hm3, by rw [HW.out], s4, grown_trans hgr g4⟩
              case measure => rw [HW.out]; simp [intOf]; omega
            · obtain rfl : m = k := by omega
              have i1 : (m : Int) < (x : Int) := by omega
              have i2 : (m : Int) ≤ (c9 : Int) := by omega
              obtain ⟨z, hz⟩ : ∃ z, z = m - a := ⟨_, rfl⟩
              have i3 : ¬ (z : Int) < 1 := by omega
              have HW := hide (wsum a z m hz hm2 (by omega))
              have HZ := hide hz
              clear hmx' hz
              go_wp2_with fail
              refine q1.mono ?_
              rintro e w4 ⟨he, d4, s4, -, g4⟩
              rw [← HZ.out] at he
              subst he
              clear q1
              go_wp2_with fail
              go_roundw
              case rel => exact ⟨m, d4, hm3, by rw [HW.out], s4, grown_trans hgr g4⟩
              case measure => rw [HW.out]; simp [intOf]; omega
          · obtain rfl : a = k := by omega
            have hLt : L.take a = L := List.take_of_length_le (by omega)
            rw [hLt] at hsr
            have bw : Below w.heap.size w wr := b9.grown hgr b9.size (by intro k ek; cases ek; exact hr)
            obtain ⟨wq, hwq⟩ : ∃ wq, wq = wr := ⟨_, rfl⟩
            rw [← hwq] at hsr bw ⊢
            have qh := linkhead_any s r M false d' L mx wq hsr (hmx.out wq bw)
            clear hwq hgr hsd9 b9 r9 hLt hlt wr
            rcases lim_end a ends (by omega) with ⟨he, hz, e1, e2⟩ | ⟨hno, e1⟩
            · rw [← HL.out] at e1 e2
              subst he
              have x1 : hdE L false = 0 := by unfold hdE; rw [if_pos e1]
              have x2 : hdO L = L := by unfold hdO; rw [if_pos e1, e2]; exact List.take_of_length_le (by omega)
              rw [x1, x2, hll, List.drop_eq_nil_of_le (by omega)] at qh
              have i1 : (a : Int) ≤ 16384 := by omega
              clear x1 x2 e1 e2 hsr
              go_wp2_with fail
              refine qh.mono ?_
              rintro e w5 ⟨A5, c5, rfl, -, s5, g5⟩
              have b5 : Below w.heap.size w w5 := bw.grown g5 bw.size (by intro k ek; cases ek; exact hr)
              have q6 := linkheld_any s r M false d' [] w5 s5
              clear qh s5 g5
              go_wp2_with fail
              refine q6.mono ?_
              rintro e w6 ⟨rfl, kq, rfl⟩
              go_wp2_with fail
              go_ret
              exact ⟨rfl, below_drewN b5⟩
            · rw [← HL.out] at e1
              by_cases h16 : 16384 ≤ a
              · rw [if_pos h16] at e1
                have x1 : hdE L false = 6 := by unfold hdE; rw [e1]; rfl
                have x2 : hdO L = [] := by unfold hdO; rw [if_neg (by omega)]
                rw [x1, x2] at qh
                change Calls _ _ _ _ (fun e w' => ∃ A c, e = .returned (.tuple #[.slice A 0 c, .int .i64 6]) ∧ Rd w' w'.heap.size 1 A 0 (bcells []) ∧ IsSide w' s r M false d' L ∧ wq.grownBy w' (some r)) at qh
                have i1 : (16384 : Int) ≤ (a : Int) := by omega
                have hcond : ends = true → ¬ (a : Int) ≤ 16384 := fun h h' => hno ⟨h, by omega⟩
                have HN := hide hno
                clear x1 x2 e1 hsr hno
                cases ends with
                | false =>
                  clear hcond
                  go_wp2_with fail
                  refine qh.mono ?_
                  rintro e w5 ⟨A5, c5, rfl, -, s5, g5⟩
                  have b5 : Below w.heap.size w w5 := bw.grown g5 bw.size (by intro k ek; cases ek; exact hr)
                  have q6 := linkheld_any s r M false d' L w5 s5
                  rw [hll] at q6
                  clear qh s5 g5
                  go_wp2_with fail
                  refine q6.mono ?_
                  rintro e w6 ⟨rfl, kq, rfl⟩
                  go_wp2_with fail
                  go_ret
                  exact ⟨rfl, below_drewN b5⟩
                | true =>
                  replace hcond := hcond rfl
                  go_wp2_with fail
                  refine qh.mono ?_
                  rintro e w5 ⟨A5, c5, rfl, -, s5, g5⟩
                  have b5 : Below w.heap.size w w5 := bw.grown g5 bw.size (by intro k ek; cases ek; exact hr)
                  have q6 := linkheld_any s r M false d' L w5 s5
                  rw [hll] at q6
                  clear qh s5 g5
                  go_wp2_with fail
                  refine q6.mono ?_
                  rintro e w6 ⟨rfl, kq, rfl⟩
                  go_wp2_with fail
                  go_ret
                  exact ⟨rfl, below_drewN b5⟩
              · rw [if_neg h16] at e1
                have x1 : hdE L false = 5 := by unfold hdE; rw [e1]; rfl
                have x2 : hdO L = [] := by unfold hdO; rw [if_neg (by omega)]
                rw [x1, x2] at qh
                change Calls _ _ _ _ (fun e w' => ∃ A c, e = .returned (.tuple #[.slice A 0 c, .int .i64 5]) ∧ Rd w' w'.heap.size 1 A 0 (bcells []) ∧ IsSide w' s r M false d' L ∧ wq.grownBy w' (some r)) at qh
                have i1 : ¬ (16384 : Int) ≤ (a : Int) := by omega
                have i2 : (a : Int) ≤ 16384 := by omega
                obtain rfl : ends = false := by
                  cases ends with
                  | false => rfl
                  | true => exact absurd ⟨rfl, by omega⟩ hno
                clear x1 x2 e1 hsr hno
                go_wp2_with fail
                refine qh.mono ?_
                rintro e w5 ⟨A5, c5, rfl, -, s5, g5⟩
                have b5 : Below w.heap.size w w5 := bw.grown g5 bw.size (by intro k ek; cases ek; exact hr)
                clear qh s5 g5
                go_wp2_with fail
                go_ret
                exact ⟨rfl, b5⟩
end Go.Proofs.Ytfifoimnebbflaa.LinkLimitsP
