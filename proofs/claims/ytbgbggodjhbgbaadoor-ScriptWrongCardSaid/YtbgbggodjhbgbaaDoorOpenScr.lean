/- A configuration and acts as arguments, opened into CfgA and ActA. -/
import Derived.Test.YtbgbggodjhbgbaaDoorConfig
import Derived.Test.YtbgbggodjhbgbaaDoorOpenBs
import Derived.Test.YtbgbggodjhbgbaaDoorScrFl
import Derived.Test.YtbgbggodjhbgbaaDoorScrLight
import Derived.Deep.Slices
namespace Go.Proofs.YtbgbggodjhbgbaaDoor
open Go.RowKit Go.ChangeShapes Go.WideShapes Go.ChangeAt
set_option linter.unusedVariables false

theorem list_of {α : Type} {P : Nat → α → Prop} : ∀ (n : Nat) (h : ∀ k, k < n → ∃ x, P k x), ∃ l : List α, l.length = n ∧ ∀ k (hk : k < l.length), P k l[k]
  | 0, _ => ⟨[], rfl, fun k hk => absurd hk (Nat.not_lt_zero _)⟩
  | n + 1, h => by
    obtain ⟨l, hl, hp⟩ := list_of n fun k hk => h k (by omega)
    obtain ⟨x, hx⟩ := h n (Nat.lt_succ_self n)
    refine ⟨l ++ [x], by simp [hl], fun k hk => ?_⟩
    rcases Nat.lt_or_ge k l.length with h1 | h1
    · rw [List.getElem_append_left h1]; exact hp k h1
    · have : k = n := by simp at hk; omega
      subst this
      rw [List.getElem_append_right h1]
      simpa [hl] using hx
theorem slice_weight {H : Type} {enc : TypeId × Value → H} {W : World} {fuel : Nat} {t e : TypeId} {A : Option Addr} {n c : Nat} {x : DataW H × List MemPlace} (ht : Tryd.prog.underlying t = some (.slice e)) (hb : 1 ≤ Tryd.prog.bytesOf e) (hf : DataW.trod enc Tryd.prog W 0 (fun _ => true) true fuel t [.slice A n c] = some x) (hw : ∀ k ∈ x.1.weights Tryd.prog t, k ≤ reachBytes) : n ≤ reachBytes := by
  rcases Go.Deep.open_slice ht hf with ⟨h0, _⟩ | ⟨a, len', cap', m, n', D, Pl, h0, _, hl, hm, hmm, hx, hc⟩
  · cases h0; exact Nat.zero_le _
  · cases h0
    rw [hx] at hw
    unfold DataW.weights at hw
    rw [ht] at hw
    have := hw _ List.mem_cons_self
    simp only [List.length_map, List.length_range] at this
    have h2 : n * 1 ≤ (n + (m - n)) * Tryd.prog.bytesOf e := Nat.mul_le_mul (Nat.le_add_right _ _) hb
    omega
theorem elem_weight {H : Type} {t e : TypeId} (ht : Tryd.prog.underlying t = some (.slice e)) {l spare : List (DataW H)} (hw : ∀ k ∈ (DataW.slice l spare).weights Tryd.prog t, k ≤ reachBytes) {d : DataW H} (hd : d ∈ l) : ∀ k ∈ d.weights Tryd.prog e, k ≤ reachBytes := by
  intro k hk
  unfold DataW.weights at hw
  rw [ht] at hw
  exact hw k (List.mem_cons_of_mem _ (List.mem_append_left _ (weightsAll_mem hd k hk)))
theorem range_elem {α : Type} (D : Nat → α) {n k : Nat} (h : k < n) : D k ∈ (List.range n).map D := List.mem_map.2 ⟨k, List.mem_range.2 h, rfl⟩
theorem bytesRoute : 1 ≤ Tryd.prog.bytesOf 42 := by rw [show Tryd.prog.bytesOf 42 = 40 by kernel_rfl]; decide
theorem bytesAct27 : 1 ≤ Tryd.prog.bytesOf 40 := by rw [show Tryd.prog.bytesOf 40 = 48 by kernel_rfl]; decide
theorem bytesByt : 1 ≤ Tryd.prog.bytesOf 5 := by rw [show Tryd.prog.bytesOf 5 = 1 by kernel_rfl]; decide
theorem bytesStr27 : 1 ≤ Tryd.prog.bytesOf 9 := by rw [show Tryd.prog.bytesOf 9 = 16 by kernel_rfl]; decide
theorem cellsRoute : Tryd.prog.cellsOf 42 = 3 := by kernel_rfl
set_option maxRecDepth 100000 in
theorem open_routes_c {H : Type} {enc : TypeId × Value → H} {W : World} {fuel : Nat} {cs : List Value} {x : DataW H × List MemPlace} (hf : DataW.trod enc Tryd.prog W 0 (fun _ => true) true fuel 22 cs = some x) (hw : ∀ k ∈ x.1.weights Tryd.prog 22, k ≤ reachBytes) :
    ∃ A n c rs, cs = [.slice A n c] ∧ Rd W W.heap.size 3 A n (rcellsI rs) ∧ n ≤ reachBytes ∧ (∀ r ∈ rs, r.1.length ≤ reachBytes ∧ r.2.1.length ≤ reachBytes ∧ r.2.2 ≤ 9223372036854775807) := by
  have hnw : ∀ A n c, cs = [.slice A n c] → n ≤ reachBytes := fun A n c e => by subst e; exact slice_weight Tryd.underlying22 bytesRoute hf hw
  rcases Go.Deep.open_slice Tryd.underlying22 hf with ⟨h0, _⟩ | ⟨a, len', cap', m, n', D, Pl, h0, _, hl, hm, hmm, hx, hc⟩
  · exact ⟨none, 0, 0, [], h0, ⟨rfl, .inl rfl⟩, Nat.zero_le _, by simp⟩
  · simp only [if_true] at hmm
    subst hmm
    rw [hx] at hw
    have key : ∀ k, k < len' → ∃ r : RtI, W.cell? (a.add (k * 3)) = some (.string ⟨r.1.toArray⟩) ∧ W.cell? ((a.add (k * 3)).add 1) = some (.string ⟨r.2.1.toArray⟩) ∧ W.cell? ((a.add (k * 3)).add 2) = some (.int .i64 r.2.2) ∧ r.1.length ≤ reachBytes ∧ r.2.1.length ≤ reachBytes ∧ r.2.2 ≤ 9223372036854775807 := fun k hk => by
      have hwk : ∀ q ∈ (D k).weights Tryd.prog 42, q ≤ reachBytes := elem_weight Tryd.underlying22 hw (range_elem D hk)
      obtain ⟨cs', h1, h2⟩ := hc k (by omega)
      rw [cellsRoute] at h1
      obtain ⟨-, h3, h4⟩ := World.cells?_some h1
      obtain ⟨y0, y1, y2, n2, hD, -, f0, f1, f2⟩ := Go.Deep.trod_struct3 Tryd.underlying42 h2
      match cs', h3 with
      | [x0, x1, x2], _ =>
        have e0 : DataW.trod enc Tryd.prog W 0 (fun _ => true) true n2 9 [x0] = some y0 := f0
        have e1 : DataW.trod enc Tryd.prog W 0 (fun _ => true) true n2 9 [x1] = some y1 := f1
        have e2 : DataW.trod enc Tryd.prog W 0 (fun _ => true) true n2 3 [x2] = some y2 := f2
        obtain ⟨s0, g0, d0, _⟩ := DataW.trod_string Tryd.underlying9 e0
        obtain ⟨s1, g1, d1, _⟩ := DataW.trod_string Tryd.underlying9 e1
        have hD1 : D k = .agg [y0.1, y1.1, y2.1] := congrArg Prod.fst hD
        rw [hD1, d0, d1] at hwk
        unfold DataW.weights at hwk
        rw [Tryd.underlying42] at hwk
        simp only [List.map_cons, List.map_nil, DataW.weightsEach, DataW.weights, List.append_nil, List.mem_append, List.mem_singleton] at hwk
        have l0 := hwk _ (.inl rfl)
        have l1 := hwk _ (.inr (.inl rfl))
        obtain ⟨z2, g2, -, wf⟩ := DataW.trod_int Tryd.underlying3 e2
        simp only [List.cons.injEq, and_true] at g0 g1 g2
        subst g0 g1 g2
        have k0 := h4 0 (by omega)
        have k1 := h4 1 (by omega)
        have k2 := h4 2 (by omega)
        simp [Lit.wf, IntKind.min, IntKind.max, IntKind.signed, IntKind.bits] at wf
        refine ⟨(s0.data.toList, s1.data.toList, z2), ?_, ?_, k2, ?_, ?_, by simp only; omega⟩
        · simpa [Addr.add] using k0
        · simpa using k1
        · exact l0
        · exact l1
    obtain ⟨rs, hlen, hrs⟩ := list_of len' key
    refine ⟨some a, len', m, rs, h0, ⟨by rw [rcellsI_length, hlen], ?_⟩, hnw _ _ _ h0, ?_⟩
    · rcases Nat.eq_zero_or_pos len' with h0 | h0
      · exact .inl h0
      · refine .inr ⟨a, rfl, ?_, fun j u hu => ?_⟩
        · obtain ⟨k0, -⟩ := key 0 h0
          obtain ⟨c0, -⟩ := hrs 0 (by omega)
          have := World.block_lt_of_cell? W _ c0
          rwa [addr_add_block] at this
        · have hj : j < (rcellsI rs).length := (List.getElem?_eq_some_iff.1 hu).1
          rw [rcellsI_length, hlen] at hj
          have hk : j / 3 < rs.length := by omega
          obtain ⟨c0, c1, c2, -⟩ := hrs (j / 3) hk
          obtain ⟨e0, e1, e2⟩ := rcellsI_at rs (j / 3) hk
          have hm3 : j % 3 = 0 ∨ j % 3 = 1 ∨ j % 3 = 2 := by omega
          rcases hm3 with h | h | h
          · have : j = j / 3 * 3 := by omega
            rw [this] at hu ⊢
            rw [e0] at hu; rw [c0, ← hu]
          · have : j = j / 3 * 3 + 1 := by omega
            rw [this] at hu ⊢
            rw [e1] at hu; rw [← addr_add_add, c1, ← hu]
          · have : j = j / 3 * 3 + 2 := by omega
            rw [this] at hu ⊢
            rw [e2] at hu; rw [← addr_add_add, c2, ← hu]
    · intro r hr
      obtain ⟨k, hk, rfl⟩ := List.mem_iff_getElem.mp hr
      exact (hrs k hk).2.2.2
theorem cellsByt : Tryd.prog.cellsOf 5 = 1 := by kernel_rfl
theorem cellsAct27 : Tryd.prog.cellsOf 40 = 4 := by kernel_rfl
set_option maxRecDepth 100000 in
/-- A slice of bytes, by its cell. -/
theorem open_byt_c {H : Type} {enc : TypeId × Value → H} {W : World} {fuel : Nat} {cs : List Value} {x : DataW H × List MemPlace} (hf : DataW.trod enc Tryd.prog W 0 (fun _ => true) true fuel 38 cs = some x) :
    ∃ A n c bs, cs = [.slice A n c] ∧ Rd W W.heap.size 1 A n (bcells bs) ∧ n ≤ c ∧ c ≤ maxLen := by
  rcases open_ints Tryd.underlying38 Tryd.underlying5 cellsByt hf with ⟨h0, _⟩ | ⟨a, len, cap, zs, h0, _, hl, hm, hmm, _, hc, hwf⟩
  · exact ⟨none, 0, 0, [], h0, Rd.nil_, Nat.le_refl _, Nat.zero_le _⟩
  · simp only [if_true] at hmm
    have hz : ∀ z ∈ zs, 0 ≤ z ∧ z < 256 := fun z hz => by
      have := hwf z hz
      simp [Lit.wf, IntKind.min, IntKind.max, IntKind.signed, IntKind.bits] at this
      omega
    refine ⟨some a, len, cap, (zs.take len).map fun z => UInt8.ofNat z.toNat, h0, ⟨by simp [bcells]; omega, ?_⟩, hl, hm⟩
    rcases Nat.eq_zero_or_pos len with h0 | h0
    · exact .inl h0
    · refine .inr ⟨a, rfl, ?_, fun j u hu => ?_⟩
      · have := World.block_lt_of_cell? W _ (hc 0 (by omega))
        rwa [addr_add_block] at this
      · have hj : j < (bcells ((zs.take len).map fun z => UInt8.ofNat z.toNat)).length := (List.getElem?_eq_some_iff.1 hu).1
        have hj2 : j < len ∧ j < zs.length := by simp [bcells] at hj; omega
        rw [hc j hj2.2]
        have h2 := hz zs[j] (List.getElem_mem hj2.2)
        have hjt : j < (zs.take len).length := by rw [List.length_take]; omega
        have e1 : (bcells ((zs.take len).map fun z => UInt8.ofNat z.toNat))[j]? = some (.int .u8 zs[j]) := by
          unfold bcells
          rw [List.getElem?_map, List.getElem?_map, List.getElem?_eq_getElem hjt, List.getElem_take]
          show some (Value.int .u8 ((UInt8.ofNat (zs[j]).toNat).toNat : Int)) = _
          rw [show ((UInt8.ofNat (zs[j]).toNat).toNat : Int) = zs[j] by simp; omega]
        rw [e1] at hu
        rw [← hu, List.getD_eq_getElem?_getD, List.getElem?_eq_getElem hj2.2, Option.getD_some]
/-- What the opened arguments' sizes and numbers are. -/
def CfgB (C : CfgA) : Prop := C.nR ≤ reachBytes ∧ C.nT ≤ reachBytes ∧ (∀ r ∈ C.rs, r.1.length ≤ reachBytes ∧ r.2.1.length ≤ reachBytes ∧ r.2.2 ≤ 9223372036854775807) ∧ (∀ t ∈ C.ts, t.length ≤ reachBytes) ∧
      C.a ≤ 9223372036854775807 ∧ C.b ≤ 9223372036854775807 ∧ C.c ≤ 9223372036854775807 ∧ C.d ≤ 9223372036854775807 ∧ C.e ≤ 9223372036854775807
def ActB (S : ActA) : Prop := S.n ≤ reachBytes ∧ ∀ a ∈ S.al, a.2.2.2.length ≤ reachBytes ∧ a.1 ≤ 9223372036854775807 ∧ a.2.1 ≤ 9223372036854775807 ∧ a.2.2.1 ≤ 9223372036854775807
theorem light_of {C : CfgA} {S : ActA} (h : CfgB C) (k : ActB S) : LightBounds C S := by
  obtain ⟨h1, h2, h3, h4, -⟩ := h
  obtain ⟨k1, k2⟩ := k
  have e2 : reachBytes ≤ 140737488355328 := by decide
  exact ⟨by omega, by omega, by omega, fun r hr => ⟨by have := h3 r hr; omega, by have := h3 r hr; omega⟩, fun t ht => by have := h4 t ht; omega, fun a ha => by have := k2 a ha; omega⟩
theorem i64_of {C : CfgA} {S : ActA} (h : CfgB C) (k : ActB S) : I64 C S := ⟨h.2.2.2.2, fun r hr => (h.2.2.1 r hr).2.2, fun a ha => (k.2 a ha).2⟩
set_option maxRecDepth 100000 in
theorem open_cfgA {H : Type} {enc : TypeId × Value → H} {W : World} {r : Reach} {b0 : Nat} {v : Value} {d : DataW H} {p : List MemPlace} (hv : Value.okWide Tryd.prog W r b0 25 v) (h : DataW.Trod enc Tryd.prog W 0 (fun _ => true) true 25 v d p) (hw : ∀ k ∈ d.weights Tryd.prog 25, k ≤ reachBytes) :
    ∃ C : CfgA, v = C.val ∧ C.In W W.heap.size ∧ CfgB C := by
  obtain ⟨v0, v1, v2, v3, v4, v5, v6, y0, y1, y2, y3, y4, y5, y6, n, rfl, rfl, h0, h1, h2, h3, h4, h5, h6⟩ := open_agg7 Tryd.underlying25 (by kernel_rfl) (by kernel_rfl) hv h
  unfold DataW.weights at hw
  rw [Tryd.underlying25] at hw
  simp only [List.map_cons, List.map_nil, DataW.weightsEach, List.append_nil, List.mem_append] at hw
  obtain ⟨A0, n0, c0, rs, e0, rd0, l0, z0⟩ := open_routes_c h0 (fun k hk => hw k (.inl hk))
  obtain ⟨A, n1, c1, ls, e1, g⟩ := open_texts_c h1 (fun k hk => hw k (.inr (.inl hk)))
  have hnT : n1 ≤ reachBytes := by rw [e1] at h1; exact slice_weight Tryd.underlying23 bytesStr27 h1 (fun k hk => hw k (.inr (.inl hk)))
  obtain ⟨i2, e2, _, w2⟩ := DataW.trod_int Tryd.underlying3 h2
  obtain ⟨i3, e3, _, w3⟩ := DataW.trod_int Tryd.underlying3 h3
  obtain ⟨i4, e4, _, w4⟩ := DataW.trod_int Tryd.underlying3 h4
  obtain ⟨i5, e5, _, w5⟩ := DataW.trod_int Tryd.underlying3 h5
  obtain ⟨i6, e6, _, w6⟩ := DataW.trod_int Tryd.underlying3 h6
  simp only [List.cons.injEq, and_true] at e0 e1 e2 e3 e4 e5 e6
  subst e0 e1 e2 e3 e4 e5 e6
  simp [Lit.wf, IntKind.min, IntKind.max, IntKind.signed, IntKind.bits] at w2 w3 w4 w5 w6
  exact ⟨⟨A0, n0, c0, A, n1, c1, i2, i3, i4, i5, i6, rs, ls⟩, rfl, ⟨rd0, g.1⟩, l0, hnT, z0, g.2.2.2, by simp only; omega, by simp only; omega, by simp only; omega, by simp only; omega, by simp only; omega⟩
set_option maxRecDepth 100000 in
theorem open_actsA {H : Type} {enc : TypeId × Value → H} {W : World} {r : Reach} {b0 : Nat} {v : Value} {d : DataW H} {p : List MemPlace} (hv : Value.okWide Tryd.prog W r b0 26 v) (h : DataW.Trod enc Tryd.prog W 0 (fun _ => true) true 26 v d p) (hw : ∀ k ∈ d.weights Tryd.prog 26, k ≤ reachBytes) :
    ∃ S : ActA, v = S.val ∧ S.In W W.heap.size ∧ ActB S := by
  obtain ⟨a, len, cap, rfl⟩ := okWide_slice Tryd.underlying26 hv
  obtain ⟨fuel, hf⟩ := h
  have hnw : len ≤ reachBytes := slice_weight Tryd.underlying26 bytesAct27 hf hw
  rcases Go.Deep.open_slice Tryd.underlying26 hf with ⟨h0, _⟩ | ⟨a, len', cap', m, n', D, Pl', h0, _, hl, hm, hmm, hx, hc⟩
  · simp only [Value.cells, List.cons.injEq, and_true] at h0
    cases h0
    exact ⟨⟨none, 0, 0, [], []⟩, rfl, ⟨⟨rfl, .inl rfl⟩, rfl, fun i h => absurd h (Nat.not_lt_zero _)⟩, Nat.zero_le _, by simp⟩
  · simp only [Value.cells, List.cons.injEq, and_true] at h0
    cases h0
    simp only [if_true] at hmm
    subst hmm
    have hx1 := congrArg Prod.fst hx
    simp only at hx1
    rw [hx1] at hw
    have key : ∀ k, k < len → ∃ x : AcI × Pl, W.cell? (a.add (k * 4)) = some (.int .i64 x.1.1) ∧ W.cell? ((a.add (k * 4)).add 1) = some (.int .i64 x.1.2.1) ∧ W.cell? ((a.add (k * 4)).add 2) = some (.int .i64 x.1.2.2.1) ∧ W.cell? ((a.add (k * 4)).add 3) = some (.slice x.2.1 x.1.2.2.2.length x.2.2) ∧
        Rd W W.heap.size 1 x.2.1 x.1.2.2.2.length (bcells x.1.2.2.2) ∧ x.1.2.2.2.length ≤ reachBytes ∧ x.1.1 ≤ 9223372036854775807 ∧ x.1.2.1 ≤ 9223372036854775807 ∧ x.1.2.2.1 ≤ 9223372036854775807 := fun k hk => by
      obtain ⟨cs', h1, h2⟩ := hc k (by omega)
      rw [cellsAct27] at h1
      obtain ⟨-, h3, h4⟩ := World.cells?_some h1
      have hwk : ∀ q ∈ (D k).weights Tryd.prog 40, q ≤ reachBytes := elem_weight Tryd.underlying26 hw (range_elem D hk)
      obtain ⟨ys, n2, _, hD, hl2, hlen, hfs⟩ := DataW.trod_struct Tryd.underlying40 h2
      match cs', h3 with
      | [x0, x1, x2, x3], _ =>
        match ys, hlen with
        | [y0, y1, y2, y3], _ =>
          have e0 : DataW.trod enc Tryd.prog W 0 (fun _ => true) true n2 3 [x0] = some y0 := hfs 0 _ rfl
          have e1 : DataW.trod enc Tryd.prog W 0 (fun _ => true) true n2 3 [x1] = some y1 := hfs 1 _ rfl
          have e2 : DataW.trod enc Tryd.prog W 0 (fun _ => true) true n2 3 [x2] = some y2 := hfs 2 _ rfl
          have e3 : DataW.trod enc Tryd.prog W 0 (fun _ => true) true n2 38 [x3] = some y3 := hfs 3 _ rfl
          obtain ⟨z0, g0, -, w0⟩ := DataW.trod_int Tryd.underlying3 e0
          obtain ⟨z1, g1, -, w1⟩ := DataW.trod_int Tryd.underlying3 e1
          obtain ⟨z2, g2, -, w2⟩ := DataW.trod_int Tryd.underlying3 e2
          obtain ⟨A, n, c, bs, g3, rd, hnc, hcm⟩ := open_byt_c e3
          have hD1 : D k = .agg [y0.1, y1.1, y2.1, y3.1] := congrArg Prod.fst hD
          rw [hD1] at hwk
          unfold DataW.weights at hwk
          rw [Tryd.underlying40] at hwk
          simp only [List.map_cons, List.map_nil, DataW.weightsEach, List.append_nil, List.mem_append] at hwk
          have hdl : n ≤ reachBytes := by
            rw [g3] at e3
            exact slice_weight Tryd.underlying38 bytesByt e3 (fun q hq => hwk q (.inr (.inr (.inr hq))))
          simp only [List.cons.injEq, and_true] at g0 g1 g2 g3
          subst g0 g1 g2 g3
          have k0 := h4 0 (by omega)
          have k1 := h4 1 (by omega)
          have k2 := h4 2 (by omega)
          have k3 := h4 3 (by omega)
          simp [Lit.wf, IntKind.min, IntKind.max, IntKind.signed, IntKind.bits] at w0 w1 w2
          have hbn : bs.length = n := by have := rd.1; simpa [bcells] using this
          subst hbn
          refine ⟨((z0, z1, z2, bs), (A, c)), ?_, k1, k2, k3, rd, by simp only; omega, by simp only; omega, by simp only; omega, by simp only; omega⟩
          simpa [Addr.add] using k0
    obtain ⟨rs, hlen, hrs⟩ := list_of len key
    have hll : (rs.map (·.1)).length = (rs.map (·.2)).length := by simp
    refine ⟨⟨some a, len, _, rs.map (·.1), rs.map (·.2)⟩, rfl, ⟨⟨by rw [acellsI_length _ _ hll, List.length_map, hlen], ?_⟩, hll, fun i h1 h2 => ?_⟩, hnw, ?_⟩
    · rcases Nat.eq_zero_or_pos len with h0 | h0
      · exact .inl h0
      · refine .inr ⟨a, rfl, ?_, fun j u hu => ?_⟩
        · obtain ⟨c0, -⟩ := hrs 0 (by omega)
          have := World.block_lt_of_cell? W _ c0
          rwa [addr_add_block] at this
        · have hj : j < (acellsI (rs.map (·.1)) (rs.map (·.2))).length := (List.getElem?_eq_some_iff.1 hu).1
          rw [acellsI_length _ _ hll, List.length_map, hlen] at hj
          have hk : j / 4 < rs.length := by omega
          obtain ⟨c0, c1, c2, c3, -⟩ := hrs (j / 4) hk
          obtain ⟨e0, e1, e2, e3⟩ := acellsI_at (rs.map (·.1)) (rs.map (·.2)) hll (j / 4) (by simpa using hk)
          simp only [List.getElem_map] at e0 e1 e2 e3
          have hm4 : j % 4 = 0 ∨ j % 4 = 1 ∨ j % 4 = 2 ∨ j % 4 = 3 := by omega
          rcases hm4 with h | h | h | h
          · have : j = j / 4 * 4 := by omega
            rw [this] at hu ⊢
            rw [e0] at hu; rw [c0, ← hu]
          · have : j = j / 4 * 4 + 1 := by omega
            rw [this] at hu ⊢
            rw [e1] at hu; rw [← addr_add_add, c1, ← hu]
          · have : j = j / 4 * 4 + 2 := by omega
            rw [this] at hu ⊢
            rw [e2] at hu; rw [← addr_add_add, c2, ← hu]
          · have : j = j / 4 * 4 + 3 := by omega
            rw [this] at hu ⊢
            rw [e3] at hu; rw [← addr_add_add, c3, ← hu]
    · have hk : i < rs.length := by simpa using h1
      obtain ⟨-, -, -, -, rd, -⟩ := hrs i hk
      simp only [List.getElem_map]
      exact rd
    · intro x hx
      obtain ⟨y, hy, rfl⟩ := List.mem_map.1 hx
      obtain ⟨k, hk, rfl⟩ := List.mem_iff_getElem.mp hy
      obtain ⟨-, -, -, -, -, q⟩ := hrs k hk
      exact q
end Go.Proofs.YtbgbggodjhbgbaaDoor
