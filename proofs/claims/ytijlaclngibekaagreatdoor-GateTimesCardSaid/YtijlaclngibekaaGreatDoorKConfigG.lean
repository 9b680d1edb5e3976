/- A configuration by value as an argument, opened. -/
import Derived.Test.YtijlaclngibekaaGreatDoorKAgainG
import Derived.Test.YtijlaclngibekaaGreatDoorKTextsG
import Derived.Test.YtijlaclngibekaaGreatDoorKBase
import Derived.Deep.CutRange
import Derived.Deep.DeepCutAuto
import Derived.Deep.CutBlock
import Derived.Deep.Slices
namespace Go.Proofs.YtijlaclngibekaaGreatDoor
open Go.RowKit Go.ChangeShapes Go.WideShapes Go.ChangeAt Go.Deep
open Go.Joins (open_agg4)

theorem array7 {α : Type} {cs : Array α} (h : cs.size = 7) : ∃ c0 c1 c2 c3 c4 c5 c6, cs = #[c0, c1, c2, c3, c4, c5, c6] := by
  obtain ⟨l⟩ := cs
  match l, h with
  | [c0, c1, c2, c3, c4, c5, c6], _ => exact ⟨c0, c1, c2, c3, c4, c5, c6, rfl⟩
section
variable {H : Type} {enc : TypeId × Value → H} {P : Program} {w : World} {base : Nat} {spare : Bool} {held : Nat → Bool}
theorem open_agg7 {r : Reach} {b0 : Nat} {t : TypeId} {f0 f1 f2 f3 f4 f5 f6 : Field} {v : Value} {d : DataW H} {p : List MemPlace} (hs : P.underlying t = some (.struct #[f0, f1, f2, f3, f4, f5, f6])) (hone : oneCellFields P #[f0, f1, f2, f3, f4, f5, f6] = true) (hC : P.cellsOf t = 7)
    (hv : Value.okWide P w r b0 t v) (h : DataW.Trod enc P w base held spare t v d p) :
    ∃ (v0 v1 v2 v3 v4 v5 v6 : Value) (y0 y1 y2 y3 y4 y5 y6 : DataW H × List MemPlace) (n : Nat), v = .agg #[v0, v1, v2, v3, v4, v5, v6] ∧ d = .agg [y0.1, y1.1, y2.1, y3.1, y4.1, y5.1, y6.1] ∧
      DataW.trod enc P w base held spare n f0.type [v0] = some y0 ∧ DataW.trod enc P w base held spare n f1.type [v1] = some y1 ∧ DataW.trod enc P w base held spare n f2.type [v2] = some y2 ∧ DataW.trod enc P w base held spare n f3.type [v3] = some y3 ∧
      DataW.trod enc P w base held spare n f4.type [v4] = some y4 ∧ DataW.trod enc P w base held spare n f5.type [v5] = some y5 ∧ DataW.trod enc P w base held spare n f6.type [v6] = some y6 := by
  obtain ⟨cs, rfl, hsz⟩ := okWide_struct hs hv
  obtain ⟨c0, c1, c2, c3, c4, c5, c6, rfl⟩ := array7 (hsz.trans hC)
  obtain ⟨fuel, hf⟩ := h
  obtain ⟨xs, n, _, hx, hl, hlen, hfs⟩ := DataW.trod_struct hs hf
  match xs, hlen with
  | [y0, y1, y2, y3, y4, y5, y6], _ =>
    obtain ⟨o0, k0⟩ := hone_of hone 0 f0 rfl
    obtain ⟨o1, k1⟩ := hone_of hone 1 f1 rfl
    obtain ⟨o2, k2⟩ := hone_of hone 2 f2 rfl
    obtain ⟨o3, k3⟩ := hone_of hone 3 f3 rfl
    obtain ⟨o4, k4⟩ := hone_of hone 4 f4 rfl
    obtain ⟨o5, k5⟩ := hone_of hone 5 f5 rfl
    obtain ⟨o6, k6⟩ := hone_of hone 6 f6 rfl
    simp only [Prod.mk.injEq] at hx
    refine ⟨c0, c1, c2, c3, c4, c5, c6, y0, y1, y2, y3, y4, y5, y6, n, rfl, by simpa using hx.1, ?_, ?_, ?_, ?_, ?_, ?_, ?_⟩
    · simpa [Value.cells, o0, k0] using hfs 0 f0 rfl
    · simpa [Value.cells, o1, k1] using hfs 1 f1 rfl
    · simpa [Value.cells, o2, k2] using hfs 2 f2 rfl
    · simpa [Value.cells, o3, k3] using hfs 3 f3 rfl
    · simpa [Value.cells, o4, k4] using hfs 4 f4 rfl
    · simpa [Value.cells, o5, k5] using hfs 5 f5 rfl
    · simpa [Value.cells, o6, k6] using hfs 6 f6 rfl
end
section
variable {H : Type} {enc : TypeId × Value → H} {W : World}
set_option maxRecDepth 100000 in
/-- A slice of texts, by its cells. -/
theorem open_texts_c {fuel : Nat} {cs : List Value} {x : DataW H × List MemPlace} (hf : DataW.trod enc Tryz.prog W 0 (fun _ => true) true fuel 23 cs = some x) (hw : ∀ k ∈ x.1.weights Tryz.prog 23, k ≤ reachBytes) :
    ∃ A n c ls, cs = [.slice A n c] ∧ Rd W W.heap.size 1 A n (scells ls) ∧ n ≤ c ∧ c ≤ maxLen ∧ ∀ l ∈ ls, l.length ≤ reachBytes := by
  rcases Go.Deep.open_strs Tryz.underlying23 Tryz.underlying9 cellsStr hf with ⟨h0, _⟩ | ⟨a, len, cap', m, Sx, h0, _, hl, hm, hmm, hx, hc⟩
  · exact ⟨none, 0, 0, [], h0, Rd.nil_, Nat.le_refl _, Nat.zero_le _, by simp⟩
  · simp only [if_true] at hmm
    subst hmm
    rw [hx] at hw
    unfold DataW.weights at hw
    rw [Tryz.underlying23] at hw
    have hel : ∀ i, i < len → (Sx i).data.toList.length ≤ reachBytes := fun i hi => by
      refine hw _ (List.mem_cons_of_mem _ (List.mem_append_left _ (weightsAll_mem (d := .lit (.string (Sx i).data.toList)) ?_ _ ?_)))
      · exact List.mem_map.2 ⟨i, List.mem_range.2 hi, rfl⟩
      · simp [DataW.weights]
    refine ⟨some a, len, m, (List.range len).map fun i => (Sx i).data.toList, h0, ⟨by simp [scells], ?_⟩, hl, hm, ?_⟩
    · rcases Nat.eq_zero_or_pos len with h0 | h0
      · exact .inl h0
      · refine .inr ⟨a, rfl, ?_, fun j u hu => ?_⟩
        · have := World.block_lt_of_cell? W _ (hc 0 (by omega)).1
          rwa [addr_add_block] at this
        · have hj : j < len := by have := (List.getElem?_eq_some_iff.1 hu).1; simpa [scells] using this
          have := (hc j (by omega)).1
          rw [this]
          simp [scells, hj] at hu
          rw [← hu]
    · intro l hl'
      obtain ⟨i, hi, rfl⟩ := List.mem_map.1 hl'
      exact hel i (List.mem_range.1 hi)
set_option maxRecDepth 100000 in
/-- A configuration. -/
theorem open_config {r : Reach} {b0 : Nat} {v : Value} {d : DataW H} {p : List MemPlace} (hv : Value.okWide Tryz.prog W r b0 25 v) (h : DataW.Trod enc Tryz.prog W 0 (fun _ => true) true 25 v d p) (hw : ∀ k ∈ d.weights Tryz.prog 25, k ≤ reachBytes) :
    ∃ (A0 A : Option Addr) (n0 c0 n c : Nat) (lv least cp bf tm : Int) (ls : List (List UInt8)), v = .agg #[.slice A0 n0 c0, .slice A n c, .int .i64 lv, .int .i64 least, .int .i64 cp, .int .i64 bf, .int .i64 tm] ∧ Rd W W.heap.size 1 A n (scells ls) ∧ n ≤ c ∧ c ≤ maxLen ∧
      (∀ l ∈ ls, l.length ≤ reachBytes) ∧ (Lit.int .i64 least).wf = true := by
  obtain ⟨v0, v1, v2, v3, v4, v5, v6, y0, y1, y2, y3, y4, y5, y6, n, rfl, rfl, h0, h1, h2, h3, h4, h5, h6⟩ := open_agg7 Tryz.underlying25 (by kernel_rfl) (by kernel_rfl) hv h
  unfold DataW.weights at hw
  rw [Tryz.underlying25] at hw
  simp only [List.map_cons, List.map_nil, DataW.weightsEach, List.append_nil, List.mem_append] at hw
  obtain ⟨A0, n0, c0, e0⟩ := Go.Joins.slice_form Tryz.underlying22 h0
  obtain ⟨A, n1, c1, ls, e1, g⟩ := open_texts_c h1 (fun k hk => hw k (.inr (.inl hk)))
  obtain ⟨i2, e2, _, _⟩ := DataW.trod_int Tryz.underlying3 h2
  obtain ⟨i3, e3, _, hwf⟩ := DataW.trod_int Tryz.underlying3 h3
  obtain ⟨i4, e4, _, _⟩ := DataW.trod_int Tryz.underlying3 h4
  obtain ⟨i5, e5, _, _⟩ := DataW.trod_int Tryz.underlying3 h5
  obtain ⟨i6, e6, _, _⟩ := DataW.trod_int Tryz.underlying3 h6
  simp only [List.cons.injEq, and_true] at e0 e1 e2 e3 e4 e5 e6
  subst e0 e1 e2 e3 e4 e5 e6
  exact ⟨A0, A, n0, c0, n1, c1, i2, i3, i4, i5, i6, ls, rfl, g.1, g.2.1, g.2.2.1, g.2.2.2, hwf⟩
end
end Go.Proofs.YtijlaclngibekaaGreatDoor
/- A gateway's configuration as an argument. -/
namespace Go.Proofs.YtijlaclngibekaaGreatDoor
open Go.RowKit
set_option linter.unusedVariables false
set_option linter.unusedSimpArgs false

abbrev RtI := List UInt8 × List UInt8 × Int
def rcellsI (rs : List RtI) : List Value := rs.flatMap fun r => [.string ⟨r.1.toArray⟩, .string ⟨r.2.1.toArray⟩, .int .i64 r.2.2]
structure CfgA where
  AR : Option Addr
  nR : Nat
  cR : Nat
  AT : Option Addr
  nT : Nat
  cT : Nat
  a : Int
  b : Int
  c : Int
  d : Int
  e : Int
  rs : List RtI
  ts : List (List UInt8)
def CfgA.val (C : CfgA) : Value := .agg #[.slice C.AR C.nR C.cR, .slice C.AT C.nT C.cT, .int .i64 C.a, .int .i64 C.b, .int .i64 C.c, .int .i64 C.d, .int .i64 C.e]
def CfgA.In (C : CfgA) (w : World) (base : Nat) : Prop := Rd w base 3 C.AR C.nR (rcellsI C.rs) ∧ Rd w base 1 C.AT C.nT (scells C.ts)
theorem CfgA.In.below {C : CfgA} {w w' : World} {B : Nat} (h : C.In w B) (hb : Below B w w') : C.In w' B := ⟨h.1.below hb, h.2.below hb⟩
theorem rcellsI_length (l : List RtI) : (rcellsI l).length = l.length * 3 := by
  induction l with
  | nil => rfl
  | cons x l ih =>
    unfold rcellsI at ih ⊢
    rw [List.flatMap_cons, List.length_append, ih]
    simp only [List.length_cons, List.length_nil]; omega
theorem rcellsI_at : ∀ (l : List RtI) (k : Nat) (h : k < l.length), (rcellsI l)[k * 3]? = some (.string ⟨l[k].1.toArray⟩) ∧ (rcellsI l)[k * 3 + 1]? = some (.string ⟨l[k].2.1.toArray⟩) ∧ (rcellsI l)[k * 3 + 2]? = some (.int .i64 l[k].2.2)
  | [], k, h => by simp at h
  | x :: l, 0, h => ⟨rfl, rfl, rfl⟩
  | x :: l, k + 1, h => by
    have ih := rcellsI_at l k (by simpa using h)
    have e : ∀ j, (rcellsI (x :: l))[(k + 1) * 3 + j]? = (rcellsI l)[k * 3 + j]? := fun j => by
      show ([_, _, _] ++ rcellsI l)[_]? = _
      rw [List.getElem?_append_right (by simp; omega)]
      congr 1
      simp only [List.length_cons, List.length_nil]; omega
    exact ⟨(e 0).trans ih.1, (e 1).trans ih.2.1, (e 2).trans ih.2.2⟩
theorem CfgA.In.nR {C : CfgA} {w : World} {B : Nat} (h : C.In w B) : C.rs.length = C.nR := by have := h.1.1; rw [rcellsI_length] at this; omega
theorem CfgA.In.nT {C : CfgA} {w : World} {B : Nat} (h : C.In w B) : C.ts.length = C.nT := by have := h.2.1; rw [scells_length] at this; omega
theorem CfgA.In.rt {C : CfgA} {w : World} {B : Nat} (h : C.In w B) {k : Nat} (hk : k < C.nR) : ∃ (hl : k < C.rs.length) (ab ao : Nat), C.AR = some ⟨ab, ao, none⟩ ∧ ab < B ∧ w.cell? ⟨ab, ao + k * 3, none⟩ = some (.string ⟨C.rs[k].1.toArray⟩) ∧ w.cell? ⟨ab, ao + k * 3 + 1, none⟩ = some (.string ⟨C.rs[k].2.1.toArray⟩) ∧ w.cell? ⟨ab, ao + k * 3 + 2, none⟩ = some (.int .i64 C.rs[k].2.2) := by
  have hl : C.rs.length = C.nR := by have := h.1.1; rw [rcellsI_length] at this; omega
  have hk' : k < C.rs.length := by omega
  obtain ⟨ab, ao, hA, hb, hc⟩ := h.1.lit hk (by omega)
  obtain ⟨e0, e1, e2⟩ := rcellsI_at C.rs k hk'
  exact ⟨hk', ab, ao, hA, hb, hc _ _ e0, by rw [Nat.add_assoc]; exact hc _ _ e1, by rw [Nat.add_assoc]; exact hc _ _ e2⟩
end Go.Proofs.YtijlaclngibekaaGreatDoor
/- A configuration, opened into CfgA. -/
namespace Go.Proofs.YtijlaclngibekaaGreatDoor
open Go.RowKit Go.ChangeShapes Go.WideShapes Go.ChangeAt
set_option linter.unusedVariables false

theorem list_of {α : Type} {P : Nat → α → Prop} : ∀ (n : Nat) (h : ∀ k, k < n → ∃ x, P k x), ∃ l : List α, l.length = n ∧ ∀ k (hk : k < l.length), P k l[k]
  | 0, _ => ⟨[], rfl, fun k hk => absurd hk (Nat.not_lt_zero _)⟩
  | n + 1, h => by
    obtain ⟨l, hl, hp⟩ := list_of n fun k hk => h k (by omega)
    obtain ⟨x, hx⟩ := h n (Nat.lt_succ_self n)
    refine ⟨l ++ [x], by simp [hl], fun k hk => ?_⟩
    rcases Nat.lt_or_ge k l.length with h1 | h1
    · rw [List.getElem_append_left h1]; exact hp k h1
    · have : k = n := by simp at hk; omega
      subst this
      rw [List.getElem_append_right h1]
      simpa [hl] using hx
theorem slice_weight {H : Type} {enc : TypeId × Value → H} {W : World} {fuel : Nat} {t e : TypeId} {A : Option Addr} {n c : Nat} {x : DataW H × List MemPlace} (ht : Tryz.prog.underlying t = some (.slice e)) (hb : 1 ≤ Tryz.prog.bytesOf e) (hf : DataW.trod enc Tryz.prog W 0 (fun _ => true) true fuel t [.slice A n c] = some x) (hw : ∀ k ∈ x.1.weights Tryz.prog t, k ≤ reachBytes) : n ≤ reachBytes := by
  rcases Go.Deep.open_slice ht hf with ⟨h0, _⟩ | ⟨a, len', cap', m, n', D, Pl, h0, _, hl, hm, hmm, hx, hc⟩
  · cases h0; exact Nat.zero_le _
  · cases h0
    rw [hx] at hw
    unfold DataW.weights at hw
    rw [ht] at hw
    have := hw _ List.mem_cons_self
    simp only [List.length_map, List.length_range] at this
    have h2 : n * 1 ≤ (n + (m - n)) * Tryz.prog.bytesOf e := Nat.mul_le_mul (Nat.le_add_right _ _) hb
    omega
theorem elem_weight {H : Type} {t e : TypeId} (ht : Tryz.prog.underlying t = some (.slice e)) {l spare : List (DataW H)} (hw : ∀ k ∈ (DataW.slice l spare).weights Tryz.prog t, k ≤ reachBytes) {d : DataW H} (hd : d ∈ l) : ∀ k ∈ d.weights Tryz.prog e, k ≤ reachBytes := by
  intro k hk
  unfold DataW.weights at hw
  rw [ht] at hw
  exact hw k (List.mem_cons_of_mem _ (List.mem_append_left _ (weightsAll_mem hd k hk)))
theorem range_elem {α : Type} (D : Nat → α) {n k : Nat} (h : k < n) : D k ∈ (List.range n).map D := List.mem_map.2 ⟨k, List.mem_range.2 h, rfl⟩
theorem bytesRoute : 1 ≤ Tryz.prog.bytesOf 30 := by rw [show Tryz.prog.bytesOf 30 = 40 by kernel_rfl]; decide
theorem bytesStr27 : 1 ≤ Tryz.prog.bytesOf 9 := by rw [show Tryz.prog.bytesOf 9 = 16 by kernel_rfl]; decide
theorem cellsRoute : Tryz.prog.cellsOf 30 = 3 := by kernel_rfl
set_option maxRecDepth 100000 in
theorem open_routes_c {H : Type} {enc : TypeId × Value → H} {W : World} {fuel : Nat} {cs : List Value} {x : DataW H × List MemPlace} (hf : DataW.trod enc Tryz.prog W 0 (fun _ => true) true fuel 22 cs = some x) (hw : ∀ k ∈ x.1.weights Tryz.prog 22, k ≤ reachBytes) :
    ∃ A n c rs, cs = [.slice A n c] ∧ Rd W W.heap.size 3 A n (rcellsI rs) ∧ n ≤ reachBytes ∧ (∀ r ∈ rs, r.1.length ≤ reachBytes ∧ r.2.1.length ≤ reachBytes ∧ r.2.2 ≤ 9223372036854775807) := by
  have hnw : ∀ A n c, cs = [.slice A n c] → n ≤ reachBytes := fun A n c e => by subst e; exact slice_weight Tryz.underlying22 bytesRoute hf hw
  rcases Go.Deep.open_slice Tryz.underlying22 hf with ⟨h0, _⟩ | ⟨a, len', cap', m, n', D, Pl, h0, _, hl, hm, hmm, hx, hc⟩
  · exact ⟨none, 0, 0, [], h0, ⟨rfl, .inl rfl⟩, Nat.zero_le _, by simp⟩
  · simp only [if_true] at hmm
    subst hmm
    rw [hx] at hw
    have key : ∀ k, k < len' → ∃ r : RtI, W.cell? (a.add (k * 3)) = some (.string ⟨r.1.toArray⟩) ∧ W.cell? ((a.add (k * 3)).add 1) = some (.string ⟨r.2.1.toArray⟩) ∧ W.cell? ((a.add (k * 3)).add 2) = some (.int .i64 r.2.2) ∧ r.1.length ≤ reachBytes ∧ r.2.1.length ≤ reachBytes ∧ r.2.2 ≤ 9223372036854775807 := fun k hk => by
      have hwk : ∀ q ∈ (D k).weights Tryz.prog 30, q ≤ reachBytes := elem_weight Tryz.underlying22 hw (range_elem D hk)
      obtain ⟨cs', h1, h2⟩ := hc k (by omega)
      rw [cellsRoute] at h1
      obtain ⟨-, h3, h4⟩ := World.cells?_some h1
      obtain ⟨y0, y1, y2, n2, hD, -, f0, f1, f2⟩ := Go.Deep.trod_struct3 Tryz.underlying30 h2
      match cs', h3 with
      | [x0, x1, x2], _ =>
        have e0 : DataW.trod enc Tryz.prog W 0 (fun _ => true) true n2 9 [x0] = some y0 := f0
        have e1 : DataW.trod enc Tryz.prog W 0 (fun _ => true) true n2 9 [x1] = some y1 := f1
        have e2 : DataW.trod enc Tryz.prog W 0 (fun _ => true) true n2 3 [x2] = some y2 := f2
        obtain ⟨s0, g0, d0, _⟩ := DataW.trod_string Tryz.underlying9 e0
        obtain ⟨s1, g1, d1, _⟩ := DataW.trod_string Tryz.underlying9 e1
        have hD1 : D k = .agg [y0.1, y1.1, y2.1] := congrArg Prod.fst hD
        rw [hD1, d0, d1] at hwk
        unfold DataW.weights at hwk
        rw [Tryz.underlying30] at hwk
        simp only [List.map_cons, List.map_nil, DataW.weightsEach, DataW.weights, List.append_nil, List.mem_append, List.mem_singleton] at hwk
        have l0 := hwk _ (.inl rfl)
        have l1 := hwk _ (.inr (.inl rfl))
        obtain ⟨z2, g2, -, wf⟩ := DataW.trod_int Tryz.underlying3 e2
        simp only [List.cons.injEq, and_true] at g0 g1 g2
        subst g0 g1 g2
        have k0 := h4 0 (by omega)
        have k1 := h4 1 (by omega)
        have k2 := h4 2 (by omega)
        simp [Lit.wf, IntKind.min, IntKind.max, IntKind.signed, IntKind.bits] at wf
        refine ⟨(s0.data.toList, s1.data.toList, z2), ?_, ?_, k2, ?_, ?_, by simp only; omega⟩
        · simpa [Addr.add] using k0
        · simpa using k1
        · exact l0
        · exact l1
    obtain ⟨rs, hlen, hrs⟩ := list_of len' key
    refine ⟨some a, len', m, rs, h0, ⟨by rw [rcellsI_length, hlen], ?_⟩, hnw _ _ _ h0, ?_⟩
    · rcases Nat.eq_zero_or_pos len' with h0 | h0
      · exact .inl h0
      · refine .inr ⟨a, rfl, ?_, fun j u hu => ?_⟩
        · obtain ⟨k0, -⟩ := key 0 h0
          obtain ⟨c0, -⟩ := hrs 0 (by omega)
          have := World.block_lt_of_cell? W _ c0
          rwa [addr_add_block] at this
        · have hj : j < (rcellsI rs).length := (List.getElem?_eq_some_iff.1 hu).1
          rw [rcellsI_length, hlen] at hj
          have hk : j / 3 < rs.length := by omega
          obtain ⟨c0, c1, c2, -⟩ := hrs (j / 3) hk
          obtain ⟨e0, e1, e2⟩ := rcellsI_at rs (j / 3) hk
          have hm3 : j % 3 = 0 ∨ j % 3 = 1 ∨ j % 3 = 2 := by omega
          rcases hm3 with h | h | h
          · have : j = j / 3 * 3 := by omega
            rw [this] at hu ⊢
            rw [e0] at hu; rw [c0, ← hu]
          · have : j = j / 3 * 3 + 1 := by omega
            rw [this] at hu ⊢
            rw [e1] at hu; rw [← addr_add_add, c1, ← hu]
          · have : j = j / 3 * 3 + 2 := by omega
            rw [this] at hu ⊢
            rw [e2] at hu; rw [← addr_add_add, c2, ← hu]
    · intro r hr
      obtain ⟨k, hk, rfl⟩ := List.mem_iff_getElem.mp hr
      exact (hrs k hk).2.2.2
/-- What the opened arguments' sizes and numbers are. -/
def CfgB (C : CfgA) : Prop := C.nR ≤ reachBytes ∧ C.nT ≤ reachBytes ∧ (∀ r ∈ C.rs, r.1.length ≤ reachBytes ∧ r.2.1.length ≤ reachBytes ∧ r.2.2 ≤ 9223372036854775807) ∧ (∀ t ∈ C.ts, t.length ≤ reachBytes) ∧
      C.a ≤ 9223372036854775807 ∧ C.b ≤ 9223372036854775807 ∧ C.c ≤ 9223372036854775807 ∧ C.d ≤ 9223372036854775807 ∧ C.e ≤ 9223372036854775807
set_option maxRecDepth 100000 in
theorem open_cfgA {H : Type} {enc : TypeId × Value → H} {W : World} {r : Reach} {b0 : Nat} {v : Value} {d : DataW H} {p : List MemPlace} (hv : Value.okWide Tryz.prog W r b0 25 v) (h : DataW.Trod enc Tryz.prog W 0 (fun _ => true) true 25 v d p) (hw : ∀ k ∈ d.weights Tryz.prog 25, k ≤ reachBytes) :
    ∃ C : CfgA, v = C.val ∧ C.In W W.heap.size ∧ CfgB C := by
  obtain ⟨v0, v1, v2, v3, v4, v5, v6, y0, y1, y2, y3, y4, y5, y6, n, rfl, rfl, h0, h1, h2, h3, h4, h5, h6⟩ := open_agg7 Tryz.underlying25 (by kernel_rfl) (by kernel_rfl) hv h
  unfold DataW.weights at hw
  rw [Tryz.underlying25] at hw
  simp only [List.map_cons, List.map_nil, DataW.weightsEach, List.append_nil, List.mem_append] at hw
  obtain ⟨A0, n0, c0, rs, e0, rd0, l0, z0⟩ := open_routes_c h0 (fun k hk => hw k (.inl hk))
  obtain ⟨A, n1, c1, ls, e1, g⟩ := open_texts_c h1 (fun k hk => hw k (.inr (.inl hk)))
  have hnT : n1 ≤ reachBytes := by rw [e1] at h1; exact slice_weight Tryz.underlying23 bytesStr27 h1 (fun k hk => hw k (.inr (.inl hk)))
  obtain ⟨i2, e2, _, w2⟩ := DataW.trod_int Tryz.underlying3 h2
  obtain ⟨i3, e3, _, w3⟩ := DataW.trod_int Tryz.underlying3 h3
  obtain ⟨i4, e4, _, w4⟩ := DataW.trod_int Tryz.underlying3 h4
  obtain ⟨i5, e5, _, w5⟩ := DataW.trod_int Tryz.underlying3 h5
  obtain ⟨i6, e6, _, w6⟩ := DataW.trod_int Tryz.underlying3 h6
  simp only [List.cons.injEq, and_true] at e0 e1 e2 e3 e4 e5 e6
  subst e0 e1 e2 e3 e4 e5 e6
  simp [Lit.wf, IntKind.min, IntKind.max, IntKind.signed, IntKind.bits] at w2 w3 w4 w5 w6
  exact ⟨⟨A0, n0, c0, A, n1, c1, i2, i3, i4, i5, i6, rs, ls⟩, rfl, ⟨rd0, g.1⟩, l0, hnT, z0, g.2.2.2, by simp only; omega, by simp only; omega, by simp only; omega, by simp only; omega, by simp only; omega⟩
end Go.Proofs.YtijlaclngibekaaGreatDoor
