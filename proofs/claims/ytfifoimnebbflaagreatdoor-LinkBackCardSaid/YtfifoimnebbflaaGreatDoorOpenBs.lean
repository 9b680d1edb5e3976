/- An argument that is a slice of requests, opened. -/
import Derived.Test.YtfifoimnebbflaaGreatDoorAgain
import Derived.Deep.Slices
import Derived.Deep.Matrix
namespace Go.Proofs.YtfifoimnebbflaaGreatDoor
open Go.RowKit Go.ChangeShapes Go.WideShapes Go.ChangeAt
set_option linter.unusedVariables false
set_option linter.unusedSimpArgs false

/-- The cells of a request. -/
def ReqAt (w : World) (b o : Nat) (m t : ByteArray) (mi : Int) (A : Option Addr) (n c : Nat) : Prop :=
  w.cell? ⟨b, o, none⟩ = some (.string m) ∧ w.cell? ⟨b, o + 1, none⟩ = some (.string t) ∧ w.cell? ⟨b, o + 2, none⟩ = some (.int .i64 mi) ∧ w.cell? ⟨b, o + 3, none⟩ = some (.slice A n c)
section
variable {H : Type} {enc : TypeId × Value → H} {W : World}
theorem cellsReq : Tryz.prog.cellsOf 31 = 4 := by kernel_rfl
set_option maxRecDepth 100000 in
/-- A slice of fields, by its cell. -/
theorem open_fields_c {fuel : Nat} {cs : List Value} {x : DataW H × List MemPlace} (hf : DataW.trod enc Tryz.prog W 0 (fun _ => true) true fuel 29 cs = some x) :
    ∃ A n c fs, cs = [.slice A n c] ∧ Rd W W.heap.size 2 A n (fcells fs) ∧ n ≤ c ∧ c ≤ maxLen ∧ ∀ f ∈ fs, f.1.length ≤ maxLen ∧ f.2.length ≤ maxLen := by
  rcases Go.Deep.open_slice_pairs Tryz.underlying29 Tryz.underlying68 cellsFld rfl rfl cellsStr cellsStr hf with ⟨h0, _⟩ | ⟨a, len, cap', m, n, V0, V1, D0, D1, P0, P1, h0, _, hl, hm, hmm, _, hc⟩
  · exact ⟨none, 0, 0, [], h0, Rd.nil_, Nat.le_refl _, Nat.zero_le _, by simp⟩
  · simp only [if_true] at hmm
    subst hmm
    have hall : ∀ i, i < m → ∃ q : ByteArray × ByteArray, V0 i = .string q.1 ∧ V1 i = .string q.2 ∧ q.1.size ≤ maxLen ∧ q.2.size ≤ maxLen := fun i hi => by
      obtain ⟨_, _, h2, h3⟩ := hc i hi
      obtain ⟨s, hs, _, hz⟩ := DataW.trod_string Tryz.underlying9 h2
      obtain ⟨s', hs', _, hz'⟩ := DataW.trod_string Tryz.underlying9 h3
      simp only [List.cons.injEq, and_true] at hs hs'
      exact ⟨(s, s'), hs, hs', hz, hz'⟩
    obtain ⟨q, hq⟩ := Go.Deep.choose_lt hall
    refine ⟨some a, len, m, (List.range len).map fun i => ((q i).1.data.toList, (q i).2.data.toList), h0, ⟨by rw [fcells_length]; simp, ?_⟩, hl, hm, ?_⟩
    · rcases Nat.eq_zero_or_pos len with h0 | h0
      · exact .inl h0
      · refine .inr ⟨a, rfl, ?_, fun j u hu => ?_⟩
        · have := World.block_lt_of_cell? W _ (hc 0 (by omega)).1
          rwa [addr_add_block] at this
        · have hj : j < len * 2 := by have := (List.getElem?_eq_some_iff.1 hu).1; rw [fcells_length] at this; simpa using this
          have hi : j / 2 < len := by omega
          obtain ⟨c0, c1, _, _⟩ := hc (j / 2) (by omega)
          obtain ⟨e0, e1, _, _⟩ := hq (j / 2) (by omega)
          have hf := fcells_at len (fun i => ((q i).1.data.toList, (q i).2.data.toList)) (j / 2) hi
          rcases Nat.mod_two_eq_zero_or_one j with h2 | h2
          · have ej : j / 2 * 2 = j := by omega
            rw [ej] at c0 hf
            rw [hf.1] at hu
            rw [c0, e0, ← hu]
          · have ej : j / 2 * 2 + 1 = j := by omega
            rw [ej] at c1 hf
            rw [hf.2] at hu
            rw [c1, e1, ← hu]
    · intro f hf'
      obtain ⟨i, hi, rfl⟩ := List.mem_map.1 hf'
      obtain ⟨_, _, h3, h4⟩ := hq i (by have := List.mem_range.1 hi; omega)
      rw [size_of] at h3 h4
      exact ⟨h3, h4⟩
set_option maxRecDepth 100000 in
theorem open_reqs {r : Reach} {b0 : Nat} {v : Value} {d : DataW H} {p : List MemPlace} (hv : Value.okWide Tryz.prog W r b0 22 v) (h : DataW.Trod enc Tryz.prog W 0 (fun _ => true) true 22 v d p) :
    ∃ (A : Option Addr) (n c : Nat), v = .slice A n c ∧ n ≤ c ∧ c ≤ maxLen ∧ ∀ k, k < n → ∃ ab ao m t mi B nf cf fs, A = some ⟨ab, ao, none⟩ ∧ ab < W.heap.size ∧ ReqAt W ab (ao + k * 4) m t mi B nf cf ∧ Rd W W.heap.size 2 B nf (fcells fs) ∧ nf ≤ cf ∧ cf ≤ maxLen ∧ (∀ f ∈ fs, f.1.length ≤ maxLen ∧ f.2.length ≤ maxLen) ∧ m.size ≤ maxLen ∧ t.size ≤ maxLen := by
  obtain ⟨a, len, cap, rfl⟩ := okWide_slice Tryz.underlying22 hv
  obtain ⟨fuel, hf⟩ := h
  rcases Go.Deep.open_slice Tryz.underlying22 hf with ⟨h0, _⟩ | ⟨a, len', cap', m, n', D, Pl, h0, _, hl, hm, hmm, _, hc⟩
  · simp only [Value.cells, List.cons.injEq, and_true] at h0
    cases h0
    exact ⟨none, 0, 0, rfl, Nat.le_refl _, Nat.zero_le _, fun k hk => absurd hk (Nat.not_lt_zero _)⟩
  · simp only [Value.cells, List.cons.injEq, and_true] at h0
    cases h0
    simp only [if_true] at hmm
    subst hmm
    refine ⟨some a, len, m, rfl, hl, hm, fun k hk => ?_⟩
    obtain ⟨cs', h1, h2⟩ := hc k (by omega)
    rw [cellsReq] at h1
    obtain ⟨-, h3, h4⟩ := World.cells?_some h1
    obtain ⟨xs, n2, _, -, hl2, hlen, hff⟩ := DataW.trod_struct Tryz.underlying31 h2
    match cs', h3 with
    | [x0, x1, x2, x3], _ =>
      match xs, hlen with
      | [y0, y1, y2, y3], _ =>
        have e0 : DataW.trod enc Tryz.prog W 0 (fun _ => true) true n2 9 [x0] = some y0 := hff 0 _ rfl
        have e1 : DataW.trod enc Tryz.prog W 0 (fun _ => true) true n2 9 [x1] = some y1 := hff 1 _ rfl
        have e2 : DataW.trod enc Tryz.prog W 0 (fun _ => true) true n2 3 [x2] = some y2 := hff 2 _ rfl
        have e3 : DataW.trod enc Tryz.prog W 0 (fun _ => true) true n2 29 [x3] = some y3 := hff 3 _ rfl
        obtain ⟨z0, g0, _, s0⟩ := DataW.trod_string Tryz.underlying9 e0
        obtain ⟨z1, g1, _, s1⟩ := DataW.trod_string Tryz.underlying9 e1
        obtain ⟨z2, g2, -⟩ := DataW.trod_int Tryz.underlying3 e2
        obtain ⟨B, nf, cf, fs, g3, rd, l1, l2, l3⟩ := open_fields_c e3
        simp only [List.cons.injEq, and_true] at g0 g1 g2 g3
        subst g0 g1 g2 g3
        have k0 := h4 0 (by omega)
        have k1 := h4 1 (by omega)
        have k2 := h4 2 (by omega)
        have k3 := h4 3 (by omega)
        rw [addr_add_add] at k0 k1 k2 k3
        obtain ⟨ab, ao, spot⟩ := a
        have hb : ab < W.heap.size := by
          have := World.block_lt_of_cell? W _ k0
          rwa [addr_add_block] at this
        have hs : spot = none := by
          obtain ⟨cs0, h10, -⟩ := hc 0 (by omega)
          rw [cellsReq] at h10
          obtain ⟨-, h30, h40⟩ := World.cells?_some h10
          match cs0, h30 with
          | [z0', z1', z2', z3'], _ =>
            have k00 := h40 0 (by omega)
            simpa [Addr.add] using World.cell?_spot k00
        subst hs
        refine ⟨ab, ao, z0, z1, z2, B, nf, cf, fs, rfl, hb, ⟨?_, ?_, ?_, ?_⟩, rd, l1, l2, l3, s0, s1⟩
        · rw [Addr.add_lit] at k0; simpa using k0
        · rw [Addr.add_lit] at k1; simpa [Nat.add_assoc] using k1
        · rw [Addr.add_lit] at k2; simpa [Nat.add_assoc] using k2
        · rw [Addr.add_lit] at k3; simpa [Nat.add_assoc] using k3
end
end Go.Proofs.YtfifoimnebbflaaGreatDoor

/- An argument that is a slice of bytes, opened. -/
namespace Go.Proofs.YtfifoimnebbflaaGreatDoor
open Go.RowKit Go.ChangeShapes Go.WideShapes Go.ChangeAt

theorem cellsU8 : Tryz.prog.cellsOf 5 = 1 := by kernel_rfl
set_option maxRecDepth 100000 in
theorem open_bytes {H : Type} {enc : TypeId × Value → H} {W : World} {r : Reach} {b0 : Nat} {v : Value} {d : DataW H} {p : List MemPlace} (hv : Value.okWide Tryz.prog W r b0 24 v) (h : DataW.Trod enc Tryz.prog W 0 (fun _ => true) true 24 v d p) :
    ∃ A n c bs, v = .slice A n c ∧ Rd W W.heap.size 1 A n (bcells bs) ∧ n ≤ c ∧ c ≤ maxLen := by
  obtain ⟨a, len, cap, rfl⟩ := okWide_slice Tryz.underlying24 hv
  obtain ⟨fuel, hf⟩ := h
  rcases open_ints Tryz.underlying24 Tryz.underlying5 cellsU8 hf with ⟨h0, _⟩ | ⟨a, len', cap', zs, h0, _, hl, hm, hmm, _, hc, hwf⟩
  · simp only [Value.cells, List.cons.injEq, and_true] at h0
    cases h0
    exact ⟨none, 0, 0, [], rfl, Rd.nil_, Nat.le_refl _, Nat.zero_le _⟩
  · simp only [Value.cells, List.cons.injEq, and_true] at h0
    cases h0
    simp only [if_true] at hmm
    have hz : ∀ z ∈ zs, 0 ≤ z ∧ z < 256 := fun z hz => by
      have := hwf z hz
      simp [Lit.wf, IntKind.min, IntKind.max, IntKind.signed, IntKind.bits] at this
      omega
    refine ⟨some a, len, cap, (zs.take len).map fun z => UInt8.ofNat z.toNat, rfl, ⟨by simp [bcells]; omega, ?_⟩, hl, hm⟩
    rcases Nat.eq_zero_or_pos len with h0 | h0
    · exact .inl h0
    · refine .inr ⟨a, rfl, ?_, fun j u hu => ?_⟩
      · have := World.block_lt_of_cell? W _ (hc 0 (by omega))
        rwa [addr_add_block] at this
      · have hj : j < (bcells ((zs.take len).map fun z => UInt8.ofNat z.toNat)).length := (List.getElem?_eq_some_iff.1 hu).1
        have hj2 : j < len ∧ j < zs.length := by simp [bcells] at hj; omega
        rw [hc j hj2.2]
        have h2 := hz zs[j] (List.getElem_mem hj2.2)
        have hjt : j < (zs.take len).length := by rw [List.length_take]; omega
        have e1 : (bcells ((zs.take len).map fun z => UInt8.ofNat z.toNat))[j]? = some (.int .u8 zs[j]) := by
          unfold bcells
          rw [List.getElem?_map, List.getElem?_map, List.getElem?_eq_getElem hjt, List.getElem_take]
          show some (Value.int .u8 ((UInt8.ofNat (zs[j]).toNat).toNat : Int)) = _
          rw [show ((UInt8.ofNat (zs[j]).toNat).toNat : Int) = zs[j] by simp; omega]
        rw [e1] at hu
        rw [← hu, List.getD_eq_getElem?_getD, List.getElem?_eq_getElem hj2.2, Option.getD_some]
end Go.Proofs.YtfifoimnebbflaaGreatDoor

/- An argument that is a slice of slices of bytes, opened. -/
namespace Go.Proofs.YtfifoimnebbflaaGreatDoor
open Go.RowKit Go.ChangeShapes Go.WideShapes Go.ChangeAt
set_option linter.unusedVariables false
set_option linter.unusedSimpArgs false

/-- A slice of slices of bytes, all in blocks below B. -/
def RdBs (w : World) (B : Nat) (A : Option Addr) (n : Nat) (ps : List (List UInt8)) : Prop :=
  ps.length = n ∧ ∀ k (hk : k < ps.length), ∃ a Ai ci, A = some a ∧ a.block < B ∧ w.cell? (a.add k) = some (.slice Ai ps[k].length ci) ∧ Rd w B 1 Ai ps[k].length (bcells ps[k]) ∧ ps[k].length ≤ ci ∧ ci ≤ maxLen
theorem RdBs.below {w w' : World} {B n : Nat} {A : Option Addr} {ps : List (List UInt8)} (h : RdBs w B A n ps) (hb : Below B w w') : RdBs w' B A n ps :=
  ⟨h.1, fun k hk => by
    obtain ⟨a, Ai, ci, h1, h2, h3, h4, h5⟩ := h.2 k hk
    exact ⟨a, Ai, ci, h1, h2, (hb.cell (p := a.add k) (by rw [addr_add_block]; exact h2)).trans h3, h4.below hb, h5⟩⟩
theorem rd_of_ints {W : World} {A : Option Addr} {len cap : Nat} {zs : List Int} (hl : len ≤ cap) (hz : zs.length = cap) (hwf : ∀ z ∈ zs, (Lit.int .u8 z).wf = true) (h0 : A = none → cap = 0)
    (hc : ∀ a, A = some a → ∀ c, c < cap → W.cell? (a.add c) = some (.int .u8 (zs.getD c 0))) : ∃ bs : List UInt8, bs.length = len ∧ Rd W W.heap.size 1 A len (bcells bs) := by
  have hz' : ∀ z ∈ zs, 0 ≤ z ∧ z < 256 := fun z hz => by
    have := hwf z hz
    simp [Lit.wf, IntKind.min, IntKind.max, IntKind.signed, IntKind.bits] at this
    omega
  refine ⟨(zs.take len).map fun z => UInt8.ofNat z.toNat, by simp; omega, by simp [bcells]; omega, ?_⟩
  rcases Nat.eq_zero_or_pos len with h1 | h1
  · exact .inl h1
  · cases A with
    | none => have := h0 rfl; omega
    | some a =>
      refine .inr ⟨a, rfl, ?_, fun j u hu => ?_⟩
      · have := World.block_lt_of_cell? W _ (hc a rfl 0 (by omega))
        rwa [addr_add_block] at this
      · have hj : j < (bcells ((zs.take len).map fun z => UInt8.ofNat z.toNat)).length := (List.getElem?_eq_some_iff.1 hu).1
        have hj2 : j < len ∧ j < zs.length := by simp [bcells] at hj; omega
        rw [hc a rfl j (by omega)]
        have h2 := hz' zs[j] (List.getElem_mem hj2.2)
        have hjt : j < (zs.take len).length := by rw [List.length_take]; omega
        have e1 : (bcells ((zs.take len).map fun z => UInt8.ofNat z.toNat))[j]? = some (.int .u8 zs[j]) := by
          unfold bcells
          rw [List.getElem?_map, List.getElem?_map, List.getElem?_eq_getElem hjt, List.getElem_take]
          show some (Value.int .u8 ((UInt8.ofNat (zs[j]).toNat).toNat : Int)) = _
          rw [show ((UInt8.ofNat (zs[j]).toNat).toNat : Int) = zs[j] by simp; omega]
        rw [e1] at hu
        rw [← hu, List.getD_eq_getElem?_getD, List.getElem?_eq_getElem hj2.2, Option.getD_some]
set_option maxRecDepth 100000 in
theorem open_bytess {H : Type} {enc : TypeId × Value → H} {W : World} {r : Reach} {b0 : Nat} {v : Value} {d : DataW H} {p : List MemPlace} (hv : Value.okWide Tryz.prog W r b0 23 v) (h : DataW.Trod enc Tryz.prog W 0 (fun _ => true) true 23 v d p) :
    ∃ A n c ps, v = .slice A n c ∧ RdBs W W.heap.size A n ps ∧ n ≤ c ∧ c ≤ maxLen := by
  obtain ⟨a, len, cap, rfl⟩ := okWide_slice Tryz.underlying23 hv
  obtain ⟨fuel, hf⟩ := h
  rcases Go.Deep.open_int_rows Tryz.underlying23 Tryz.underlying24 Tryz.underlying5 (by kernel_rfl) cellsU8 hf with ⟨h0, _⟩ | ⟨a, len', cap', A, L, C, Z, h0, _, hl, hm, _, hr⟩
  · simp only [Value.cells, List.cons.injEq, and_true] at h0
    cases h0
    exact ⟨none, 0, 0, [], rfl, ⟨rfl, fun k hk => by simp at hk⟩, Nat.le_refl _, Nat.zero_le _⟩
  · simp only [Value.cells, List.cons.injEq, and_true] at h0
    cases h0
    have hall : ∀ i, i < len → ∃ bs : List UInt8, bs.length = L i ∧ Rd W W.heap.size 1 (A i) (L i) (bcells bs) := fun i hi => by
      obtain ⟨_, h2, h3, h4, h5, h6, h7⟩ := hr i (by omega)
      exact rd_of_ints h2 h4 h5 h6 (fun a e => (h7 a e).2)
    obtain ⟨q, hq⟩ := Go.Deep.choose_lt hall
    refine ⟨some a, len, cap, (List.range len).map q, rfl, ⟨by simp, fun k hk => ?_⟩, hl, hm⟩
    have hk' : k < len := by simpa using hk
    obtain ⟨h1, h2, h3, -⟩ := hr k (by omega)
    obtain ⟨q1, q2⟩ := hq k hk'
    have e : ((List.range len).map q)[k] = q k := by simp
    rw [e, q1]
    refine ⟨a, A k, C k, rfl, ?_, h1, q2, h2, h3⟩
    have := World.block_lt_of_cell? W _ h1
    rwa [addr_add_block] at this
end Go.Proofs.YtfifoimnebbflaaGreatDoor
