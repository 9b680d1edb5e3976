/- Arguments opened to plain lists; arguments that read again behind a call that leaves old blocks alone. -/
import Derived.Test.YtijlaclngibekaaGreatDoorKFrame
import Derived.Test.YtijlaclngibekaaGreatDoorKTrimG
import Derived.WideKeyArgs
import Derived.Deep.SlicePairs
import Derived.Deep.Strs
import Derived.Lib.SmallJoins
namespace Go.Proofs.YtijlaclngibekaaGreatDoor
open Go.RowKit Go.ChangeShapes Go.WideShapes Go.ChangeAt

theorem again_of {H : Type} {enc : TypeId × Value → H} {P : Program} (hl : laidOutB P = true) {W W' : World} (hb : Below W.heap.size W W') (ts : List TypeId) :
    ∀ {vs : List Value} {ds : List (DataW H)} {ps : List MemPlace}, (∀ t ∈ ts, P.readableRec t = true ∧ t < P.types.size) →
      DataW.TrodAll enc P W 0 (fun _ => true) true ts vs ds ps → DataW.TrodAll enc P W' 0 (fun b => decide (b < W.heap.size)) true ts vs ds ps := by
  induction ts with
  | nil =>
    intro vs ds ps _ h
    obtain ⟨rfl, rfl, rfl⟩ := trodAll_nil h
    exact trodAll_mk0
  | cons t ts ih =>
    intro vs ds ps ht h
    have hlt := h.lt
    obtain ⟨v, vs', d, ds', p, q, rfl, rfl, rfl, h1, h2⟩ := trodAll_cons h
    have hp : ∀ x ∈ p, x.block < W.heap.size := fun x hx => hlt x (by simp [hx])
    have h3 := ht t (by simp)
    exact trodAll_cons_mk (Go.WideElems.Trod_stays hl h3.1 h3.2 h1 (fun x hx => hb.same (hp x hx)) (fun x hx => by simpa using hp x hx)) (ih (fun t' ht' => ht t' (by simp [ht'])) h2)
theorem rowed_of {P : Program} {ts : List TypeId} (h : (ts.all fun t => P.readableRec t && decide (t < P.types.size)) = true) : ∀ t ∈ ts, P.readableRec t = true ∧ t < P.types.size := by
  intro t ht
  have := List.all_eq_true.1 h t ht
  simpa using this

section
variable {H : Type} {enc : TypeId × Value → H} {W : World}
theorem cellsStr : Tryz.prog.cellsOf 9 = 1 := by kernel_rfl
theorem cellsFld : Tryz.prog.cellsOf 110 = 2 := by kernel_rfl
set_option maxRecDepth 100000 in
/-- A slice of texts. -/
theorem open_texts {r : Reach} {b0 : Nat} {v : Value} {d : DataW H} {p : List MemPlace} (hv : Value.okWide Tryz.prog W r b0 23 v) (h : DataW.Trod enc Tryz.prog W 0 (fun _ => true) true 23 v d p) :
    ∃ A n c ls, v = .slice A n c ∧ Rd W W.heap.size 1 A n (scells ls) ∧ n ≤ c ∧ c ≤ maxLen ∧ ∀ l ∈ ls, l.length ≤ maxLen := by
  obtain ⟨a, len, cap, rfl⟩ := okWide_slice Tryz.underlying23 hv
  obtain ⟨fuel, hf⟩ := h
  rcases Go.Deep.open_strs Tryz.underlying23 Tryz.underlying9 cellsStr hf with ⟨h0, _⟩ | ⟨a, len', cap', m, Sx, h0, _, hl, hm, hmm, _, hc⟩
  · simp only [Value.cells, List.cons.injEq, and_true] at h0
    cases h0
    exact ⟨none, 0, 0, [], rfl, Rd.nil_, Nat.le_refl _, Nat.zero_le _, by simp⟩
  · simp only [Value.cells, List.cons.injEq, and_true] at h0
    cases h0
    simp only [if_true] at hmm
    subst hmm
    refine ⟨some a, len, m, (List.range len).map fun i => (Sx i).data.toList, rfl, ⟨by simp [scells], ?_⟩, hl, hm, ?_⟩
    · rcases Nat.eq_zero_or_pos len with h0 | h0
      · exact .inl h0
      · refine .inr ⟨a, rfl, ?_, fun j u hu => ?_⟩
        · have := World.block_lt_of_cell? W _ (hc 0 (by omega)).1
          rwa [addr_add_block] at this
        · have hj : j < len := by have := (List.getElem?_eq_some_iff.1 hu).1; simpa [scells] using this
          have := (hc j (by omega)).1
          rw [this]
          simp [scells, hj] at hu
          rw [← hu]
    · intro l hl'
      obtain ⟨i, hi, rfl⟩ := List.mem_map.1 hl'
      have := (hc i (by have := List.mem_range.1 hi; omega)).2
      rwa [size_of] at this

theorem fcells_range (n : Nat) (F : Nat → List UInt8 × List UInt8) : ∀ (o : Nat), fcells ((List.range' o n).map F) = (List.range' o n).flatMap fun i => [.string ⟨(F i).1.toArray⟩, .string ⟨(F i).2.toArray⟩] := by
  induction n with
  | zero => intro o; rfl
  | succ n ih => intro o; simp only [List.range'_succ, List.map_cons, fcells, List.flatMap_cons, ih (o + 1)]; rfl
theorem fcells_at (n : Nat) (F : Nat → List UInt8 × List UInt8) (i : Nat) (hi : i < n) : (fcells ((List.range n).map F))[i * 2]? = some (.string ⟨(F i).1.toArray⟩) ∧ (fcells ((List.range n).map F))[i * 2 + 1]? = some (.string ⟨(F i).2.toArray⟩) := by
  have := fcells_get ((List.range n).map F) i (by simpa using hi)
  simpa using this
set_option maxRecDepth 100000 in
/-- A slice of fields. -/
theorem open_fields {r : Reach} {b0 : Nat} {v : Value} {d : DataW H} {p : List MemPlace} (hv : Value.okWide Tryz.prog W r b0 44 v) (h : DataW.Trod enc Tryz.prog W 0 (fun _ => true) true 44 v d p) :
    ∃ A n c fs, v = .slice A n c ∧ Rd W W.heap.size 2 A n (fcells fs) ∧ n ≤ c ∧ c ≤ maxLen ∧ ∀ f ∈ fs, f.1.length ≤ maxLen ∧ f.2.length ≤ maxLen := by
  obtain ⟨a, len, cap, rfl⟩ := okWide_slice Tryz.underlying44 hv
  obtain ⟨fuel, hf⟩ := h
  rcases Go.Deep.open_slice_pairs Tryz.underlying44 Tryz.underlying110 cellsFld rfl rfl cellsStr cellsStr hf with ⟨h0, _⟩ | ⟨a, len', cap', m, n, V0, V1, D0, D1, P0, P1, h0, _, hl, hm, hmm, _, hc⟩
  · simp only [Value.cells, List.cons.injEq, and_true] at h0
    cases h0
    exact ⟨none, 0, 0, [], rfl, Rd.nil_, Nat.le_refl _, Nat.zero_le _, by simp⟩
  · simp only [Value.cells, List.cons.injEq, and_true] at h0
    cases h0
    simp only [if_true] at hmm
    subst hmm
    have hall : ∀ i, i < m → ∃ q : ByteArray × ByteArray, V0 i = .string q.1 ∧ V1 i = .string q.2 ∧ q.1.size ≤ maxLen ∧ q.2.size ≤ maxLen := fun i hi => by
      obtain ⟨_, _, h2, h3⟩ := hc i hi
      obtain ⟨s, hs, _, hz⟩ := DataW.trod_string Tryz.underlying9 h2
      obtain ⟨s', hs', _, hz'⟩ := DataW.trod_string Tryz.underlying9 h3
      simp only [List.cons.injEq, and_true] at hs hs'
      exact ⟨(s, s'), hs, hs', hz, hz'⟩
    obtain ⟨q, hq⟩ := Go.Deep.choose_lt hall
    refine ⟨some a, len, m, (List.range len).map fun i => ((q i).1.data.toList, (q i).2.data.toList), rfl, ⟨by rw [fcells_length]; simp, ?_⟩, hl, hm, ?_⟩
    · rcases Nat.eq_zero_or_pos len with h0 | h0
      · exact .inl h0
      · refine .inr ⟨a, rfl, ?_, fun j u hu => ?_⟩
        · have := World.block_lt_of_cell? W _ (hc 0 (by omega)).1
          rwa [addr_add_block] at this
        · have hj : j < len * 2 := by have := (List.getElem?_eq_some_iff.1 hu).1; rw [fcells_length] at this; simpa using this
          have hi : j / 2 < len := by omega
          obtain ⟨c0, c1, _, _⟩ := hc (j / 2) (by omega)
          obtain ⟨e0, e1, _, _⟩ := hq (j / 2) (by omega)
          have hf := fcells_at len (fun i => ((q i).1.data.toList, (q i).2.data.toList)) (j / 2) hi
          rcases Nat.mod_two_eq_zero_or_one j with h2 | h2
          · have ej : j / 2 * 2 = j := by omega
            rw [ej] at c0 hf
            rw [hf.1] at hu
            rw [c0, e0, ← hu]
          · have ej : j / 2 * 2 + 1 = j := by omega
            rw [ej] at c1 hf
            rw [hf.2] at hu
            rw [c1, e1, ← hu]
    · intro f hf'
      obtain ⟨i, hi, rfl⟩ := List.mem_map.1 hf'
      obtain ⟨_, _, h3, h4⟩ := hq i (by have := List.mem_range.1 hi; omega)
      rw [size_of] at h3 h4
      exact ⟨h3, h4⟩
end
end Go.Proofs.YtijlaclngibekaaGreatDoor
/- Structs by value as arguments, opened to plain lists, with the bounds that the form's own reach gives. -/
namespace Go.Proofs.YtijlaclngibekaaGreatDoor
open Go.RowKit Go.ChangeShapes Go.WideShapes Go.ChangeAt
open Go.Joins (open_agg4)

theorem weights_at {H : Type} {P : Program} : ∀ {ts : List TypeId} {ds : List (DataW H)} (_ : (DataW.weightsEach P ts ds).all (· ≤ reachBytes) = true) {j : Nat} {t : TypeId} {d : DataW H} (_ : ts[j]? = some t) (_ : ds[j]? = some d), ∀ k ∈ d.weights P t, k ≤ reachBytes
  | [], _, _, j, t, d, ht, _ => by simp at ht
  | _ :: _, [], _, j, t, d, _, hd => by simp at hd
  | t0 :: ts, d0 :: ds, h, 0, t, d, ht, hd => by
    simp only [List.getElem?_cons_zero, Option.some.injEq] at ht hd
    subst ht hd
    intro k hk
    have := List.all_eq_true.1 h k (by unfold DataW.weightsEach; exact List.mem_append_left _ hk)
    simpa using this
  | t0 :: ts, d0 :: ds, h, j + 1, t, d, ht, hd => by
    rw [List.getElem?_cons_succ] at ht hd
    refine weights_at (ts := ts) (ds := ds) ?_ ht hd
    rw [List.all_eq_true] at h ⊢
    intro k hk
    exact h k (by unfold DataW.weightsEach; exact List.mem_append_right _ hk)
theorem weightsAll_mem {H : Type} {P : Program} {e : TypeId} : ∀ {l : List (DataW H)} {d : DataW H}, d ∈ l → ∀ k ∈ d.weights P e, k ∈ DataW.weightsAll P e l
  | [], d, h, _, _ => by simp at h
  | x :: l, d, h, k, hk => by
    unfold DataW.weightsAll
    rcases List.mem_cons.1 h with rfl | h
    · exact List.mem_append_left _ hk
    · exact List.mem_append_right _ (weightsAll_mem h k hk)

section
variable {H : Type} {enc : TypeId × Value → H} {W : World}
theorem bytesFld : Tryz.prog.bytesOf 110 = 32 := by kernel_rfl
set_option maxRecDepth 100000 in
/-- A slice of fields, by its cells. -/
theorem open_fields_w {fuel : Nat} {cs : List Value} {x : DataW H × List MemPlace} (hf : DataW.trod enc Tryz.prog W 0 (fun _ => true) true fuel 44 cs = some x) (hw : ∀ k ∈ x.1.weights Tryz.prog 44, k ≤ reachBytes) :
    ∃ A n c fs, cs = [.slice A n c] ∧ Rd W W.heap.size 2 A n (fcells fs) ∧ n ≤ c ∧ c ≤ maxLen ∧ n * 32 ≤ reachBytes ∧ ∀ f ∈ fs, f.1.length ≤ reachBytes ∧ f.2.length ≤ reachBytes := by
  rcases Go.Deep.open_slice_pairs Tryz.underlying44 Tryz.underlying110 cellsFld rfl rfl cellsStr cellsStr hf with ⟨h0, _⟩ | ⟨a, len', cap', m, n, V0, V1, D0, D1, P0, P1, h0, _, hl, hm, hmm, hx, hc⟩
  · exact ⟨none, 0, 0, [], h0, Rd.nil_, Nat.le_refl _, Nat.zero_le _, by simp, by simp⟩
  · simp only [if_true] at hmm
    subst hmm
    rw [hx] at hw
    have hw1 : ∀ k ∈ DataW.weights Tryz.prog 44 (.slice ((List.range len').map fun i => .agg [D0 i, D1 i]) ((List.range (m - len')).map fun j => .agg [D0 (len' + j), D1 (len' + j)])), k ≤ reachBytes := hw
    unfold DataW.weights at hw1
    rw [Tryz.underlying44] at hw1
    simp only [List.length_map, List.length_range, bytesFld] at hw1
    have hlen : (len' + (m - len')) * 32 ≤ reachBytes := hw1 _ (by simp)
    have hall : ∀ i, i < m → ∃ q : ByteArray × ByteArray, V0 i = .string q.1 ∧ V1 i = .string q.2 ∧ (i < len' → q.1.size ≤ reachBytes ∧ q.2.size ≤ reachBytes) := fun i hi => by
      obtain ⟨_, _, h2, h3⟩ := hc i hi
      obtain ⟨s, hs, hd, _⟩ := DataW.trod_string Tryz.underlying9 h2
      obtain ⟨s', hs', hd', _⟩ := DataW.trod_string Tryz.underlying9 h3
      simp only [List.cons.injEq, and_true] at hs hs'
      simp only [Prod.mk.injEq] at hd hd'
      refine ⟨(s, s'), hs, hs', fun hil => ?_⟩
      have hmem : ∀ k ∈ DataW.weights Tryz.prog 110 (.agg [D0 i, D1 i]), k ≤ reachBytes := fun k hk => hw1 k (by
        refine List.mem_cons_of_mem _ (List.mem_append_left _ (weightsAll_mem (d := .agg [D0 i, D1 i]) ?_ k hk))
        exact List.mem_map.2 ⟨i, List.mem_range.2 hil, rfl⟩)
      unfold DataW.weights at hmem
      rw [Tryz.underlying110] at hmem
      rw [hd.1, hd'.1] at hmem
      simp only [List.map_cons, List.map_nil, DataW.weightsEach, DataW.weights, List.append_nil, List.mem_append, List.mem_singleton] at hmem
      rw [size_of, size_of]
      exact ⟨hmem _ (.inl rfl), hmem _ (.inr rfl)⟩
    obtain ⟨q, hq⟩ := Go.Deep.choose_lt hall
    refine ⟨some a, len', m, (List.range len').map fun i => ((q i).1.data.toList, (q i).2.data.toList), h0, ⟨by rw [fcells_length]; simp, ?_⟩, hl, hm, by omega, ?_⟩
    · rcases Nat.eq_zero_or_pos len' with h0 | h0
      · exact .inl h0
      · refine .inr ⟨a, rfl, ?_, fun j u hu => ?_⟩
        · have := World.block_lt_of_cell? W _ (hc 0 (by omega)).1
          rwa [addr_add_block] at this
        · have hj : j < len' * 2 := by have := (List.getElem?_eq_some_iff.1 hu).1; rw [fcells_length] at this; simpa using this
          have hi : j / 2 < len' := by omega
          obtain ⟨c0, c1, _, _⟩ := hc (j / 2) (by omega)
          obtain ⟨e0, e1, _⟩ := hq (j / 2) (by omega)
          have hf := fcells_at len' (fun i => ((q i).1.data.toList, (q i).2.data.toList)) (j / 2) hi
          rcases Nat.mod_two_eq_zero_or_one j with h2 | h2
          · have ej : j / 2 * 2 = j := by omega
            rw [ej] at c0 hf
            rw [hf.1] at hu
            rw [c0, e0, ← hu]
          · have ej : j / 2 * 2 + 1 = j := by omega
            rw [ej] at c1 hf
            rw [hf.2] at hu
            rw [c1, e1, ← hu]
    · intro f hf'
      obtain ⟨i, hi, rfl⟩ := List.mem_map.1 hf'
      obtain ⟨_, _, h3⟩ := hq i (by have := List.mem_range.1 hi; omega)
      obtain ⟨h4, h5⟩ := h3 (List.mem_range.1 hi)
      rw [size_of] at h4 h5
      exact ⟨h4, h5⟩
set_option maxRecDepth 100000 in
/-- A request. -/
theorem open_request {r : Reach} {b0 : Nat} {v : Value} {d : DataW H} {p : List MemPlace} (hv : Value.okWide Tryz.prog W r b0 80 v) (h : DataW.Trod enc Tryz.prog W 0 (fun _ => true) true 80 v d p) (hw : ∀ k ∈ d.weights Tryz.prog 80, k ≤ reachBytes) :
    ∃ (m t : ByteArray) (minor : Int) (A : Option Addr) (n c : Nat) (fs : List (List UInt8 × List UInt8)), v = .agg #[.string m, .string t, .int .i64 minor, .slice A n c] ∧ Rd W W.heap.size 2 A n (fcells fs) ∧ n ≤ c ∧ c ≤ maxLen ∧ n * 32 ≤ reachBytes ∧ (∀ f ∈ fs, f.1.length ≤ reachBytes ∧ f.2.length ≤ reachBytes) ∧
      m.size ≤ reachBytes ∧ t.size ≤ reachBytes ∧ (Lit.int .i64 minor).wf = true := by
  obtain ⟨v0, v1, v2, v3, y0, y1, y2, y3, n, rfl, rfl, rfl, h0, h1, h2, h3⟩ := open_agg4 Tryz.underlying80 (by kernel_rfl) (by kernel_rfl) hv h
  unfold DataW.weights at hw
  rw [Tryz.underlying80] at hw
  simp only [List.map_cons, List.map_nil, DataW.weightsEach, List.append_nil, List.mem_append] at hw
  obtain ⟨m, hm, e0, _⟩ := DataW.trod_string Tryz.underlying9 h0
  obtain ⟨t, ht, e1, _⟩ := DataW.trod_string Tryz.underlying9 h1
  obtain ⟨k, hk, e2, hwf⟩ := DataW.trod_int Tryz.underlying3 h2
  simp only [List.cons.injEq, and_true] at hm ht hk
  subst hm ht hk
  obtain ⟨A, n3, c3, fs, h4, h5⟩ := open_fields_w h3 (fun k hk => hw k (.inr (.inr (.inr hk))))
  simp only [List.cons.injEq, and_true] at h4
  subst h4
  rw [e0, e1] at hw
  simp only [DataW.weights, List.mem_singleton] at hw
  exact ⟨m, t, k, A, n3, c3, fs, rfl, h5.1, h5.2.1, h5.2.2.1, h5.2.2.2.1, h5.2.2.2.2, by rw [size_of]; exact hw _ (.inl rfl), by rw [size_of]; exact hw _ (.inr (.inl rfl)), hwf⟩
set_option maxRecDepth 100000 in
/-- A response. -/
theorem open_response {r : Reach} {b0 : Nat} {v : Value} {d : DataW H} {p : List MemPlace} (hv : Value.okWide Tryz.prog W r b0 46 v) (h : DataW.Trod enc Tryz.prog W 0 (fun _ => true) true 46 v d p) (hw : ∀ k ∈ d.weights Tryz.prog 46, k ≤ reachBytes) :
    ∃ (minor status : Int) (s : ByteArray) (A : Option Addr) (n c : Nat) (fs : List (List UInt8 × List UInt8)), v = .agg #[.int .i64 minor, .int .i64 status, .string s, .slice A n c] ∧ Rd W W.heap.size 2 A n (fcells fs) ∧ n ≤ c ∧ c ≤ maxLen ∧ n * 32 ≤ reachBytes ∧ (∀ f ∈ fs, f.1.length ≤ reachBytes ∧ f.2.length ≤ reachBytes) ∧
      s.size ≤ reachBytes ∧ (Lit.int .i64 minor).wf = true ∧ (Lit.int .i64 status).wf = true := by
  obtain ⟨v0, v1, v2, v3, y0, y1, y2, y3, n, rfl, rfl, rfl, h0, h1, h2, h3⟩ := open_agg4 Tryz.underlying46 (by kernel_rfl) (by kernel_rfl) hv h
  unfold DataW.weights at hw
  rw [Tryz.underlying46] at hw
  simp only [List.map_cons, List.map_nil, DataW.weightsEach, List.append_nil, List.mem_append] at hw
  obtain ⟨m, hm, e0, hwf0⟩ := DataW.trod_int Tryz.underlying3 h0
  obtain ⟨t, ht, e1, hwf1⟩ := DataW.trod_int Tryz.underlying3 h1
  obtain ⟨k, hk, e2, _⟩ := DataW.trod_string Tryz.underlying9 h2
  simp only [List.cons.injEq, and_true] at hm ht hk
  subst hm ht hk
  obtain ⟨A, n3, c3, fs, h4, h5⟩ := open_fields_w h3 (fun k hk => hw k (.inr (.inr (.inr hk))))
  simp only [List.cons.injEq, and_true] at h4
  subst h4
  rw [e2] at hw
  simp only [DataW.weights, List.mem_singleton] at hw
  exact ⟨m, t, k, A, n3, c3, fs, rfl, h5.1, h5.2.1, h5.2.2.1, h5.2.2.2.1, h5.2.2.2.2, by rw [size_of]; exact hw _ (.inr (.inr (.inl rfl))), hwf0, hwf1⟩
end
end Go.Proofs.YtijlaclngibekaaGreatDoor

/- Framings, plans and slices of fields as arguments. -/
namespace Go.Proofs.YtijlaclngibekaaGreatDoor
open Go.RowKit Go.ChangeShapes Go.WideShapes Go.ChangeAt
open Go.Joins (open_agg2 open_agg3)

section
variable {H : Type} {enc : TypeId × Value → H} {W : World}
set_option maxRecDepth 100000 in
theorem open_framing {r : Reach} {b0 : Nat} {v : Value} {d : DataW H} {p : List MemPlace} (hv : Value.okWide Tryz.prog W r b0 67 v) (h : DataW.Trod enc Tryz.prog W 0 (fun _ => true) true 67 v d p) :
    ∃ (k l : Int), v = .agg #[.int .i64 k, .int .i64 l] ∧ (Lit.int .i64 k).wf = true ∧ (Lit.int .i64 l).wf = true := by
  obtain ⟨v0, v1, y0, y1, n, rfl, rfl, rfl, h0, h1⟩ := open_agg2 Tryz.underlying67 (by kernel_rfl) (by kernel_rfl) hv h
  obtain ⟨k, hk, _, hw0⟩ := DataW.trod_int Tryz.underlying3 h0
  obtain ⟨l, hl, _, hw1⟩ := DataW.trod_int Tryz.underlying3 h1
  simp only [List.cons.injEq, and_true] at hk hl
  subst hk hl
  exact ⟨k, l, rfl, hw0, hw1⟩
set_option maxRecDepth 100000 in
theorem open_plan {r : Reach} {b0 : Nat} {v : Value} {d : DataW H} {p : List MemPlace} (hv : Value.okWide Tryz.prog W r b0 191 v) (h : DataW.Trod enc Tryz.prog W 0 (fun _ => true) true 191 v d p) :
    ∃ (pass : Bool) (k l : Int), v = .agg #[.bool pass, .int .i64 k, .int .i64 l] ∧ (Lit.int .i64 k).wf = true ∧ (Lit.int .i64 l).wf = true := by
  obtain ⟨v0, v1, v2, y0, y1, y2, n, rfl, rfl, rfl, h0, h1, h2⟩ := open_agg3 Tryz.underlying191 (by kernel_rfl) (by kernel_rfl) hv h
  obtain ⟨b, hb, _⟩ := DataW.trod_bool Tryz.underlying4 h0
  obtain ⟨k, hk, _, hw0⟩ := DataW.trod_int Tryz.underlying3 h1
  obtain ⟨l, hl, _, hw1⟩ := DataW.trod_int Tryz.underlying3 h2
  simp only [List.cons.injEq, and_true] at hb hk hl
  subst hb hk hl
  exact ⟨b, k, l, rfl, hw0, hw1⟩
set_option maxRecDepth 100000 in
theorem open_fieldsw {r : Reach} {b0 : Nat} {v : Value} {d : DataW H} {p : List MemPlace} (hv : Value.okWide Tryz.prog W r b0 44 v) (h : DataW.Trod enc Tryz.prog W 0 (fun _ => true) true 44 v d p) (hw : ∀ k ∈ d.weights Tryz.prog 44, k ≤ reachBytes) :
    ∃ A n c fs, v = .slice A n c ∧ Rd W W.heap.size 2 A n (fcells fs) ∧ n ≤ c ∧ c ≤ maxLen ∧ ∀ f ∈ fs, f.1.length ≤ reachBytes ∧ f.2.length ≤ reachBytes := by
  obtain ⟨a, len, cap, rfl⟩ := okWide_slice Tryz.underlying44 hv
  obtain ⟨fuel, hf⟩ := h
  obtain ⟨A, n, c, fs, h0, h1, h2, h3, _, h5⟩ := open_fields_w hf hw
  simp only [Value.cells, List.cons.injEq, and_true] at h0
  cases h0
  exact ⟨_, _, _, fs, rfl, h1, h2, h3, h5⟩
end
end Go.Proofs.YtijlaclngibekaaGreatDoor
