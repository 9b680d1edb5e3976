/- strings.Builder embedded in script.printer: a block of three cells. -/
import Derived.Test.YtbgbggodjhbgbaaDoorScrPut
import Derived.Lib.Builder
import Derived.Lib.AppendStr
import Derived.Lib.UnsafeStr
namespace Go.Proofs.YtbgbggodjhbgbaaDoor
open Go.RowKit
set_option linter.unusedVariables false
set_option linter.unusedSimpArgs false

section
variable {P : Program}
/-- 'append(b.buf, c)': the row is the old one or a new one. -/
theorem wpl_push_fr {w : World} {cs : Array Value} {e : TypeId} {ops : Array Oper} {rest : List Oper} {o : Oper} {a : Act} {Q : Exit → Act → World → Prop}
    (hgd : o.guard = none) (s x : Operand) (t : TypeId) (hop : o.op = Op.call { callee := Callee.builtin Builtin.append, args := #[s, x], argTypes := #[t, t] })
    (base : Nat) (i : TypeInfo) (z : Value) (size bytes : Nat) (ht : P.underlying t = some (.slice e)) (hi : P.info? e = some i) (hz : i.zero = some z)
    (hsize : i.size = size) (hby : i.bytes = bytes) (hzs : z.cells.size = size) (hsz : 0 < size)
    (v : Value) (n : Nat) (xs : List Value) (hs : a.eval s = v) (c : Nat) (hx : a.eval x = .slice (some ⟨w.heap.size, 0, none⟩) 1 c)
    (hown : w.ownsRow base e size v n xs) (hcs : cs.size = size) (h1 : ∀ u ∈ cs.toList, u.oneCell' = true)
    (h63 : n + 1 ≤ maxLen) (hbytes : (n + 1) * bytes ≤ 140737488355328) (hbase : base ≤ w.heap.size)
    (hK : ∀ v' w', w'.ownsRow base e size v' (n + 1) (xs ++ cs.toList) → w.grownBy w' v.ownBlock → (v'.ownBlock = v.ownBlock ∨ ∀ g, v'.ownBlock = some g → w.heap.size ≤ g) → wpList P ops Q rest (a.put o.dst v') w') :
    wpList P ops Q (o :: rest) a (w.alloc (.cells cs e)) := by
  have hg1 : w.grownBy (w.alloc (.cells cs e)) v.ownBlock := World.grownBy_alloc w _ _
  have hcell : ∀ j u, cs.toList[j]? = some u → (w.alloc (.cells cs e)).cell? ((⟨w.heap.size, 0, none⟩ : Addr).add j) = some u := fun j u hu => by
    rw [Addr.add_lit, cell_of_row _ w.heap.size _ cs e (0, 0) (heap_alloc_new w _)]
    simpa using hu
  have hsza : (w.alloc (.cells cs e)).heap.size = w.heap.size + 1 := Array.size_push _
  have hrd : Rd (w.alloc (.cells cs e)) (w.heap.size + 1) size (some ⟨w.heap.size, 0, none⟩) 1 cs.toList := ⟨by simpa using hcs, .inr ⟨_, rfl, by simp, hcell⟩⟩
  obtain ⟨v1, w1, hr1, o1, g1, -⟩ := run_append_own (P := P) (w := w.alloc (.cells cs e)) base t o.type e i z size bytes ht hi hz hsize hby hzs hsz v n xs (hown.alloc _) ⟨w.heap.size, 0, none⟩ 1 c cs.toList (by simpa using hcs) hcell h1 h63 hbytes (by rw [hsza]; omega)
  obtain ⟨v2, w2, hr2, -, -, f2⟩ := run_append_ow (P := P) (w.alloc (.cells cs e)) t o.type base e i z size bytes ht hi hz hsize hby hzs hsz v n xs (w.heap.size + 1) (some ⟨w.heap.size, 0, none⟩) 1 c cs.toList (Ow.of_row (hown.alloc _)) hrd h1 h63 hbytes (by rw [hsza]; omega)
  rw [hr1] at hr2
  cases hr2
  refine wpList_plain hgd fun K hK' => ?_
  unfold Oper.wp
  simp [execOp, hop, resolve, invoke, builtin, hs, hx, hr1, Result.andThen]
  refine hK' _ _ (hK v1 w1 o1 ?_ ?_)
  · exact ⟨g1.os.trans hg1.os, g1.tape.trans hg1.tape, g1.output.trans hg1.output, Nat.le_trans hg1.size g1.size, fun k hk hne => (g1.block k (Nat.lt_of_lt_of_le hk hg1.size) hne).trans (hg1.block k hk hne)⟩
  · exact f2.imp id fun h g hg => Nat.le_trans hg1.size (h g hg)
theorem wpl_appstr_fr (w : World) {ops : Array Oper} {rest : List Oper} {o : Oper} {a : Act} {Q : Exit → Act → World → Prop}
    (hgd : o.guard = none) (s x : Operand) (t u : TypeId) (hop : o.op = Op.call { callee := Callee.builtin Builtin.append, args := #[s, x], argTypes := #[t, u] })
    (base : Nat) (e : TypeId) (i : TypeInfo) (ht : P.underlying t = some (.slice e)) (hu : P.underlying u = some .string) (hi : P.info? e = some i) (hz : i.zero = some (.int .u8 0))
    (hsize : i.size = 1) (hby : i.bytes = 1)
    (v : Value) (n : Nat) (xs : List Value) (hs : a.eval s = v) (b : ByteArray) (hx : a.eval x = .string b)
    (hown : w.ownsRow base e 1 v n xs) (h63 : n + b.size ≤ maxLen) (hbytes : n + b.size ≤ 140737488355328) (hbase : base ≤ w.heap.size)
    (hK : ∀ v' w', w'.ownsRow base e 1 v' (n + b.size) (xs ++ bcells b.data.toList) → w.grownBy w' v.ownBlock → (v'.ownBlock = v.ownBlock ∨ ∀ g, v'.ownBlock = some g → w.heap.size ≤ g) → wpList P ops Q rest (a.put o.dst v') w') :
    wpList P ops Q (o :: rest) a w := by
  obtain ⟨v1, w1, hr1, o1, g1, -⟩ := Lib.run_append_own_string (P := P) w base t u o.type e i ht hu hi hz hsize hby v n xs hown b h63 hbytes hbase
  obtain ⟨v2, w2, hr2, -, -, f2⟩ := run_append_ow_string (P := P) w t u o.type base e i ht hu hi hz hsize hby v n xs (Ow.of_row hown) b h63 hbytes hbase
  rw [hr1] at hr2
  cases hr2
  refine wpList_plain hgd fun K hK' => ?_
  unfold Oper.wp
  simp [execOp, hop, resolve, invoke, builtin, hs, hx, hr1, Result.andThen]
  exact hK' _ _ (hK v1 w1 o1 g1 f2)
end
/-- A printer at block p: whether its builder was used, its row, its bytes. -/
def IsPr (w : World) (p : Nat) (u : Bool) (row : Option Nat) (bs : List UInt8) (bad : Bool) : Prop :=
  ∃ v, w.heap[p]? = some (.cells #[.pointer (if u then some ⟨p, 0, none⟩ else none), v, .bool bad] 47 (0, 0)) ∧ w.ownsRow (p + 1) 5 1 v bs.length (bcells bs) ∧ v.ownBlock = row
/-- All old blocks but the printer's two are as they were; its row is the old one or a new one. -/
def PrStep (w w' : World) (p : Nat) (row row' : Option Nat) : Prop :=
  (w'.os = w.os ∧ w'.tape = w.tape ∧ w'.output = w.output ∧ w.heap.size ≤ w'.heap.size ∧ ∀ k, k < w.heap.size → k ≠ p → row ≠ some k → w'.heap[k]? = w.heap[k]?) ∧ (row' = row ∨ ∀ g, row' = some g → w.heap.size ≤ g)
theorem PrStep.refl (w : World) (p : Nat) (row : Option Nat) : PrStep w w p row row := ⟨⟨rfl, rfl, rfl, Nat.le_refl _, fun _ _ _ _ => rfl⟩, .inl rfl⟩
theorem PrStep.trans {a b c : World} {p : Nat} {r0 r1 r2 : Option Nat} (h : PrStep a b p r0 r1) (k : PrStep b c p r1 r2) : PrStep a c p r0 r2 := by
  obtain ⟨⟨h1, h2, h3, h4, h5⟩, h6⟩ := h
  obtain ⟨⟨k1, k2, k3, k4, k5⟩, k6⟩ := k
  refine ⟨⟨k1.trans h1, k2.trans h2, k3.trans h3, Nat.le_trans h4 k4, fun j hj hp hr => ?_⟩, ?_⟩
  · refine (k5 j (Nat.lt_of_lt_of_le hj h4) hp ?_).trans (h5 j hj hp hr)
    rcases h6 with e | e
    · rw [e]; exact hr
    · intro e2; have := e j e2; omega
  · rcases k6 with e | e
    · rw [e]; exact h6
    · exact .inr fun g hg => Nat.le_trans h4 (e g hg)
theorem PrStep.of_below {a b : World} {p : Nat} {r : Option Nat} (h : Below a.heap.size a b) : PrStep a b p r r := ⟨⟨h.os, h.tape, h.output, h.size, fun k hk _ _ => h.block k hk⟩, .inl rfl⟩
theorem PrStep.block {a b : World} {p k : Nat} {r r' : Option Nat} (h : PrStep a b p r r') (hk : k < a.heap.size) (hp : k ≠ p) (hr : r ≠ some k) : b.heap[k]? = a.heap[k]? := h.1.2.2.2.2 k hk hp hr
theorem PrStep.size {a b : World} {p : Nat} {r r' : Option Nat} (h : PrStep a b p r r') : a.heap.size ≤ b.heap.size := h.1.2.2.2.1
/-- Below the printer all is as it was. -/
theorem PrStep.below {a b : World} {p : Nat} {r r' : Option Nat} (h : PrStep a b p r r') (hp : p < a.heap.size) (hr : ∀ g, r = some g → p < g) : Below p a b :=
  ⟨h.1.1, h.1.2.1, h.1.2.2.1, h.1.2.2.2.1, fun k hk => h.1.2.2.2.2 k (by omega) (by omega) (fun e => by have := hr k e; omega)⟩
section
variable {w w' : World} {p : Nat} {u bad : Bool} {row : Option Nat} {bs : List UInt8}
theorem IsPr.lt (h : IsPr w p u row bs bad) : p < w.heap.size := by obtain ⟨v, hb, _⟩ := h; exact lt_of_block hb
theorem IsPr.row_lt (h : IsPr w p u row bs bad) : ∀ g, row = some g → p < g ∧ g < w.heap.size := by
  obtain ⟨v, hb, ho, hr⟩ := h
  intro g hg
  have := (Ow.of_row ho).lt g (by rw [hr]; exact hg)
  omega
theorem IsPr.below (h : IsPr w p u row bs bad) (hb : Below w.heap.size w w') : IsPr w' p u row bs bad := by
  have hl := h.lt
  obtain ⟨v, h1, h2, h3⟩ := h
  exact ⟨v, (hb.block p hl).trans h1, own_below h2 hb, h3⟩
/-- The printer beside a block of another's that is stored into. -/
theorem IsPr.far (h : IsPr w p u row bs bad) {g k : Nat} {x : Value} (hg : g ≠ p) (hr : row ≠ some g) : IsPr (w.setCell ⟨g, k, none⟩ x) p u row bs bad := by
  obtain ⟨v, h1, h2, h3⟩ := h
  have hgr : w.grownBy (w.setCell ⟨g, k, none⟩ x) (some g) := grown_set (World.grownBy.refl w (some g)) k x
  refine ⟨v, (hgr.block p (lt_of_block h1) (fun e => hg (Option.some.inj e).symm)).trans h1, ?_, h3⟩
  refine ⟨h2.1, h2.2.imp id ?_⟩
  rintro ⟨g', cap, cur, hv, hb, hbl, hrest⟩
  refine ⟨g', cap, cur, hv, hb, ?_, hrest⟩
  rw [hgr.block g' (lt_of_block hbl) (fun e => hr (by rw [← h3, hv]; exact e))]
  exact hbl
end
theorem liesPr : liesAt Tryd.prog Tryd.prog.depth 47 (3 / Tryd.prog.cellsOf 47) 0 45 1 = true := by kernel_rfl
theorem sizeBd : (Tryd.prog.info? 45).map (·.size) = some 2 := by kernel_rfl
set_option maxHeartbeats 1000000 in
set_option maxRecDepth 100000 in
theorem pr_check (p : Nat) (u : Bool) (row : Option Nat) (bs : List UInt8) (bad : Bool) (w : World) (h : IsPr w p u row bs bad) :
    Calls Tryd.prog 27 #[.pointer (some ⟨p, 0, none⟩)] w fun e w' => e = .returned (.tuple #[]) ∧ IsPr w' p true row bs bad ∧ PrStep w w' p row row := by
  obtain ⟨j, hj, hjs⟩ := Option.map_eq_some_iff.1 sizeBd
  obtain ⟨v, hb, ho, hr⟩ := h
  have k0 : w.cell? ⟨p, 0, none⟩ = some (.pointer (if u then some ⟨p, 0, none⟩ else none)) := by simp [World.cell?, hb]
  have f0 : w.frozen? ⟨p, 0, none⟩ = false := by simp [World.frozen?, hb]
  have hsh : w.shape? p = some (47, 3) := by simp [World.shape?, hb]
  rcases u with _ | _
  · simp only [Bool.false_eq_true, if_false] at k0
    have hw' : (w.setCell ⟨p, 0, none⟩ (.pointer (some ⟨p, 0, none⟩))).heap[p]? = some (.cells #[.pointer (some ⟨p, 0, none⟩), v, .bool bad] 47 (0, 0)) := by
      simp [World.setCell, Array.getElem?_modify, hb]
    have hst : PrStep w (w.setCell ⟨p, 0, none⟩ (.pointer (some ⟨p, 0, none⟩))) p row row :=
      ⟨⟨rfl, rfl, rfl, by simp [World.setCell], fun k _ hp _ => Below.heap_setCell _ _ _ _ (by simpa using hp)⟩, .inl rfl⟩
    have ho' : (w.setCell ⟨p, 0, none⟩ (.pointer (some ⟨p, 0, none⟩))).ownsRow (p + 1) 5 1 v bs.length (bcells bs) := by
      refine ⟨ho.1, ho.2.imp id ?_⟩
      rintro ⟨g', cap, cur, hv, hbg, hbl, hrest⟩
      exact ⟨g', cap, cur, hv, hbg, by rw [Below.heap_setCell _ _ _ _ (by simp only; omega)]; exact hbl, hrest⟩
    go_enter Tryd.func27, Tryd.ntmps27
    go_wp2_with fail
    rw [Lib.run_to_unsafe w ⟨p, 0, none⟩ Tryd.underlying43 Tryd.underlying78 hj (by rw [hjs]; decide) hsh (Nat.zero_lt_succ 2)]
    simp only [Result.andThen]
    rw [Oper.upon_value]
    go_wp2_with fail
    rw [run_callFunc_extern Tryd.func35 (by kernel_rfl) (by kernel_rfl) (by kernel_rfl) (e := Extern.AbiNoEscape.same) (by kernel_rfl)]
    rw [Lib.run_noEscape]
    simp only [Result.andThen]
    rw [Oper.upon_value]
    go_wp2_with fail
    rw [Lib.run_from_unsafe w ⟨p, 0, none⟩ Tryd.underlying78 Tryd.underlying43 hj hsh liesPr]
    simp only [Result.andThen]
    rw [Oper.upon_value]
    go_wp2_with fail
    go_end0
    exact ⟨rfl, ⟨v, hw', ho', hr⟩, hst⟩
  · simp only [if_true] at k0
    go_enter Tryd.func27, Tryd.ntmps27
    go_wp2_with fail
    rw [Lib.run_neq_ptr_same w _ Tryd.underlying43 hj]
    go_wp2_with fail
    go_end0
    exact ⟨rfl, ⟨v, hb, ho, hr⟩, PrStep.refl _ _ _⟩
theorem infoU8p : (Tryd.prog.info? 5).map (fun i => (i.zero, i.size, i.bytes)) = some (some (.int .u8 0), 1, 1) := by kernel_rfl
/-- The builder's buffer is stored: what a writing method leaves. -/
theorem pr_put {w1 w2 : World} {p : Nat} {bad : Bool} {row : Option Nat} {v v' : Value} {bs bs' : List UInt8} (hb : w1.heap[p]? = some (.cells #[.pointer (some ⟨p, 0, none⟩), v, .bool bad] 47 (0, 0))) (hown : w1.ownsRow (p + 1) 5 1 v bs.length (bcells bs)) (hr : v.ownBlock = row)
    (ho : w2.ownsRow (p + 1) 5 1 v' bs'.length (bcells bs')) (hg : w1.grownBy w2 v.ownBlock) (hf : v'.ownBlock = v.ownBlock ∨ ∀ g, v'.ownBlock = some g → w1.heap.size ≤ g) :
    IsPr (w2.setCell ⟨p, 1, none⟩ v') p true v'.ownBlock bs' bad ∧ PrStep w1 (w2.setCell ⟨p, 1, none⟩ v') p row v'.ownBlock ∧ w2.cell? ⟨p, 1, none⟩ = some v ∧ w2.frozen? ⟨p, 1, none⟩ = false ∧ w2.cell? ⟨p, 0, none⟩ = some (.pointer (some ⟨p, 0, none⟩)) := by
  have hlt := lt_of_block hb
  have hpn : v.ownBlock ≠ some p := by intro e; have := ((Ow.of_row hown).lt p e).1; omega
  have hb2 : w2.heap[p]? = some (.cells #[.pointer (some ⟨p, 0, none⟩), v, .bool bad] 47 (0, 0)) := (hg.block p hlt (fun e => hpn e.symm)).trans hb
  refine ⟨⟨v', by simp [World.setCell, Array.getElem?_modify, hb2], ?_, rfl⟩, ⟨⟨hg.os, hg.tape, hg.output, by simpa [World.setCell] using hg.size, fun k hk hp hrk => ?_⟩, by rw [← hr]; exact hf⟩, by simp [World.cell?, hb2], by simp [World.frozen?, hb2], by simp [World.cell?, hb2]⟩
  · refine ⟨ho.1, ho.2.imp id ?_⟩
    rintro ⟨g', cap, cur, hv, hbg, hbl, hrest⟩
    exact ⟨g', cap, cur, hv, hbg, by rw [Below.heap_setCell _ _ _ _ (by simp only; omega)]; exact hbl, hrest⟩
  · rw [Below.heap_setCell _ _ _ _ (by simpa using hp)]
    exact hg.block k hk (fun e => hrk (by rw [← hr]; exact e.symm))
set_option maxHeartbeats 1600000 in
set_option maxRecDepth 100000 in
theorem pr_byte (p : Nat) (u : Bool) (row : Option Nat) (bs : List UInt8) (bad : Bool) (c : UInt8) (w : World) (h : IsPr w p u row bs bad) (hlen : bs.length ≤ 100000000) :
    Calls Tryd.prog 17 #[.pointer (some ⟨p, 0, none⟩), .int .u8 (c.toNat : Int)] w fun e w' => e = .returned .nilIface ∧ ∃ row', IsPr w' p true row' (bs ++ [c]) bad ∧ PrStep w w' p row row' := by
  obtain ⟨i0, hi0, hz0, hz1, hz2⟩ := info_parts infoU8p
  have ck := pr_check p u row bs bad w h
  obtain ⟨cv, hcv⟩ : ∃ x : Int, x = (c.toNat : Int) := ⟨_, rfl⟩
  rw [← hcv]
  have HCV := hide hcv
  clear hcv
  go_enter Tryd.func17, Tryd.ntmps17
  go_wp2_with fail
  refine ck.mono ?_
  rintro e w1 ⟨rfl, ⟨v, hb, ho, hr⟩, st⟩
  have hlt := lt_of_block hb
  have c0 : w1.cell? ⟨p, 0, none⟩ = some (.pointer (some ⟨p, 0, none⟩)) := by simp [World.cell?, hb]
  have c1 : w1.cell? ⟨p, 1, none⟩ = some v := by simp [World.cell?, hb]
  obtain ⟨n, hn⟩ : ∃ n, n = bs.length := ⟨_, rfl⟩
  have ho2 := ho
  rw [← hn] at ho2 hlen
  have HN := hide hn
  clear ck hn
  go_wp2_with (at_builtin; refine wpl_push_fr rfl _ _ _ rfl (p + 1) i0 _ 1 1 Tryd.underlying38 hi0 hz0 hz1 hz2 rfl (by omega) v n _ rfl _ rfl ho2 rfl (by simp [Value.oneCell']) (by unfold maxLen; omega) (by omega) (by omega) ?_; intro v' w2 ho3 hg hf; obtain ⟨A', c', rfl, -, -⟩ := (Ow.of_row ho3).shape; obtain ⟨q1, q2, q3, q4, q5⟩ := pr_put (bs' := bs ++ [c]) hb ho hr (by rw [List.length_append, List.length_singleton, ← HN.out, ← bcells_append]; rw [show bcells [c] = [Value.int .u8 cv] by rw [HCV.out]; rfl]; exact ho3) hg hf)
  go_ret
  exact ⟨rfl, _, q1, st.trans q2⟩
set_option maxHeartbeats 1600000 in
set_option maxRecDepth 100000 in
theorem pr_str (p : Nat) (u : Bool) (row : Option Nat) (bs : List UInt8) (bad : Bool) (b : ByteArray) (w : World) (h : IsPr w p u row bs bad) (hlen : bs.length + b.size ≤ 100000000) :
    Calls Tryd.prog 15 #[.pointer (some ⟨p, 0, none⟩), .string b] w fun e w' => (∃ k, e = .returned (.tuple #[.int .i64 k, .nilIface])) ∧ ∃ row', IsPr w' p true row' (bs ++ b.data.toList) bad ∧ PrStep w w' p row row' := by
  obtain ⟨i0, hi0, hz0, hz1, hz2⟩ := info_parts infoU8p
  have ck := pr_check p u row bs bad w h
  have hbl : b.data.toList.length = b.size := by rw [Array.length_toList]; rfl
  go_enter Tryd.func15, Tryd.ntmps15
  go_wp2_with fail
  refine ck.mono ?_
  rintro e w1 ⟨rfl, ⟨v, hb, ho, hr⟩, st⟩
  have hlt := lt_of_block hb
  have c0 : w1.cell? ⟨p, 0, none⟩ = some (.pointer (some ⟨p, 0, none⟩)) := by simp [World.cell?, hb]
  have c1 : w1.cell? ⟨p, 1, none⟩ = some v := by simp [World.cell?, hb]
  obtain ⟨n, hn⟩ : ∃ n, n = bs.length := ⟨_, rfl⟩
  have ho2 := ho
  rw [← hn] at ho2 hlen
  have HN := hide hn
  have HBL := hide hbl
  clear ck hn hbl
  go_wp2_with (at_builtin; refine wpl_appstr_fr _ rfl _ _ _ _ rfl (p + 1) 5 i0 Tryd.underlying38 Tryd.underlying9 hi0 hz0 hz1 hz2 v n _ rfl b rfl ho2 (by unfold maxLen; omega) (by omega) (by omega) ?_; intro v' w2 ho3 hg hf; obtain ⟨A', c', rfl, -, -⟩ := (Ow.of_row ho3).shape; obtain ⟨q1, q2, q3, q4, q5⟩ := pr_put (bs' := bs ++ b.data.toList) hb ho hr (by rw [List.length_append, HBL.out, ← HN.out, ← bcells_append]; exact ho3) hg hf)
  go_ret2
  exact ⟨⟨_, rfl⟩, _, q1, st.trans q2⟩
theorem pr_len (p : Nat) (u : Bool) (row : Option Nat) (bs : List UInt8) (bad : Bool) (w : World) (h : IsPr w p u row bs bad) :
    Calls Tryd.prog 19 #[.pointer (some ⟨p, 0, none⟩)] w fun e w' => e = .returned (.int .i64 (bs.length : Nat)) ∧ w = w' := by
  obtain ⟨v, hb, ho, hr⟩ := h
  obtain ⟨A', c', rfl, -, -⟩ := (Ow.of_row ho).shape
  have c1 : w.cell? ⟨p, 1, none⟩ = some (.slice A' bs.length c') := by simp [World.cell?, hb]
  go_enter Tryd.func19, Tryd.ntmps19
  go_wp2_with fail
  go_ret
  exact ⟨rfl, rfl⟩
set_option maxHeartbeats 1600000 in
set_option maxRecDepth 100000 in
theorem pr_text (p : Nat) (u : Bool) (row : Option Nat) (bs : List UInt8) (bad : Bool) (w : World) (h : IsPr w p u row bs bad) (h0 : bs ≠ []) :
    Calls Tryd.prog 20 #[.pointer (some ⟨p, 0, none⟩)] w fun e w' => e = .returned (.string ⟨bs.toArray⟩) ∧ Below p w w' := by
  obtain ⟨v, hb, hown, hr⟩ := h
  have hl0 : bs.length ≠ 0 := by simpa using h0
  obtain ⟨g, cap, cur, rfl, hbg, hg, hnc, hcm, hcs, htake⟩ : ∃ g cap cur, v = .slice (some ⟨g, 0, none⟩) bs.length cap ∧ p + 1 ≤ g ∧ w.heap[g]? = some (.cells cur 5 (0, 0)) ∧ bs.length ≤ cap ∧ cap ≤ maxLen ∧ cur.size = cap * 1 ∧ cur.toList.take (bs.length * 1) = bcells bs := by
    rcases hown.2 with ⟨_, hz⟩ | ⟨g, cap, cur, hv, r⟩
    · exact absurd hz hl0
    · exact ⟨g, cap, cur, hv, r⟩
  have c1 : w.drew.cell? ⟨p, 1, none⟩ = some (.slice (some ⟨g, 0, none⟩) bs.length cap) := by
    have : w.drew.heap[p]? = some (.cells #[.pointer (if u then some ⟨p, 0, none⟩ else none), .slice (some ⟨g, 0, none⟩) bs.length cap, .bool bad] 47 (0, 0)) := hb
    rw [Lib.cell_of_heap this]; rfl
  have hSD : (Builtin.unsafeSliceData_ #[38] 69 #[.slice (some ⟨g, 0, none⟩) bs.length cap]).run Tryd.prog w.drew = .ok (.pointer (some ⟨g, 0, none⟩)) w.drew :=
    Lib.run_unsafeSliceData_row _ _ _ _ _ _ (by omega)
  have hUS : (Builtin.unsafeString_ #[69, 3] 9 #[.pointer (some ⟨g, 0, none⟩), .int .i64 bs.length]).run Tryd.prog w.drew = .ok (.string ⟨bs.toArray⟩) (w.drew.freeze ⟨g, 0, none⟩ bs.length) := by
    refine Lib.run_unsafeString_row w.drew 69 3 9 5 Tryd.underlying69 (by kernel_rfl) g cur.size (by have hg' : w.drew.heap[g]? = some (.cells cur 5 (0, 0)) := hg; simp [World.shape?, hg']) bs h0 (by omega) (by unfold maxLen at hcm; omega) ?_
    intro j x hx
    exact hown.cells (g := g) rfl j (.int .u8 x.toNat) (by simp [bcells, hx])
  obtain ⟨n, hn⟩ : ∃ n, n = bs.length := ⟨_, rfl⟩
  rw [← hn] at c1 hSD hUS
  have mixed : Tryd.prog.follows Departure.mixedOrders = true := by kernel_rfl
  clear hown hn hl0 htake
  go_enter Tryd.func20, Tryd.ntmps20
  go_wp2
  go_region_o
  all_goals (go_wp2; go_ret; exact ⟨rfl, Lib.below_freeze (Below.drew (Below.refl p w)) (p := ⟨g, 0, none⟩) (by simp only; omega) _⟩)
end Go.Proofs.YtbgbggodjhbgbaaDoor
