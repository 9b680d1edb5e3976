/- strings.Builder embedded in script.printer: a block of three cells. -/
import Derived.Test.YtbplnglmjcmfiaaGreatDoorScrPut
import Derived.Lib.Builder
import Derived.Lib.AppendStr
import Derived.Lib.UnsafeStr
namespace Go.Proofs.YtbplnglmjcmfiaaGreatDoor
open Go.RowKit
set_option linter.unusedVariables false
set_option linter.unusedSimpArgs false

section
variable {P : Program}
/-- 'append(b.buf, c)': the row is the old one or a new one. -/
theorem wpl_push_fr {w : World} {cs : Array Value} {e : TypeId} {ops : Array Oper} {rest : List Oper} {o : Oper} {a : Act} {Q : Exit → Act → World → Prop}
    (hgd : o.guard = none) (s x : Operand) (t : TypeId) (hop : o.op = Op.call { callee := Callee.builtin Builtin.append, args := #[s, x], argTypes := #[t, t] })
    (base : Nat) (i : TypeInfo) (z : Value) (size bytes : Nat) (ht : P.underlying t = some (.slice e)) (hi : P.info? e = some i) (hz : i.zero = some z)
    (hsize : i.size = size) (hby : i.bytes = bytes) (hzs : z.cells.size = size) (hsz : 0 < size)
    (v : Value) (n : Nat) (xs : List Value) (hs : a.eval s = v) (c : Nat) (hx : a.eval x = .slice (some ⟨w.heap.size, 0, none⟩) 1 c)
    (hown : w.ownsRow base e size v n xs) (hcs : cs.size = size) (h1 : ∀ u ∈ cs.toList, u.oneCell' = true)
    (h63 : n + 1 ≤ maxLen) (hbytes : (n + 1) * bytes ≤ 140737488355328) (hbase : base ≤ w.heap.size)
    (hK : ∀ v' w', w'.ownsRow base e size v' (n + 1) (xs ++ cs.toList) → w.grownBy w' v.ownBlock → (v'.ownBlock = v.ownBlock ∨ ∀ g, v'.ownBlock = some g → w.heap.size ≤ g) → wpList P ops Q rest (a.put o.dst v') w') :
    wpList P ops Q (o :: rest) a (w.alloc (.cells cs e)) := by
  have hg1 : w.grownBy (w.alloc (.cells cs e)) v.ownBlock := World.grownBy_alloc w _ _
  have hcell : ∀ j u, cs.toList[j]? = some u → (w.alloc (.cells cs e)).cell? ((⟨w.heap.size, 0, none⟩ : Addr).add j) = some u := fun j u hu => by
    rw [Addr.add_lit, cell_of_row _ w.heap.size _ cs e (0, 0) (heap_alloc_new w _)]
    simpa using hu
  have hsza : (w.alloc (.cells cs e)).heap.size = w.heap.size + 1 := Array.size_push _
  have hrd : Rd (w.alloc (.cells cs e)) (w.heap.size + 1) size (some ⟨w.heap.size, 0, none⟩) 1 cs.toList := ⟨by simpa using hcs, .inr ⟨_, rfl, by simp, hcell⟩⟩
  obtain ⟨v1, w1, hr1, o1, g1, -⟩ := run_append_own (P := P) (w := w.alloc (.cells cs e)) base t o.type e i z size bytes ht hi hz hsize hby hzs hsz v n xs (hown.alloc _) ⟨w.heap.size, 0, none⟩ 1 c cs.toList (by simpa using hcs) hcell h1 h63 hbytes (by rw [hsza]; omega)
  obtain ⟨v2, w2, hr2, -, -, f2⟩ := run_append_ow (P := P) (w.alloc (.cells cs e)) t o.type base e i z size bytes ht hi hz hsize hby hzs hsz v n xs (w.heap.size + 1) (some ⟨w.heap.size, 0, none⟩) 1 c cs.toList (Ow.of_row (hown.alloc _)) hrd h1 h63 hbytes (by rw [hsza]; omega)
  rw [hr1] at hr2
  cases hr2
  refine wpList_plain hgd fun K hK' => ?_
  unfold Oper.wp
  simp [execOp, hop, resolve, invoke, builtin, hs, hx, hr1, Result.andThen]
  refine hK' _ _ (hK v1 w1 o1 ?_ ?_)
  · exact ⟨g1.os.trans hg1.os, g1.tape.trans hg1.tape, g1.output.trans hg1.output, Nat.le_trans hg1.size g1.size, fun k hk hne => (g1.block k (Nat.lt_of_lt_of_le hk hg1.size) hne).trans (hg1.block k hk hne)⟩
  · exact f2.imp id fun h g hg => Nat.le_trans hg1.size (h g hg)
theorem wpl_appstr_fr (w : World) {ops : Array Oper} {rest : List Oper} {o : Oper} {a : Act} {Q : Exit → Act → World → Prop}
    (hgd : o.guard = none) (s x : Operand) (t u : TypeId) (hop : o.op = Op.call { callee := Callee.builtin Builtin.append, args := #[s, x], argTypes := #[t, u] })
    (base : Nat) (e : TypeId) (i : TypeInfo) (ht : P.underlying t = some (.slice e)) (hu : P.underlying u = some .string) (hi : P.info? e = some i) (hz : i.zero = some (.int .u8 0))
    (hsize : i.size = 1) (hby : i.bytes = 1)
    (v : Value) (n : Nat) (xs : List Value) (hs : a.eval s = v) (b : ByteArray) (hx : a.eval x = .string b)
    (hown : w.ownsRow base e 1 v n xs) (h63 : n + b.size ≤ maxLen) (hbytes : n + b.size ≤ 140737488355328) (hbase : base ≤ w.heap.size)
    (hK : ∀ v' w', w'.ownsRow base e 1 v' (n + b.size) (xs ++ bcells b.data.toList) → w.grownBy w' v.ownBlock → (v'.ownBlock = v.ownBlock ∨ ∀ g, v'.ownBlock = some g → w.heap.size ≤ g) → wpList P ops Q rest (a.put o.dst v') w') :
    wpList P ops Q (o :: rest) a w := by
  obtain ⟨v1, w1, hr1, o1, g1, -⟩ := Lib.run_append_own_string (P := P) w base t u o.type e i ht hu hi hz hsize hby v n xs hown b h63 hbytes hbase
  obtain ⟨v2, w2, hr2, -, -, f2⟩ := run_append_ow_string (P := P) w t u o.type base e i ht hu hi hz hsize hby v n xs (Ow.of_row hown) b h63 hbytes hbase
  rw [hr1] at hr2
  cases hr2
  refine wpList_plain hgd fun K hK' => ?_
  unfold Oper.wp
  simp [execOp, hop, resolve, invoke, builtin, hs, hx, hr1, Result.andThen]
  exact hK' _ _ (hK v1 w1 o1 g1 f2)
end
/-- All old blocks but the printer's two are as they were; its row is the old one or a new one. -/
def PrStep (w w' : World) (p : Nat) (row row' : Option Nat) : Prop :=
  (w'.os = w.os ∧ w'.tape = w.tape ∧ w'.output = w.output ∧ w.heap.size ≤ w'.heap.size ∧ ∀ k, k < w.heap.size → k ≠ p → row ≠ some k → w'.heap[k]? = w.heap[k]?) ∧ (row' = row ∨ ∀ g, row' = some g → w.heap.size ≤ g)
theorem PrStep.refl (w : World) (p : Nat) (row : Option Nat) : PrStep w w p row row := ⟨⟨rfl, rfl, rfl, Nat.le_refl _, fun _ _ _ _ => rfl⟩, .inl rfl⟩
theorem PrStep.trans {a b c : World} {p : Nat} {r0 r1 r2 : Option Nat} (h : PrStep a b p r0 r1) (k : PrStep b c p r1 r2) : PrStep a c p r0 r2 := by
  obtain ⟨⟨h1, h2, h3, h4, h5⟩, h6⟩ := h
  obtain ⟨⟨k1, k2, k3, k4, k5⟩, k6⟩ := k
  refine ⟨⟨k1.trans h1, k2.trans h2, k3.trans h3, Nat.le_trans h4 k4, fun j hj hp hr => ?_⟩, ?_⟩
  · refine (k5 j (Nat.lt_of_lt_of_le hj h4) hp ?_).trans (h5 j hj hp hr)
    rcases h6 with e | e
    · rw [e]; exact hr
    · intro e2; have := e j e2; omega
  · rcases k6 with e | e
    · rw [e]; exact h6
    · exact .inr fun g hg => Nat.le_trans h4 (e g hg)
theorem PrStep.of_below {a b : World} {p : Nat} {r : Option Nat} (h : Below a.heap.size a b) : PrStep a b p r r := ⟨⟨h.os, h.tape, h.output, h.size, fun k hk _ _ => h.block k hk⟩, .inl rfl⟩
theorem PrStep.block {a b : World} {p k : Nat} {r r' : Option Nat} (h : PrStep a b p r r') (hk : k < a.heap.size) (hp : k ≠ p) (hr : r ≠ some k) : b.heap[k]? = a.heap[k]? := h.1.2.2.2.2 k hk hp hr
theorem PrStep.size {a b : World} {p : Nat} {r r' : Option Nat} (h : PrStep a b p r r') : a.heap.size ≤ b.heap.size := h.1.2.2.2.1
/-- Below the printer all is as it was. -/
theorem PrStep.below {a b : World} {p : Nat} {r r' : Option Nat} (h : PrStep a b p r r') (hp : p < a.heap.size) (hr : ∀ g, r = some g → p < g) : Below p a b :=
  ⟨h.1.1, h.1.2.1, h.1.2.2.1, h.1.2.2.2.1, fun k hk => h.1.2.2.2.2 k (by omega) (by omega) (fun e => by have := hr k e; omega)⟩
section
variable {w w' : World} {p : Nat} {u bad : Bool} {row : Option Nat} {bs : List UInt8}
end
theorem sizeBd : (Tryz.prog.info? 128).map (·.size) = some 2 := by kernel_rfl
theorem infoU8p : (Tryz.prog.info? 5).map (fun i => (i.zero, i.size, i.bytes)) = some (some (.int .u8 0), 1, 1) := by kernel_rfl
end Go.Proofs.YtbplnglmjcmfiaaGreatDoor
