/- One element appended to a slice of the call's own, beside another row of the call's own that is read. -/
import Derived.Test.YtgdjlmpfjmakkaaDoorOwn
namespace Go.Proofs.YtgdjlmpfjmakkaaDoor
open Go.RowKit

section
variable {P : Program}
theorem wpl_push_ow {w : World} {cs : Array Value} {e : TypeId} {ops : Array Oper} {rest : List Oper} {o : Oper} {a : Act} {Q : Exit → Act → World → Prop}
    (hgd : o.guard = none) (s x : Operand) (t : TypeId) (hop : o.op = Op.call { callee := Callee.builtin Builtin.append, args := #[s, x], argTypes := #[t, t] })
    (base : Nat) (i : TypeInfo) (z : Value) (size bytes : Nat) (ht : P.underlying t = some (.slice e)) (hi : P.info? e = some i) (hz : i.zero = some z)
    (hsize : i.size = size) (hby : i.bytes = bytes) (hzs : z.cells.size = size) (hsz : 0 < size)
    (v : Value) (n : Nat) (xs : List Value) (hs : a.eval s = v) (c : Nat) (hx : a.eval x = .slice (some ⟨w.heap.size, 0, none⟩) 1 c)
    (hown : Ow w base size v n xs) (hcs : cs.size = size) (h1 : ∀ u ∈ cs.toList, u.oneCell' = true)
    (h63 : n + 1 ≤ maxLen) (hbytes : (n + 1) * bytes ≤ 140737488355328) (hbase : base ≤ w.heap.size)
    (hK : ∀ v' w', Ow w' base size v' (n + 1) (xs ++ cs.toList) → Below base w w' → w.grownBy w' v.ownBlock → (v'.ownBlock = v.ownBlock ∨ ∀ g, v'.ownBlock = some g → w.heap.size ≤ g) → wpList P ops Q rest (a.put o.dst v') w') :
    wpList P ops Q (o :: rest) a (w.alloc (.cells cs e)) := by
  have hg1 : w.grownBy (w.alloc (.cells cs e)) v.ownBlock := World.grownBy_alloc w _ _
  refine wpl_append_ow (w.alloc (.cells cs e)) hgd s x t hop base e i z size bytes ht hi hz hsize hby hzs hsz v n xs hs (w.heap.size + 1) _ 1 c cs.toList hx (hown.alloc _)
    ⟨by simpa using hcs, .inr ⟨_, rfl, by simp, fun j u hu => ?_⟩⟩ h1 h63 hbytes (by simp; omega) (fun v' w' h2 h3 h4 h5 => hK v' w' h2 ?_ ?_ ?_)
  · rw [Addr.add_lit, cell_of_row _ w.heap.size _ cs e (0, 0) (heap_alloc_new w _)]
    simpa using hu
  · exact ((Below.refl _ _).alloc hbase _).trans h3
  · exact ⟨h4.os.trans hg1.os, h4.tape.trans hg1.tape, h4.output.trans hg1.output, Nat.le_trans hg1.size h4.size, fun k hk hne => (h4.block k (Nat.lt_of_lt_of_le hk hg1.size) hne).trans (hg1.block k hk hne)⟩
  · exact h5.imp id fun h g hg => Nat.le_trans hg1.size (h g hg)
end
/-- A row that is read beside one that grows. -/
theorem Rd.grown {w w' : World} {B size n : Nat} {A : Option Addr} {xs : List Value} {row : Option Nat} (h : Rd w B size A n xs) (g : w.grownBy w' row) (hB : B ≤ w.heap.size) (hsep : ∀ a, A = some a → row ≠ some a.block) : Rd w' B size A n xs := by
  refine ⟨h.1, h.2.imp id ?_⟩
  rintro ⟨a, rfl, hb, hc⟩
  refine ⟨a, rfl, hb, fun j u hu => ?_⟩
  have hbk : w'.heap[(a.add j).block]? = w.heap[(a.add j).block]? := by rw [addr_add_block]; exact g.block a.block (by omega) (fun e => hsep a rfl e.symm)
  exact (World.cell?_of_block (a := a.add j) hbk).trans (hc j u hu)
/-- Neither row is the other's block. -/
def Apart (A : Option Addr) (v : Value) : Prop := ∀ a, A = some a → v.ownBlock ≠ some a.block
theorem Apart.step {w : World} {B size n : Nat} {A : Option Addr} {xs : List Value} {v v' : Value} (h : Apart A v) (hr : Rd w B size A n xs) (hn : 0 < n) (hB : B ≤ w.heap.size) (hv : v'.ownBlock = v.ownBlock ∨ ∀ g, v'.ownBlock = some g → w.heap.size ≤ g) : Apart A v' := by
  intro a ha e
  rcases hv with hv | hv
  · rw [hv] at e; exact h a ha e
  · have h1 := hv _ e
    obtain ⟨a', ha', hb, _⟩ := hr.at_ hn
    rw [ha] at ha'; cases ha'
    omega
end Go.Proofs.YtgdjlmpfjmakkaaDoor
