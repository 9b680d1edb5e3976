/- Small facts about worlds, slices and strings that the walks of this seat share; no function of the program is named here. -/
import Derived.WalkKit
import Derived.WalkLawsBesides
import Derived.WalkSpells
import Derived.Laws.IdiomStrings
import Derived.Deep.Draws
import Derived.ArgAppend
import Derived.Test.YtijlaclngibekaaGreatDoorProg
import Derived.Maps.Own
namespace Go.Proofs.YtijlaclngibekaaGreatDoor
open Go.RowKit

theorem hide {p : Prop} (h : p) : Hid p := h

/-! ### Endings -/
theorem bytes_ext {a b : ByteArray} (h : a.data.toList = b.data.toList) : a = b := by
  cases a; cases b; simp at h; simp [h]
theorem bytes_of (s : ByteArray) : (⟨s.data.toList.toArray⟩ : ByteArray) = s := bytes_ext (by simp)
theorem size_of (s : ByteArray) : s.size = s.data.toList.length := by cases s; simp [ByteArray.size]
theorem ret_string {a b : ByteArray} (h : a.data.toList = b.data.toList) : Ending.returned (.string a) = .returned (.string b) := by rw [bytes_ext h]
theorem ret_int {k : IntKind} {a b : Int} (h : a = b) : Ending.returned (.int k a) = .returned (.int k b) := by rw [h]
theorem ret_bool {a b : Bool} (h : a = b) : Ending.returned (.bool a) = .returned (.bool b) := by rw [h]

/-! ### Strings read byte by byte -/
theorem get_toList (s : ByteArray) (k : Nat) (h : k < s.size) : s.data.toList[k]? = some s[k] := by
  have h' : k < s.data.toList.length := by rw [← size_of]; exact h
  rw [List.getElem?_eq_getElem h']; rfl
theorem take_snoc (s : ByteArray) (k : Nat) (h : k < s.size) : s.data.toList.take (k + 1) = s.data.toList.take k ++ [s[k]] := by
  rw [List.take_add_one, get_toList s k h]; rfl
theorem drop_cons (s : ByteArray) (k : Nat) (h : k < s.size) : s.data.toList.drop k = s[k] :: s.data.toList.drop (k + 1) := by
  have h' : k < s.data.toList.length := by rw [← size_of]; exact h
  rw [List.drop_eq_getElem_cons h']; rfl
theorem take_all (s : ByteArray) (k : Nat) (h : s.size ≤ k) : s.data.toList.take k = s.data.toList := List.take_of_length_le (by rw [← size_of]; exact h)
theorem drop_all (s : ByteArray) (k : Nat) (h : s.size ≤ k) : s.data.toList.drop k = [] := List.drop_eq_nil_of_le (by rw [← size_of]; exact h)
theorem extract_list (s : ByteArray) (a b : Nat) : (s.extract a b).data.toList = (s.data.toList.take b).drop a := by
  simp [ByteArray.extract, ByteArray.copySlice, List.drop_take]

/-! ### Where cells lie -/
theorem addr_add_block (a : Addr) (i : Nat) : (a.add i).block = a.block := by unfold Addr.add; split <;> rfl
theorem addr_add_add (a : Addr) (i j : Nat) : (a.add i).add j = a.add (i + j) := by
  unfold Addr.add
  by_cases h1 : i = 0 <;> by_cases h2 : j = 0 <;> simp [h1, h2, Nat.add_assoc]

/-- The slice value with address A, of n elements of 'size' cells each, reads as xs; its cells lie below block B. -/
def Rd (w : World) (B size : Nat) (A : Option Addr) (n : Nat) (xs : List Value) : Prop :=
  xs.length = n * size ∧ (n = 0 ∨ ∃ a, A = some a ∧ a.block < B ∧ ∀ j u, xs[j]? = some u → w.cell? (a.add j) = some u)

section
variable {w w' : World} {B B' size n : Nat} {A : Option Addr} {xs : List Value}
theorem Rd.nil_ : Rd w B size A 0 [] := ⟨by simp, .inl rfl⟩
theorem Rd.keep (h : Rd w B size A n xs) (hk : ∀ p : Addr, p.block < B → w'.cell? p = w.cell? p) : Rd w' B size A n xs := by
  refine ⟨h.1, h.2.imp id ?_⟩
  rintro ⟨a, e, hb, hc⟩
  exact ⟨a, e, hb, fun j u hu => (hk _ (by rw [addr_add_block]; exact hb)).trans (hc j u hu)⟩
theorem Rd.below (h : Rd w B size A n xs) (hb : Below B w w') : Rd w' B size A n xs := h.keep fun _ hp => hb.cell hp
theorem Rd.mono (h : Rd w B size A n xs) (hB : B ≤ B') : Rd w B' size A n xs :=
  ⟨h.1, h.2.imp id fun ⟨a, e, hb, hc⟩ => ⟨a, e, by omega, hc⟩⟩
theorem Rd.drewN (h : Rd w B size A n xs) (k : Nat) : Rd (w.drewN k) B size A n xs := h
theorem Rd.alloc (h : Rd w B size A n xs) (hB : B ≤ w.heap.size) (o : Obj) : Rd (w.alloc o) B size A n xs := h.below ((Below.refl _ _).alloc hB o)
theorem Rd.at_ {k : Nat} (h : Rd w B size A n xs) (hk : k < n) : ∃ a, A = some a ∧ a.block < B ∧ ∀ j u, xs[j]? = some u → w.cell? (a.add j) = some u := by
  rcases h.2 with h0 | h0
  · omega
  · exact h0
theorem Rd.of_own {base : Nat} {e : TypeId} {c : Nat} (h : w.ownsRow base e size (.slice A n c) n xs) : Rd w w.heap.size size A n xs := by
  refine ⟨h.1, ?_⟩
  rcases Nat.eq_zero_or_pos n with h0 | hn
  · exact .inl h0
  · rcases h.2 with ⟨hv, _⟩ | ⟨g, cap, cur, hv, _, hh, _⟩
    · cases hv; omega
    · cases hv
      exact .inr ⟨_, rfl, (Array.getElem?_eq_some_iff.1 hh).1, h.cells rfl⟩
theorem Rd.whole (h : Rd w B size A n xs) : xs.take (n * size) = xs := List.take_of_length_le (by rw [h.1]; exact Nat.le_refl _)
/-- A cut 's[k:m]': the address bears an 'if' where k is the capacity. -/
theorem Rd.cut (h : Rd w B size A n xs) {k m cap : Nat} (hk : k ≤ m) (hm : m ≤ n) (hc : n ≤ cap) :
    Rd w B size (if cap = k then A else A.map (·.add (k * size))) (m - k) ((xs.drop (k * size)).take ((m - k) * size)) := by
  have hlen : k * size + (m - k) * size ≤ n * size := by rw [← Nat.add_mul]; exact Nat.mul_le_mul_right _ (by omega)
  refine ⟨by rw [List.length_take, List.length_drop, h.1]; omega, ?_⟩
  rcases Nat.eq_zero_or_pos (m - k) with h0 | h0
  · exact .inl h0
  · obtain ⟨a, rfl, hb, hcell⟩ := h.at_ (k := k) (by omega)
    rw [if_neg (by omega)]
    refine .inr ⟨_, rfl, by rw [addr_add_block]; exact hb, fun j u hu => ?_⟩
    rw [addr_add_add]
    rw [List.getElem?_take] at hu
    split at hu
    · rw [List.getElem?_drop] at hu; exact hcell _ u hu
    · cases hu
theorem Rd.front (h : Rd w B size A n xs) {m : Nat} (hm : m ≤ n) : Rd w B size A m (xs.take (m * size)) := by
  have := h.cut (k := 0) (m := m) (cap := n + 1) (Nat.zero_le _) hm (by omega)
  rw [if_neg (by omega)] at this
  have hA : A.map (fun a : Addr => a.add (0 * size)) = A := by cases A <;> simp [Addr.add]
  rw [hA] at this
  simpa using this
end

/-! ### Owned rows: what the call itself made -/
theorem own_new (w : World) (cs : Array Value) (e size n : Nat) (hs : cs.size = n * size) (hn : n ≤ maxLen) (base : Nat) (hb : base ≤ w.heap.size) :
    (w.alloc (.cells cs e)).ownsRow base e size (.slice (some ⟨w.heap.size, 0, none⟩) n n) n cs.toList :=
  ⟨by simpa using hs, .inr ⟨w.heap.size, n, cs, rfl, hb, heap_alloc_new w _, Nat.le_refl _, hn, hs, List.take_of_length_le (by simp [hs])⟩⟩
theorem own_base {w : World} {base base' e size n : Nat} {v : Value} {xs : List Value} (h : w.ownsRow base e size v n xs) (hb : base' ≤ base) : w.ownsRow base' e size v n xs := by
  refine ⟨h.1, h.2.imp id ?_⟩
  rintro ⟨g, cap, cur, h1, h2, h3⟩
  exact ⟨g, cap, cur, h1, by omega, h3⟩
theorem own_below {w w' : World} {base e size n : Nat} {v : Value} {xs : List Value} (h : w.ownsRow base e size v n xs) (hb : Below w.heap.size w w') : w'.ownsRow base e size v n xs := by
  refine ⟨h.1, h.2.imp id ?_⟩
  rintro ⟨g, cap, cur, h1, h2, h3, h4⟩
  exact ⟨g, cap, cur, h1, h2, (hb.block g (Array.getElem?_eq_some_iff.1 h3).1).trans h3, h4⟩
/-- The shape of an owned value. -/
theorem own_shape {w : World} {base e size n : Nat} {v : Value} {xs : List Value} (h : w.ownsRow base e size v n xs) : ∃ A c, v = .slice A n c ∧ n ≤ c ∧ c ≤ maxLen ∧ ∀ a, A = some a → base ≤ a.block := by
  rcases h.2 with ⟨rfl, rfl⟩ | ⟨g, cap, cur, rfl, h0, _, h1, h2, _⟩
  · exact ⟨none, 0, rfl, Nat.le_refl _, Nat.zero_le _, fun a h => by cases h⟩
  · exact ⟨_, cap, rfl, h1, h2, fun a h => by cases h; exact h0⟩
theorem below_of_drewN {w w1 : World} {B k : Nat} (h : Below B (w.drewN k) w1) : Below B w w1 := ⟨h.os, h.tape, h.output, h.size, h.block⟩
theorem below_made {w w1 : World} {k : Nat} {o : Obj} (h : Below w.heap.size ((w.drewN k).alloc o) w1) : Below w.heap.size w w1 :=
  below_of_drewN (((Below.refl _ (w.drewN k)).alloc (Nat.le_refl _) o).trans h)
theorem below_drewN {B k : Nat} {a w : World} (h : Below B a w) : Below B a (w.drewN k) := ⟨h.os, h.tape, h.output, h.size, h.block⟩
theorem lt_of_block {w : World} {b : Nat} {o : Obj} (h : w.heap[b]? = some o) : b < w.heap.size := (Array.getElem?_eq_some_iff.1 h).1
theorem cell_past (w : World) (o : Obj) {b off : Nat} {v : Value} (h : w.cell? ⟨b, off, none⟩ = some v) : (w.alloc o).cell? ⟨b, off, none⟩ = some v := by
  rw [← h]; exact World.cell?_alloc_lt w o _ (World.block_lt_of_cell? w _ h)
theorem grown_of_below {w w' : World} {row : Option Nat} (h : Below w.heap.size w w') : w.grownBy w' row := ⟨h.os, h.tape, h.output, h.size, fun k hk _ => h.block k hk⟩
theorem below_of_grown {w w' : World} (h : w.grownBy w' none) : Below w.heap.size w w' := ⟨h.os, h.tape, h.output, h.size, fun k hk => h.block k hk (by simp)⟩
theorem grown_trans {a b c : World} {row : Option Nat} (h : a.grownBy b row) (k : b.grownBy c row) : a.grownBy c row :=
  ⟨k.os.trans h.os, k.tape.trans h.tape, k.output.trans h.output, Nat.le_trans h.size k.size, fun i hi hne => (k.block i (Nat.lt_of_lt_of_le hi h.size) hne).trans (h.block i hi hne)⟩
theorem grown_set {w w' : World} {r : Nat} (h : w.grownBy w' (some r)) (o : Nat) (u : Value) : w.grownBy (w'.setCell ⟨r, o, none⟩ u) (some r) :=
  ⟨h.os, h.tape, h.output, by simpa [World.setCell] using h.size, fun k hk hne => by rw [Below.heap_setCell _ _ _ _ (by simpa using hne)]; exact h.block k hk hne⟩

section
variable {P : Program}
theorem run_append_none (w : World) (base : Nat) (t ty e : TypeId) (i : TypeInfo) (size : Nat) (ht : P.underlying t = some (.slice e)) (hi : P.info? e = some i)
    (v : Value) (n : Nat) (xs : List Value) (hown : w.ownsRow base e size v n xs) (c : Nat) : (Builtin.append_ #[t, t] ty #[v, .slice none 0 c]).run P w = .ok v w := by
  rcases hown.2 with ⟨rfl, rfl⟩ | ⟨g, cap, cur, rfl, _, _, hnc, _⟩
  · simp [Builtin.append_, run_underlying ht, sizeOf, typeInfo, hi, Builtin.lenOf, Builtin.firstCells]
  · simp [Builtin.append_, run_underlying ht, sizeOf, typeInfo, hi, Builtin.lenOf, Builtin.firstCells, hnc, storeCells]

theorem run_append_rd (w : World) (t ty : TypeId)
    (base : Nat) (e : TypeId) (i : TypeInfo) (z : Value) (size bytes : Nat) (ht : P.underlying t = some (.slice e)) (hi : P.info? e = some i) (hz : i.zero = some z)
    (hsize : i.size = size) (hby : i.bytes = bytes) (hzs : z.cells.size = size) (hsz : 0 < size)
    (v : Value) (n : Nat) (xs : List Value) (B : Nat) (A : Option Addr) (m c : Nat) (news : List Value)
    (hown : w.ownsRow base e size v n xs) (hr : Rd w B size A m news) (h1 : ∀ u ∈ news, u.oneCell' = true)
    (h63 : n + m ≤ maxLen) (hbytes : (n + m) * bytes ≤ 140737488355328) (hbase : base ≤ w.heap.size) :
    ∃ v' w', (Builtin.append_ #[t, t] ty #[v, .slice A m c]).run P w = .ok v' w' ∧ w'.ownsRow base e size v' (n + m) (xs ++ news) ∧ w.grownBy w' v.ownBlock := by
  rcases A with _ | ad
  · obtain rfl : m = 0 := by
      rcases hr.2 with h0 | ⟨_, h0, _⟩
      · exact h0
      · cases h0
    have hn : news = [] := List.eq_nil_of_length_eq_zero (by simpa using hr.1)
    subst hn
    exact ⟨v, w, run_append_none w base t ty e i size ht hi v n xs hown c, by simpa using hown, World.grownBy.refl w _⟩
  · have hcells : ∀ j u, news[j]? = some u → w.cell? (ad.add j) = some u := by
      intro j u hu
      rcases Nat.eq_zero_or_pos m with h0 | h0
      · have hn : news = [] := List.eq_nil_of_length_eq_zero (by rw [hr.1, h0]; simp)
        subst hn
        simp at hu
      · obtain ⟨ad', h, _, hc⟩ := hr.at_ h0
        cases h
        exact hc j u hu
    obtain ⟨v', w', hrun, h2, h3, _⟩ := run_append_own (P := P) w base t ty e i z size bytes ht hi hz hsize hby hzs hsz v n xs hown ad m c news hr.1 hcells h1 h63 hbytes hbase
    exact ⟨v', w', hrun, h2, h3⟩

theorem wp_append (w : World) {o : Oper} {a : Act} {K : Act → World → Prop} {Q : Exit → Act → World → Prop}
    (s x : Operand) (t : TypeId) (hop : o.op = Op.call { callee := Callee.builtin Builtin.append, args := #[s, x], argTypes := #[t, t] })
    (base : Nat) (e : TypeId) (i : TypeInfo) (z : Value) (size bytes : Nat) (ht : P.underlying t = some (.slice e)) (hi : P.info? e = some i) (hz : i.zero = some z)
    (hsize : i.size = size) (hby : i.bytes = bytes) (hzs : z.cells.size = size) (hsz : 0 < size)
    (v : Value) (n : Nat) (xs : List Value) (hs : a.eval s = v) (B : Nat) (A : Option Addr) (m c : Nat) (news : List Value) (hx : a.eval x = .slice A m c)
    (hown : w.ownsRow base e size v n xs) (hr : Rd w B size A m news) (h1 : ∀ u ∈ news, u.oneCell' = true)
    (h63 : n + m ≤ maxLen) (hbytes : (n + m) * bytes ≤ 140737488355328) (hbase : base ≤ w.heap.size)
    (hK : ∀ v' w', w'.ownsRow base e size v' (n + m) (xs ++ news) → Below base w w' → w.grownBy w' v.ownBlock → K (a.put o.dst v') w') :
    Oper.wp P o a w K Q := by
  obtain ⟨v', w', hrun, h2, h3⟩ := run_append_rd (P := P) w t o.type base e i z size bytes ht hi hz hsize hby hzs hsz v n xs B A m c news hown hr h1 h63 hbytes hbase
  unfold Oper.wp
  simp [execOp, hop, resolve, invoke, builtin, hs, hx, hrun, Result.andThen]
  exact hK v' w' h2 ((Below.refl _ _).grown h3 hbase (fun k hk => (hown.lt k hk).1)) h3

/-- 'out = append(out, src...)': out the call's own, src whatever reads (nil, empty or not). -/
theorem wpl_append (w : World) {ops : Array Oper} {rest : List Oper} {o : Oper} {a : Act} {Q : Exit → Act → World → Prop}
    (hgd : o.guard = none) (s x : Operand) (t : TypeId) (hop : o.op = Op.call { callee := Callee.builtin Builtin.append, args := #[s, x], argTypes := #[t, t] })
    (base : Nat) (e : TypeId) (i : TypeInfo) (z : Value) (size bytes : Nat) (ht : P.underlying t = some (.slice e)) (hi : P.info? e = some i) (hz : i.zero = some z)
    (hsize : i.size = size) (hby : i.bytes = bytes) (hzs : z.cells.size = size) (hsz : 0 < size)
    (v : Value) (n : Nat) (xs : List Value) (hs : a.eval s = v) (B : Nat) (A : Option Addr) (m c : Nat) (news : List Value) (hx : a.eval x = .slice A m c)
    (hown : w.ownsRow base e size v n xs) (hr : Rd w B size A m news) (h1 : ∀ u ∈ news, u.oneCell' = true)
    (h63 : n + m ≤ maxLen) (hbytes : (n + m) * bytes ≤ 140737488355328) (hbase : base ≤ w.heap.size)
    (hK : ∀ v' w', w'.ownsRow base e size v' (n + m) (xs ++ news) → Below base w w' → w.grownBy w' v.ownBlock → wpList P ops Q rest (a.put o.dst v') w') :
    wpList P ops Q (o :: rest) a w :=
  wpList_plain hgd fun _ hK' => wp_append w s x t hop base e i z size bytes ht hi hz hsize hby hzs hsz v n xs hs B A m c news hx hown hr h1 h63 hbytes hbase fun v' w' a1 a2 a3 => hK' _ _ (hK v' w' a1 a2 a3)

/-- The same at a step of a region that draws its order. -/
theorem step_append (w : World) {ops : Array Oper} {o : Oper} {a : Act} {K : Act → World → Prop} {Q : Exit → Act → World → Prop} {E : Prop}
    (hgd : o.guard = none) (s x : Operand) (t : TypeId) (hop : o.op = Op.call { callee := Callee.builtin Builtin.append, args := #[s, x], argTypes := #[t, t] })
    (base : Nat) (e : TypeId) (i : TypeInfo) (z : Value) (size bytes : Nat) (ht : P.underlying t = some (.slice e)) (hi : P.info? e = some i) (hz : i.zero = some z)
    (hsize : i.size = size) (hby : i.bytes = bytes) (hzs : z.cells.size = size) (hsz : 0 < size)
    (v : Value) (n : Nat) (xs : List Value) (hs : a.eval s = v) (B : Nat) (A : Option Addr) (m c : Nat) (news : List Value) (hx : a.eval x = .slice A m c)
    (hown : w.ownsRow base e size v n xs) (hr : Rd w B size A m news) (h1 : ∀ u ∈ news, u.oneCell' = true)
    (h63 : n + m ≤ maxLen) (hbytes : (n + m) * bytes ≤ 140737488355328) (hbase : base ≤ w.heap.size)
    (hK : ∀ v' w', w'.ownsRow base e size v' (n + m) (xs ++ news) → Below base w w' → w.grownBy w' v.ownBlock → K (a.put o.dst v') w') :
    if Region.wanted o (yielded ops a.tmps) = true then Oper.wp P o a w K Q else E := by
  have hw : Region.wanted o (yielded ops a.tmps) = true := by simp [Region.wanted, hgd]
  rw [if_pos hw]
  exact wp_append w s x t hop base e i z size bytes ht hi hz hsize hby hzs hsz v n xs hs B A m c news hx hown hr h1 h63 hbytes hbase hK

/-- 'out = append(out, x)': one element, just laid in a block of its own. -/
theorem wpl_push {w : World} {cs : Array Value} {e : TypeId} {ops : Array Oper} {rest : List Oper} {o : Oper} {a : Act} {Q : Exit → Act → World → Prop}
    (hgd : o.guard = none) (s x : Operand) (t : TypeId) (hop : o.op = Op.call { callee := Callee.builtin Builtin.append, args := #[s, x], argTypes := #[t, t] })
    (base : Nat) (i : TypeInfo) (z : Value) (size bytes : Nat) (ht : P.underlying t = some (.slice e)) (hi : P.info? e = some i) (hz : i.zero = some z)
    (hsize : i.size = size) (hby : i.bytes = bytes) (hzs : z.cells.size = size) (hsz : 0 < size)
    (v : Value) (n : Nat) (xs : List Value) (hs : a.eval s = v) (c : Nat) (hx : a.eval x = .slice (some ⟨w.heap.size, 0, none⟩) 1 c)
    (hown : w.ownsRow base e size v n xs) (hcs : cs.size = size) (h1 : ∀ u ∈ cs.toList, u.oneCell' = true)
    (h63 : n + 1 ≤ maxLen) (hbytes : (n + 1) * bytes ≤ 140737488355328) (hbase : base ≤ w.heap.size)
    (hK : ∀ v' w', w'.ownsRow base e size v' (n + 1) (xs ++ cs.toList) → Below base w w' → w.grownBy w' v.ownBlock → wpList P ops Q rest (a.put o.dst v') w') :
    wpList P ops Q (o :: rest) a (w.alloc (.cells cs e)) := by
  have hg1 : w.grownBy (w.alloc (.cells cs e)) v.ownBlock := World.grownBy_alloc w _ _
  refine wpl_append (w.alloc (.cells cs e)) hgd s x t hop base e i z size bytes ht hi hz hsize hby hzs hsz v n xs hs (w.heap.size + 1) _ 1 c cs.toList hx (hown.alloc _)
    ⟨by simpa using hcs, .inr ⟨_, rfl, by simp, fun j u hu => ?_⟩⟩ h1 h63 hbytes (by simp; omega) (fun v' w' h2 h3 h4 => hK v' w' h2 ?_ ?_)
  · rw [Addr.add_lit, cell_of_row _ w.heap.size _ cs e (0, 0) (heap_alloc_new w _)]
    simpa using hu
  · exact ((Below.refl _ _).alloc hbase _).trans h3
  · exact ⟨h4.os.trans hg1.os, h4.tape.trans hg1.tape, h4.output.trans hg1.output, Nat.le_trans hg1.size h4.size, fun k hk hne => (h4.block k (Nat.lt_of_lt_of_le hk hg1.size) hne).trans (hg1.block k hk hne)⟩

/-- 'make([]T, 0, n)': the value and the world, written out. -/
theorem run_make_cap (t e : TypeId) (i : TypeInfo) (z : Value) (size bytes : Nat) (ht : P.underlying t = some (.slice e)) (hi : P.info? e = some i) (hz : i.zero = some z) (hsize : i.size = size) (hby : i.bytes = bytes)
    (N : Int) (n : Nat) (hN : N = n) (hb : bytes * n ≤ 281474976710656) (hn : n ≤ 9223372036854775807) (w : World) :
    (Instr.makeSlice t (.int .i64 0) (.int .i64 N)).run P w = .ok (.slice (some ⟨w.heap.size, 0, none⟩) 0 n) (w.alloc (.cells (madeCells z.cells (n * size)) e)) := by
  subst hN
  have hbb : (i.bytes : Int) * (n : Int) ≤ 281474976710656 := by rw [hby, ← Int.natCast_mul]; omega
  rw [run_make (P := P) w t e i z ht hi hz .i64 .i64 0 (n : Int) (by omega) (by omega) hbb (by omega), hsize]
  rfl

theorem run_byte_string (src dst e : TypeId) (hs : P.underlying src = some (.slice e)) (he : P.underlying e = some (.int .u8)) (hd : P.underlying dst = some .string)
   (w : World) (n : Int) (h0 : 0 ≤ n) (h1 : n < 256) :
    (convert src dst (.slice (some ⟨w.heap.size, 0, none⟩) 1 1)).run P (w.alloc (.cells #[.int .u8 n] e)) = .ok (.string ⟨#[UInt8.ofNat n.toNat]⟩) (w.alloc (.cells #[.int .u8 n] e)) := by
  have := run_convert_bytes_back (P := P) (w.alloc (.cells #[.int .u8 n] e)) src dst e ⟨w.heap.size, 0, none⟩ 1 [UInt8.ofNat n.toNat] hs he hd (by
    intro j hj
    obtain rfl : j = 0 := by simpa using hj
    simp [Addr.add]
    omega)
  simpa using this
end
end Go.Proofs.YtijlaclngibekaaGreatDoor

/- Bytes in memory, and the bytes of strings. -/
namespace Go.Proofs.YtijlaclngibekaaGreatDoor
open Go.RowKit

/-- The cells that hold bytes. -/
def bcells (l : List UInt8) : List Value := l.map fun b => .int .u8 b.toNat
theorem bcells_length (l : List UInt8) : (bcells l).length = l.length := by simp [bcells]
theorem bcells_take (l : List UInt8) (k : Nat) : (bcells l).take k = bcells (l.take k) := by simp [bcells, List.map_take]
theorem bcells_drop (l : List UInt8) (k : Nat) : (bcells l).drop k = bcells (l.drop k) := by simp [bcells, List.map_drop]
theorem bcells_append (l l' : List UInt8) : bcells l ++ bcells l' = bcells (l ++ l') := by simp [bcells]
theorem bcells_nil : bcells [] = [] := rfl
theorem bcells_one (l : List UInt8) : ∀ u ∈ bcells l, u.oneCell' = true := by
  intro u hu
  obtain ⟨b, _, rfl⟩ := List.mem_map.1 hu
  rfl
theorem bcells_get (l : List UInt8) (k : Nat) (h : k < l.length) : (bcells l)[k]? = some (.int .u8 l[k].toNat) := by simp [bcells, h]
theorem Rd.byte {w : World} {B n : Nat} {A : Option Addr} {l : List UInt8} (h : Rd w B 1 A n (bcells l)) {k : Nat} (hk : k < n) :
    ∃ a, A = some a ∧ a.block < B ∧ w.cell? (a.add k) = some (.int .u8 (l.getD k 0).toNat) := by
  obtain ⟨a, rfl, hb, hc⟩ := h.at_ hk
  have hl : l.length = n := by have := h.1; simpa [bcells] using this
  refine ⟨a, rfl, hb, hc k _ ?_⟩
  simp [bcells, show k < l.length by omega]
theorem byte_bne (a b : UInt8) : ((a.toNat : Int) != (b.toNat : Int)) = !(a == b) := by
  rw [Bool.eq_iff_iff]; simp [bne_iff_ne, ← UInt8.toNat_inj]; omega
theorem list_take_snoc {α : Type} (l : List α) (k : Nat) (h : k < l.length) : l.take (k + 1) = l.take k ++ [l[k]] := by
  rw [List.take_add_one, List.getElem?_eq_getElem h]; rfl
/-- Numbers that fit are bytes. -/
theorem bytes_of_ints (zs : List Int) (h : ∀ z ∈ zs, (Lit.int .u8 z).wf = true) : ∃ l : List UInt8, zs.map (Value.int .u8) = bcells l ∧ l.length = zs.length := by
  refine ⟨zs.map fun z => UInt8.ofNat z.toNat, ?_, by simp⟩
  simp only [bcells, List.map_map]
  refine List.map_congr_left fun z hz => ?_
  have := h z hz
  have hm : IntKind.u8.min = 0 := by decide
  have hM : IntKind.u8.max = 255 := by decide
  simp [Lit.wf, hm, hM] at this
  simp
  omega
end Go.Proofs.YtijlaclngibekaaGreatDoor

/- Slices of the call's own that may begin in the midst of a block: read, cut, stored into, appended to. -/
namespace Go.Proofs.YtijlaclngibekaaGreatDoor
open Go.RowKit

/-- The slice value v, of n elements of 'size' cells each, lies in a block from 'base' on, may be written up to its capacity, and holds xs. -/
def Ow (w : World) (base size : Nat) (v : Value) (n : Nat) (xs : List Value) : Prop :=
  xs.length = n * size ∧ ((v = .slice none 0 0 ∧ n = 0) ∨
    ∃ g off cap, v = .slice (some ⟨g, off, none⟩) n cap ∧ base ≤ g ∧ g < w.heap.size ∧ n ≤ cap ∧ cap ≤ maxLen ∧
      (∀ j u, xs[j]? = some u → w.cell? ⟨g, off + j, none⟩ = some u) ∧
      (∀ j, j < cap * size → (w.cell? ⟨g, off + j, none⟩).isSome = true ∧ w.frozen? ⟨g, off + j, none⟩ = false))

theorem heap_setCells (g : Nat) : ∀ (vs : List Value) (o : Nat) (w : World) (k : Nat), k ≠ g → (w.setCells g o vs).heap[k]? = w.heap[k]?
  | [], _, _, _, _ => rfl
  | v :: vs, o, w, k, h => by
    show ((w.setCell ⟨g, o, none⟩ v).setCells g (o + 1) vs).heap[k]? = _
    rw [heap_setCells g vs _ _ k h, Below.heap_setCell _ _ _ _ (by simpa using h)]
theorem size_setCells (g : Nat) : ∀ (vs : List Value) (o : Nat) (w : World), (w.setCells g o vs).heap.size = w.heap.size
  | [], _, _ => rfl
  | v :: vs, o, w => by
    show ((w.setCell ⟨g, o, none⟩ v).setCells g (o + 1) vs).heap.size = _
    rw [size_setCells g vs]; simp [World.setCell]
theorem rest_setCells (g : Nat) : ∀ (vs : List Value) (o : Nat) (w : World), (w.setCells g o vs).os = w.os ∧ (w.setCells g o vs).tape = w.tape ∧ (w.setCells g o vs).output = w.output
  | [], _, _ => ⟨rfl, rfl, rfl⟩
  | v :: vs, o, w => rest_setCells g vs (o + 1) (w.setCell ⟨g, o, none⟩ v)
theorem grown_setCells (g : Nat) (vs : List Value) (o : Nat) (w : World) : w.grownBy (w.setCells g o vs) (some g) :=
  ⟨(rest_setCells g vs o w).1, (rest_setCells g vs o w).2.1, (rest_setCells g vs o w).2.2, by rw [size_setCells]; exact Nat.le_refl _, fun k _ hne => heap_setCells g vs o w k (by simpa using hne)⟩

section
variable {w w' : World} {base base' size n : Nat} {v : Value} {xs : List Value}
theorem Ow.nil_ : Ow w base size (.slice none 0 0) 0 [] := ⟨by simp, .inl ⟨rfl, rfl⟩⟩
theorem Ow.base_ (h : Ow w base size v n xs) (hb : base' ≤ base) : Ow w base' size v n xs := by
  refine ⟨h.1, h.2.imp id ?_⟩
  rintro ⟨g, off, cap, h1, h2, h3⟩
  exact ⟨g, off, cap, h1, by omega, h3⟩
theorem Ow.of_row {e : TypeId} (h : w.ownsRow base e size v n xs) : Ow w base size v n xs := by
  refine ⟨h.1, h.2.imp id ?_⟩
  rintro ⟨g, cap, cur, rfl, h1, h2, h3, h4, h5, h6⟩
  refine ⟨g, 0, cap, rfl, h1, lt_of_block h2, h3, h4, fun j u hu => ?_, fun j hj => ?_⟩
  · have := h.cells (g := g) rfl j u hu
    rwa [Addr.add_lit] at this
  · rw [cell_of_row w g (0 + j) cur e (0, 0) h2]
    refine ⟨by simp; omega, by simp [World.frozen?, h2]⟩
theorem Ow.shape (h : Ow w base size v n xs) : ∃ A c, v = .slice A n c ∧ n ≤ c ∧ c ≤ maxLen := by
  rcases h.2 with ⟨rfl, rfl⟩ | ⟨g, off, cap, rfl, _, _, h1, h2, _⟩
  · exact ⟨none, 0, rfl, Nat.le_refl _, Nat.zero_le _⟩
  · exact ⟨_, cap, rfl, h1, h2⟩
theorem Ow.lt (h : Ow w base size v n xs) : ∀ k, v.ownBlock = some k → base ≤ k ∧ k < w.heap.size := by
  intro k hk
  rcases h.2 with ⟨rfl, _⟩ | ⟨g, off, cap, rfl, h1, h2, _⟩
  · simp [Value.ownBlock] at hk
  · simp [Value.ownBlock] at hk; subst hk; exact ⟨h1, h2⟩
theorem Ow.kept {row : Option Nat} (h : Ow w base size v n xs) (hg : w.grownBy w' row) (hne : v.ownBlock = none ∨ v.ownBlock ≠ row) : Ow w' base size v n xs := by
  refine ⟨h.1, h.2.imp id ?_⟩
  rintro ⟨g, off, cap, rfl, h1, h2, h3, h4, h5, h6⟩
  have hb : w'.heap[g]? = w.heap[g]? := hg.block g h2 (by simpa [Value.ownBlock] using hne)
  refine ⟨g, off, cap, rfl, h1, Nat.lt_of_lt_of_le h2 hg.size, h3, h4, fun j u hu => (World.cell?_of_block (a := ⟨g, off + j, none⟩) hb).trans (h5 j u hu), fun j hj => ?_⟩
  rw [World.cell?_of_block (a := ⟨g, off + j, none⟩) hb, World.frozen?_of_block (a := ⟨g, off + j, none⟩) hb]
  exact h6 j hj
theorem Ow.below (h : Ow w base size v n xs) (hb : Below w.heap.size w w') : Ow w' base size v n xs := h.kept (row := none) (grown_of_below hb) (by cases v.ownBlock <;> simp)
theorem Ow.alloc (h : Ow w base size v n xs) (o : Obj) : Ow (w.alloc o) base size v n xs := h.below ((Below.refl _ _).alloc (Nat.le_refl _) o)
theorem Ow.drewN (h : Ow w base size v n xs) (k : Nat) : Ow (w.drewN k) base size v n xs := h
theorem Ow.rd {A : Option Addr} {c : Nat} (h : Ow w base size (.slice A n c) n xs) : Rd w w.heap.size size A n xs := by
  refine ⟨h.1, ?_⟩
  rcases h.2 with ⟨_, h0⟩ | ⟨g, off, cap, hv, h1, h2, h3, h4, h5, _⟩
  · exact .inl h0
  · cases hv
    exact .inr ⟨_, rfl, h2, fun j u hu => by rw [Addr.add_lit]; exact h5 j u hu⟩
/-- 'v[k:m]'. -/
theorem Ow.cut {A : Option Addr} {c : Nat} (h : Ow w base size (.slice A n c) n xs) {k m : Nat} (hk : k ≤ m) (hm : m ≤ n) :
    Ow w base size (.slice (if c = k then A else A.map (·.add (k * size))) (m - k) (c - k)) (m - k) ((xs.drop (k * size)).take ((m - k) * size)) := by
  have hlen : k * size + (m - k) * size ≤ n * size := by rw [← Nat.add_mul]; exact Nat.mul_le_mul_right _ (by omega)
  refine ⟨by rw [List.length_take, List.length_drop, h.1]; omega, ?_⟩
  rcases h.2 with ⟨hv, rfl⟩ | ⟨g, off, cap, hv, h1, h2, h3, h4, h5, h6⟩
  · cases hv
    obtain rfl : m = 0 := by omega
    obtain rfl : k = 0 := by omega
    exact .inl ⟨by simp, rfl⟩
  · cases hv
    refine .inr ?_
    by_cases hc : c = k
    · subst hc
      obtain rfl : m = c := by omega
      rw [if_pos rfl]
      exact ⟨g, off, m - m, by simp, h1, h2, Nat.le_refl _, by omega, fun j u hu => by simp at hu, fun j hj => by simp at hj⟩
    · rw [if_neg hc]
      refine ⟨g, off + k * size, c - k, by simp [Addr.add_lit], h1, h2, by omega, by omega, fun j u hu => ?_, fun j hj => ?_⟩
      · rw [List.getElem?_take] at hu
        split at hu
        · rw [List.getElem?_drop] at hu; have := h5 _ u hu; rwa [← Nat.add_assoc] at this
        · cases hu
      · have := h6 (k * size + j) (by rw [Nat.sub_mul] at hj; have := Nat.mul_le_mul_right size (show k ≤ c by omega); omega)
        rwa [← Nat.add_assoc] at this
/-- An element's cell, and that it may be written. -/
theorem Ow.at_ {A : Option Addr} {c : Nat} (h : Ow w base size (.slice A n c) n xs) {j : Nat} (hj : j < n * size) :
    ∃ g off, A = some ⟨g, off, none⟩ ∧ base ≤ g ∧ g < w.heap.size ∧ w.cell? ⟨g, off + j, none⟩ = xs[j]? ∧ w.frozen? ⟨g, off + j, none⟩ = false := by
  rcases h.2 with ⟨_, rfl⟩ | ⟨g, off, cap, hv, h1, h2, h3, h4, h5, h6⟩
  · simp at hj
  · cases hv
    have hjx : j < xs.length := by rw [h.1]; exact hj
    exact ⟨g, off, rfl, h1, h2, by rw [List.getElem?_eq_getElem hjx]; exact h5 j _ (List.getElem?_eq_getElem hjx), (h6 j (Nat.lt_of_lt_of_le hj (Nat.mul_le_mul_right _ h3))).2⟩
/-- A store into an element. -/
theorem Ow.store {g off c : Nat} (h : Ow w base size (.slice (some ⟨g, off, none⟩) n c) n xs) {j : Nat} (hj : j < n * size) (u : Value) :
    Ow (w.setCell ⟨g, off + j, none⟩ u) base size (.slice (some ⟨g, off, none⟩) n c) n (xs.set j u) := by
  refine ⟨by rw [List.length_set]; exact h.1, ?_⟩
  rcases h.2 with ⟨hv, _⟩ | ⟨g', off', cap, hv, h1, h2, h3, h4, h5, h6⟩
  · cases hv
  · cases hv
    refine .inr ⟨g, off, c, rfl, h1, by simpa [World.setCell] using h2, h3, h4, fun i x hx => ?_, fun i hi => ?_⟩
    · by_cases hij : j = i
      · subst hij
        have hjx : j < xs.length := by rw [h.1]; exact hj
        rw [List.getElem?_set_self hjx] at hx
        cases hx
        have := (h6 j (Nat.lt_of_lt_of_le hj (Nat.mul_le_mul_right _ h3))).1
        exact World.cell?_setCell_same' w _ _ this
      · rw [List.getElem?_set_ne hij] at hx
        rw [World.cell?_setCell_other w _ _ _ (by intro e; have := congrArg Addr.off e; simp at this; omega)]
        exact h5 i x hx
    · have h7 := h6 i hi
      constructor
      · by_cases hij : j = i
        · subst hij
          rw [World.cell?_setCell_same' w _ _ h7.1]; rfl
        · rw [World.cell?_setCell_other w _ _ _ (by intro e; have := congrArg Addr.off e; simp at this; omega)]
          exact h7.1
      · have := h7.2
        unfold World.frozen? at this ⊢
        simp only [World.setCell, Array.getElem?_modify] at this ⊢
        split at this <;> simp_all
theorem Ow.store_far (h : Ow w base size v n xs) {a : Addr} (ha : v.ownBlock ≠ some a.block) (u : Value) : Ow (w.setCell a u) base size v n xs :=
  h.kept (row := some a.block) ⟨rfl, rfl, rfl, by simp [World.setCell], fun k _ hne => Below.heap_setCell _ _ _ _ (by simpa using hne)⟩ (.inr ha)
end

section
variable {P : Program}
theorem run_append_ow (w : World) (t ty : TypeId)
    (base : Nat) (e : TypeId) (i : TypeInfo) (z : Value) (size bytes : Nat) (ht : P.underlying t = some (.slice e)) (hi : P.info? e = some i) (hz : i.zero = some z)
    (hsize : i.size = size) (hby : i.bytes = bytes) (hzs : z.cells.size = size) (hsz : 0 < size)
    (v : Value) (n : Nat) (xs : List Value) (B : Nat) (A : Option Addr) (m c : Nat) (news : List Value)
    (hown : Ow w base size v n xs) (hr : Rd w B size A m news) (h1 : ∀ u ∈ news, u.oneCell' = true)
    (h63 : n + m ≤ maxLen) (hbytes : (n + m) * bytes ≤ 140737488355328) (hbase : base ≤ w.heap.size) :
    ∃ v' w', (Builtin.append_ #[t, t] ty #[v, .slice A m c]).run P w = .ok v' w' ∧ Ow w' base size v' (n + m) (xs ++ news) ∧ w.grownBy w' v.ownBlock ∧ (v'.ownBlock = v.ownBlock ∨ ∀ g, v'.ownBlock = some g → w.heap.size ≤ g) := by
  have hcells : ∀ ad, A = some ad → ∀ j u, news[j]? = some u → w.cell? (ad.add j) = some u := by
    intro ad hA j u hu
    rcases Nat.eq_zero_or_pos m with h0 | h0
    · have hn : news = [] := List.eq_nil_of_length_eq_zero (by rw [hr.1, h0]; simp)
      subst hn
      simp at hu
    · obtain ⟨ad', h, _, hc⟩ := hr.at_ h0
      rw [h] at hA; cases hA
      exact hc j u hu
  rcases hown.2 with ⟨rfl, rfl⟩ | ⟨g, off, cap, rfl, hg1, hg2, hg3, hg4, hg5, hg6⟩
  · have hx : xs = [] := List.eq_nil_of_length_eq_zero (by simpa using hown.1)
    subst hx
    obtain ⟨v', w', h2, h3, h4⟩ := run_append_rd (P := P) w t ty base e i z size bytes ht hi hz hsize hby hzs hsz (.slice none 0 0) 0 [] B A m c news (World.ownsRow_nil w _ e size) hr h1 h63 hbytes hbase
    obtain ⟨v'', w'', k2, k3, k4⟩ := run_append_rd (P := P) w t ty w.heap.size e i z size bytes ht hi hz hsize hby hzs hsz (.slice none 0 0) 0 [] B A m c news (World.ownsRow_nil w _ e size) hr h1 h63 hbytes (Nat.le_refl _)
    rw [h2] at k2; cases k2
    exact ⟨v', w', h2, Ow.of_row h3, h4, .inr fun g hg => (k3.lt g hg).1⟩
  · rcases A with _ | ad
    · obtain rfl : m = 0 := by
        rcases hr.2 with h0 | ⟨_, h0, _⟩
        · exact h0
        · cases h0
      have hn : news = [] := List.eq_nil_of_length_eq_zero (by simpa using hr.1)
      subst hn
      refine ⟨_, w, ?_, by simpa using hown, World.grownBy.refl w _, .inl rfl⟩
      simp [Builtin.append_, run_underlying ht, sizeOf, typeInfo, hi, Builtin.lenOf, Builtin.firstCells, hg3, storeCells]
    · by_cases hroom : n + m ≤ cap
      · subst hsize
        have hlen : n * i.size + news.length ≤ cap * i.size := by rw [hr.1, ← Nat.add_mul]; exact Nat.mul_le_mul_right _ hroom
        have h6 : ∀ j, j < news.length → (w.cell? ⟨g, off + n * i.size + j, none⟩).isSome = true ∧ w.frozen? ⟨g, off + n * i.size + j, none⟩ = false := fun j hj => by
          have := hg6 (n * i.size + j) (by omega)
          rwa [← Nat.add_assoc] at this
        have hrun := run_append_room_cells (P := P) w t ty e i ht hi g off n cap ad m c news hr.1 (hcells ad rfl) h1 hroom (fun j hj => (h6 j hj).1) (fun j hj => (h6 j hj).2)
        refine ⟨_, _, hrun, ⟨by rw [List.length_append, hown.1, hr.1, Nat.add_mul], .inr ⟨g, off, cap, rfl, hg1, by rw [size_setCells]; exact hg2, hroom, hg4, fun j u hu => ?_, fun j hj => ?_⟩⟩, grown_setCells g _ _ w, .inl rfl⟩
        · rw [List.getElem?_append] at hu
          split at hu
          · rename_i hjx
            rw [World.cell?_setCells_out g news _ w _ (fun _ _ => .inl (by rw [hown.1] at hjx; simp; omega))]
            exact hg5 j u hu
          · rename_i hjx
            have hjl := (List.getElem?_eq_some_iff.1 hu).1
            have := World.cell?_setCells_in g news (off + n * i.size) w (fun j hj => (h6 j hj).1) (j - xs.length) hjl
            rw [← List.getElem?_eq_getElem hjl, hu, hown.1] at this
            rw [hown.1] at hjx
            rwa [show off + j = off + n * i.size + (j - n * i.size) by omega]
        · have h7 := hg6 j hj
          refine ⟨?_, by rw [World.frozen?_setCells]; exact h7.2⟩
          by_cases hin : n * i.size ≤ j ∧ j < n * i.size + news.length
          · have := World.cell?_setCells_in g news (off + n * i.size) w (fun j hj => (h6 j hj).1) (j - n * i.size) (by omega)
            rw [show off + j = off + n * i.size + (j - n * i.size) by omega, this]; rfl
          · rw [World.cell?_setCells_out g news _ w _ (fun _ _ => by simp; omega)]
            exact h7.1
      · obtain ⟨v', w', hrun, r1, r2⟩ := run_append_arg_grows (P := P) w t ty e i z size bytes ht hi hz hsize hby hzs hsz ⟨g, off, none⟩ n cap xs hown.1 (fun j u hu => by rw [Addr.add_lit]; exact hg5 j u hu) ad m c news hr.1 (hcells ad rfl) (by omega) h63 hbytes
        refine ⟨v', w', hrun, Ow.of_row (own_base r1 hbase), ⟨r2.os, r2.tape, r2.output, r2.size, fun k hk _ => r2.block k hk (by simp)⟩, .inr fun g hg => (r1.lt g hg).1⟩

/-- 'out = append(out, src...)' in a plain region. -/
theorem wpl_append_ow (w : World) {ops : Array Oper} {rest : List Oper} {o : Oper} {a : Act} {Q : Exit → Act → World → Prop}
    (hgd : o.guard = none) (s x : Operand) (t : TypeId) (hop : o.op = Op.call { callee := Callee.builtin Builtin.append, args := #[s, x], argTypes := #[t, t] })
    (base : Nat) (e : TypeId) (i : TypeInfo) (z : Value) (size bytes : Nat) (ht : P.underlying t = some (.slice e)) (hi : P.info? e = some i) (hz : i.zero = some z)
    (hsize : i.size = size) (hby : i.bytes = bytes) (hzs : z.cells.size = size) (hsz : 0 < size)
    (v : Value) (n : Nat) (xs : List Value) (hs : a.eval s = v) (B : Nat) (A : Option Addr) (m c : Nat) (news : List Value) (hx : a.eval x = .slice A m c)
    (hown : Ow w base size v n xs) (hr : Rd w B size A m news) (h1 : ∀ u ∈ news, u.oneCell' = true)
    (h63 : n + m ≤ maxLen) (hbytes : (n + m) * bytes ≤ 140737488355328) (hbase : base ≤ w.heap.size)
    (hK : ∀ v' w', Ow w' base size v' (n + m) (xs ++ news) → Below base w w' → w.grownBy w' v.ownBlock → (v'.ownBlock = v.ownBlock ∨ ∀ g, v'.ownBlock = some g → w.heap.size ≤ g) → wpList P ops Q rest (a.put o.dst v') w') :
    wpList P ops Q (o :: rest) a w := by
  refine wpList_plain hgd fun K hK' => ?_
  obtain ⟨v', w', hrun, h2, h3, h4⟩ := run_append_ow (P := P) w t o.type base e i z size bytes ht hi hz hsize hby hzs hsz v n xs B A m c news hown hr h1 h63 hbytes hbase
  unfold Oper.wp
  simp [execOp, hop, resolve, invoke, builtin, hs, hx, hrun, Result.andThen]
  exact hK' _ _ (hK v' w' h2 ((Below.refl _ _).grown h3 hbase (fun k hk => (hown.lt k hk).1)) h3 h4)
end
/-- What '[]byte(s)' lays. -/
theorem ow_of_string (w : World) (e : TypeId) (s : ByteArray) (c : Nat) (hc : s.size ≤ c) (hm : c ≤ maxLen) :
    Ow (w.drew.alloc (.cells (bytesRow s c) e ((bytesRow s c).size, (bytesRow s c).size + 1))) w.heap.size 1 (.slice (some ⟨w.heap.size, 0, none⟩) s.size c) s.size (s.data.toList.map fun b => .int .u8 b.toNat) := by
  have hsz : (bytesRow s c).size = c := by
    simp only [bytesRow, Array.size_append, Array.size_map, Array.size_replicate]
    have : s.data.size = s.size := rfl
    omega
  have hb : (w.drew.alloc (.cells (bytesRow s c) e ((bytesRow s c).size, (bytesRow s c).size + 1))).heap[w.heap.size]? = some (.cells (bytesRow s c) e ((bytesRow s c).size, (bytesRow s c).size + 1)) := heap_alloc_new w.drew _
  refine ⟨by rw [List.length_map, ← size_of, Nat.mul_one], .inr ⟨w.heap.size, 0, c, rfl, Nat.le_refl _, lt_of_block hb, hc, hm, fun j u hu => ?_, fun j hj => ?_⟩⟩
  · rw [cell_of_row _ w.heap.size _ _ _ _ hb]
    have hj : j < s.data.toList.length := by
      have := (List.getElem?_eq_some_iff.1 hu).1
      simpa using this
    have hj' : j < s.data.size := by simpa using hj
    simp only [Nat.zero_add, bytesRow]
    rw [Array.getElem?_append_left (by simpa using hj')]
    simpa using hu
  · rw [cell_of_row _ w.heap.size _ _ _ _ hb]
    refine ⟨by simp only [Nat.zero_add, Array.getElem?_eq_some_iff, Option.isSome_iff_exists]; exact ⟨_, by rw [hsz]; omega, rfl⟩, ?_⟩
    simp only [World.frozen?, hb, Nat.zero_add]
    rw [hsz]
    simp
    omega
/-- 'string(b)' of a slice that reads as bytes. -/
theorem run_string_of {P : Program} (src dst e : TypeId) (hs : P.underlying src = some (.slice e)) (he : P.underlying e = some (.int .u8)) (hd : P.underlying dst = some .string)
    (w : World) (B n c : Nat) (A : Option Addr) (l : List UInt8) (h : Rd w B 1 A n (l.map fun b => .int .u8 b.toNat)) : (convert src dst (.slice A n c)).run P w = .ok (.string ⟨l.toArray⟩) w := by
  have hl : l.length = n := by have := h.1; simpa using this
  subst hl
  rcases A with _ | a
  · have h0 : l.length = 0 := by
      rcases h.2 with h0 | ⟨_, h0, _⟩
      · exact h0
      · cases h0
    have hn : l = [] := List.eq_nil_of_length_eq_zero h0
    subst hn
    rw [run_convert_bytes_string w src dst e none _ _ hs he hd]
    simp [Conv.bytesToString]
    rfl
  · refine run_convert_bytes_back w src dst e a c l hs he hd (fun j hj => ?_)
    obtain ⟨a', e, _, hc⟩ := h.at_ hj
    cases e
    exact hc j _ (by simp [hj])
end Go.Proofs.YtijlaclngibekaaGreatDoor

/- One element appended to a slice of the call's own, beside another row of the call's own that is read. -/
namespace Go.Proofs.YtijlaclngibekaaGreatDoor
open Go.RowKit

section
variable {P : Program}
theorem wpl_push_ow {w : World} {cs : Array Value} {e : TypeId} {ops : Array Oper} {rest : List Oper} {o : Oper} {a : Act} {Q : Exit → Act → World → Prop}
    (hgd : o.guard = none) (s x : Operand) (t : TypeId) (hop : o.op = Op.call { callee := Callee.builtin Builtin.append, args := #[s, x], argTypes := #[t, t] })
    (base : Nat) (i : TypeInfo) (z : Value) (size bytes : Nat) (ht : P.underlying t = some (.slice e)) (hi : P.info? e = some i) (hz : i.zero = some z)
    (hsize : i.size = size) (hby : i.bytes = bytes) (hzs : z.cells.size = size) (hsz : 0 < size)
    (v : Value) (n : Nat) (xs : List Value) (hs : a.eval s = v) (c : Nat) (hx : a.eval x = .slice (some ⟨w.heap.size, 0, none⟩) 1 c)
    (hown : Ow w base size v n xs) (hcs : cs.size = size) (h1 : ∀ u ∈ cs.toList, u.oneCell' = true)
    (h63 : n + 1 ≤ maxLen) (hbytes : (n + 1) * bytes ≤ 140737488355328) (hbase : base ≤ w.heap.size)
    (hK : ∀ v' w', Ow w' base size v' (n + 1) (xs ++ cs.toList) → Below base w w' → w.grownBy w' v.ownBlock → (v'.ownBlock = v.ownBlock ∨ ∀ g, v'.ownBlock = some g → w.heap.size ≤ g) → wpList P ops Q rest (a.put o.dst v') w') :
    wpList P ops Q (o :: rest) a (w.alloc (.cells cs e)) := by
  have hg1 : w.grownBy (w.alloc (.cells cs e)) v.ownBlock := World.grownBy_alloc w _ _
  refine wpl_append_ow (w.alloc (.cells cs e)) hgd s x t hop base e i z size bytes ht hi hz hsize hby hzs hsz v n xs hs (w.heap.size + 1) _ 1 c cs.toList hx (hown.alloc _)
    ⟨by simpa using hcs, .inr ⟨_, rfl, by simp, fun j u hu => ?_⟩⟩ h1 h63 hbytes (by simp; omega) (fun v' w' h2 h3 h4 h5 => hK v' w' h2 ?_ ?_ ?_)
  · rw [Addr.add_lit, cell_of_row _ w.heap.size _ cs e (0, 0) (heap_alloc_new w _)]
    simpa using hu
  · exact ((Below.refl _ _).alloc hbase _).trans h3
  · exact ⟨h4.os.trans hg1.os, h4.tape.trans hg1.tape, h4.output.trans hg1.output, Nat.le_trans hg1.size h4.size, fun k hk hne => (h4.block k (Nat.lt_of_lt_of_le hk hg1.size) hne).trans (hg1.block k hk hne)⟩
  · exact h5.imp id fun h g hg => Nat.le_trans hg1.size (h g hg)
end
/-- A row that is read beside one that grows. -/
theorem Rd.grown {w w' : World} {B size n : Nat} {A : Option Addr} {xs : List Value} {row : Option Nat} (h : Rd w B size A n xs) (g : w.grownBy w' row) (hB : B ≤ w.heap.size) (hsep : ∀ a, A = some a → row ≠ some a.block) : Rd w' B size A n xs := by
  refine ⟨h.1, h.2.imp id ?_⟩
  rintro ⟨a, rfl, hb, hc⟩
  refine ⟨a, rfl, hb, fun j u hu => ?_⟩
  have hbk : w'.heap[(a.add j).block]? = w.heap[(a.add j).block]? := by rw [addr_add_block]; exact g.block a.block (by omega) (fun e => hsep a rfl e.symm)
  exact (World.cell?_of_block (a := a.add j) hbk).trans (hc j u hu)
/-- Neither row is the other's block. -/
def Apart (A : Option Addr) (v : Value) : Prop := ∀ a, A = some a → v.ownBlock ≠ some a.block
theorem Apart.step {w : World} {B size n : Nat} {A : Option Addr} {xs : List Value} {v v' : Value} (h : Apart A v) (hr : Rd w B size A n xs) (hn : 0 < n) (hB : B ≤ w.heap.size) (hv : v'.ownBlock = v.ownBlock ∨ ∀ g, v'.ownBlock = some g → w.heap.size ≤ g) : Apart A v' := by
  intro a ha e
  rcases hv with hv | hv
  · rw [hv] at e; exact h a ha e
  · have h1 := hv _ e
    obtain ⟨a', ha', hb, _⟩ := hr.at_ hn
    rw [ha] at ha'; cases ha'
    omega
end Go.Proofs.YtijlaclngibekaaGreatDoor
/- Rows and structs that were laid: read again. -/
namespace Go.Proofs.YtijlaclngibekaaGreatDoor
open Go.RowKit
theorem rd_new (w : World) (cs : Array Value) (e : TypeId) (size n : Nat) (hl : cs.size = n * size) : Rd (w.alloc (.cells cs e)) (w.heap.size + 1) size (some ⟨w.heap.size, 0, none⟩) n cs.toList := by
  refine ⟨by simpa using hl, .inr ⟨_, rfl, by simp, fun j u hu => ?_⟩⟩
  rw [Addr.add_lit, Nat.zero_add, World.cell?_alloc_new]
  simpa using hu
end Go.Proofs.YtijlaclngibekaaGreatDoor
namespace Go.Proofs.YtijlaclngibekaaGreatDoor.FrameLengthsP
open Go.RowKit

theorem step_ {w w' : World} {s n : Nat} {A : Option Addr} {xs : List Value} (h : Rd w w.heap.size s A n xs) (hb : Below w.heap.size w w') : Rd w' w'.heap.size s A n xs := (h.below hb).mono hb.size
theorem rd_put (w : World) (cs : Array Value) (e : TypeId) (size n : Nat) (hl : cs.size = n * size) : Rd (w.alloc (.cells cs e)) (w.alloc (.cells cs e)).heap.size size (some ⟨w.heap.size, 0, none⟩) n cs.toList := (rd_new w cs e size n hl).mono (by simp)
theorem rd_two {w : World} {B g : Nat} {u v : Value} (h : Rd w B 2 (some ⟨g, 0, none⟩) 1 [u, v]) : w.cell? ⟨g, 0, none⟩ = some u ∧ w.cell? ⟨g, 1, none⟩ = some v := by
  obtain ⟨a, ha, _, hc⟩ := h.at_ (k := 0) (by omega)
  cases ha
  exact ⟨by have := hc 0 u rfl; rwa [Addr.add_lit] at this, by have := hc 1 v rfl; rwa [Addr.add_lit] at this⟩
end Go.Proofs.YtijlaclngibekaaGreatDoor.FrameLengthsP
namespace Go.Proofs.YtijlaclngibekaaGreatDoor.FrameSmugglesP
open Go.RowKit
open FrameLengthsP (step_ rd_put rd_two)
/-- Several objects laid, one behind the other. -/
def allocs : World → List Obj → World
  | w, [] => w
  | w, o :: os => allocs (w.alloc o) os
theorem allocs_size : ∀ (os : List Obj) (w : World), (allocs w os).heap.size = w.heap.size + os.length
  | [], w => rfl
  | o :: os, w => by
    show (allocs (w.alloc o) os).heap.size = _
    rw [allocs_size os]; simp; omega
theorem allocs_below : ∀ (os : List Obj) (w : World), Below w.heap.size w (allocs w os)
  | [], w => Below.refl _ _
  | o :: os, w => ((Below.refl _ w).alloc (Nat.le_refl _) o).trans ((allocs_below os (w.alloc o)).mono (by simp))
theorem allocs_cell : ∀ (os : List Obj) (w : World) (i j : Nat) (cs : Array Value) (e : TypeId), os[i]? = some (.cells cs e) → (allocs w os).cell? ⟨w.heap.size + i, j, none⟩ = cs[j]?
  | [], w, i, j, cs, e, h => by simp at h
  | o :: os, w, 0, j, cs, e, h => by
    simp only [List.getElem?_cons_zero, Option.some.injEq] at h
    subst h
    show (allocs (w.alloc _) os).cell? ⟨w.heap.size, j, none⟩ = _
    rw [(allocs_below os (w.alloc (.cells cs e))).cell (p := ⟨w.heap.size, j, none⟩) (by simp), World.cell?_alloc_new]
  | o :: os, w, i + 1, j, cs, e, h => by
    rw [List.getElem?_cons_succ] at h
    have := allocs_cell os (w.alloc o) i j cs e h
    have hs : (w.alloc o).heap.size = w.heap.size + 1 := by simp
    rw [hs, show w.heap.size + 1 + i = w.heap.size + (i + 1) by omega] at this
    exact this
theorem allocs_rd (os : List Obj) (w : World) (i n size : Nat) (cs : Array Value) (e : TypeId) (h : os[i]? = some (.cells cs e)) (hl : cs.size = n * size) :
    Rd (allocs w os) (allocs w os).heap.size size (some ⟨w.heap.size + i, 0, none⟩) n cs.toList := by
  have hi : i < os.length := (List.getElem?_eq_some_iff.1 h).1
  refine ⟨by simpa using hl, .inr ⟨_, rfl, by rw [allocs_size]; simp; omega, fun j u hu => ?_⟩⟩
  rw [Addr.add_lit, Nat.zero_add, allocs_cell os w i j cs e h]
  simpa using hu
end Go.Proofs.YtijlaclngibekaaGreatDoor.FrameSmugglesP
/- A slice that is read has an address that is written out. -/
namespace Go.Proofs.YtijlaclngibekaaGreatDoor
open Go.RowKit

theorem Rd.lit {w : World} {B size n : Nat} {A : Option Addr} {xs : List Value} (h : Rd w B size A n xs) {k : Nat} (hk : k < n) (h0 : 0 < size) :
    ∃ b off, A = some ⟨b, off, none⟩ ∧ b < B ∧ ∀ j u, xs[j]? = some u → w.cell? ⟨b, off + j, none⟩ = some u := by
  obtain ⟨a, rfl, hb, hc⟩ := h.at_ hk
  obtain ⟨b, off, spot⟩ := a
  have hlen : 0 < xs.length := by rw [h.1]; exact Nat.mul_pos (by omega) h0
  have hs : spot = none := by
    have h00 := hc 0 _ (List.getElem?_eq_getElem hlen)
    simpa [Addr.add] using World.cell?_spot h00
  subst hs
  refine ⟨b, off, rfl, hb, fun j u hu => ?_⟩
  have := hc j u hu
  rwa [Addr.add_lit] at this
end Go.Proofs.YtijlaclngibekaaGreatDoor
/- Lines that end in bytes 13, 10; words. No program here. -/
namespace Go.Proofs.YtijlaclngibekaaGreatDoor.Rl
set_option linter.unusedVariables false
set_option linter.unusedSimpArgs false

/-- Lines, joined by 13, 10. -/
def joinC : List (List UInt8) → List UInt8
  | [] => []
  | [l] => l
  | l :: r => l ++ 13 :: 10 :: joinC r
/-- Where line j begins. -/
def off (L : List (List UInt8)) (j : Nat) : Nat := ((L.take j).map fun l => l.length + 2).sum
theorem off_0 (L : List (List UInt8)) : off L 0 = 0 := rfl
theorem off_succ (L : List (List UInt8)) (j : Nat) (h : j < L.length) : off L (j + 1) = off L j + L[j].length + 2 := by
  unfold off
  rw [List.take_succ_eq_append_getElem h, List.map_append, List.sum_append]
  simp; omega
theorem drop_off : ∀ (L : List (List UInt8)) (j : Nat) (h : j < L.length), (joinC L).drop (off L j) = joinC (L.drop j)
  | [], j, h => by simp at h
  | L, 0, h => by rw [off_0]; rfl
  | [l], j + 1, h => by simp at h
  | l :: m :: r, j + 1, h => by
    have ih := drop_off (m :: r) j (by simpa using h)
    have e : off (l :: m :: r) (j + 1) = l.length + 2 + off (m :: r) j := by unfold off; simp
    rw [e, List.drop_succ_cons, ← ih]
    show (l ++ 13 :: 10 :: joinC (m :: r)).drop _ = _
    rw [← List.drop_drop]
    congr 1
    have : l ++ 13 :: 10 :: joinC (m :: r) = (l ++ [13, 10]) ++ joinC (m :: r) := by simp
    rw [this, show l.length + 2 = (l ++ [13, 10] : List UInt8).length by simp, List.drop_left]
theorem joinC_two (l : List UInt8) (r : List (List UInt8)) (h : r ≠ []) : joinC (l :: r) = l ++ 13 :: 10 :: joinC r := by
  cases r with
  | nil => exact absurd rfl h
  | cons m r => rfl
theorem drop_last (L : List (List UInt8)) (j : Nat) (h : j + 1 = L.length) : (joinC L).drop (off L j) = L[j]'(by omega) := by
  rw [drop_off L j (by omega), List.drop_eq_getElem_cons (by omega), show L.drop (j + 1) = [] by rw [List.drop_eq_nil_iff]; omega]
  rfl
theorem drop_mid (L : List (List UInt8)) (j : Nat) (h : j + 1 < L.length) : (joinC L).drop (off L j) = L[j]'(by omega) ++ 13 :: 10 :: joinC (L.drop (j + 1)) := by
  rw [drop_off L j (by omega), List.drop_eq_getElem_cons (by omega)]
  exact joinC_two _ _ (by rw [Ne, List.drop_eq_nil_iff]; omega)
theorem len_last (L : List (List UInt8)) (j : Nat) (h : j + 1 = L.length) : (joinC L).length = off L j + (L[j]'(by omega)).length := by
  have e := congrArg List.length (drop_last L j h)
  rw [List.length_drop] at e
  have : off L j ≤ (joinC L).length := by
    clear e
    have hh : ∀ (L : List (List UInt8)) (j : Nat), j < L.length → off L j ≤ (joinC L).length := by
      intro L
      induction L with
      | nil => intro j h; simp at h
      | cons l r ih =>
        intro j h
        cases j with
        | zero => exact Nat.zero_le _
        | succ j =>
          cases r with
          | nil => simp at h
          | cons m r =>
            have := ih j (by simpa using h)
            have e : off (l :: m :: r) (j + 1) = l.length + 2 + off (m :: r) j := by unfold off; simp
            rw [e, joinC_two l (m :: r) (by simp)]
            simp only [List.length_append, List.length_cons]
            omega
    exact hh L j (by omega)
  omega
/-- At byte i, in line j. -/
def LinI (L : List (List UInt8)) (i j : Nat) : Prop := ∃ r, ∃ h : j < L.length, i = off L j + r ∧ r ≤ (L[j]).length
def cr : List UInt8 := [13, 10]
def No13 (L : List (List UInt8)) : Prop := ∀ l ∈ L, (13 : UInt8) ∉ l
theorem pre_no {x : UInt8} {t : List UInt8} (h : x ≠ 13) : cr.isPrefixOf (x :: t) = false := by
  simp [cr, List.isPrefixOf]; intro e; exact absurd e.symm h
theorem linI_0 {L : List (List UInt8)} (h : L ≠ []) : LinI L 0 0 := ⟨0, List.length_pos_iff.mpr h, rfl, Nat.zero_le _⟩
theorem drop_at {L : List (List UInt8)} {j r : Nat} (h : j < L.length) (hr : r ≤ (L[j]).length) :
    (joinC L).drop (off L j + r) = (L[j]).drop r ++ (if j + 1 < L.length then 13 :: 10 :: joinC (L.drop (j + 1)) else []) := by
  rw [← List.drop_drop]
  by_cases hj : j + 1 < L.length
  · rw [drop_mid L j hj, List.drop_append_of_le_length hr, if_pos hj]
  · rw [drop_last L j (by omega), if_neg hj, List.append_nil]
theorem linI_case {L : List (List UInt8)} (hn : No13 L) {i j : Nat} (h : LinI L i j) :
    (∃ h2 : j + 1 < L.length, i = off L j + (L[j]'(by omega)).length ∧ cr.isPrefixOf ((joinC L).drop i) = true ∧ LinI L (i + 2) (j + 1) ∧ i < (joinC L).length) ∨
    (cr.isPrefixOf ((joinC L).drop i) = false ∧ LinI L (i + 1) j ∧ i < (joinC L).length) ∨ (∃ h2 : j + 1 = L.length, i = (joinC L).length ∧ i = off L j + (L[j]'(by omega)).length) := by
  obtain ⟨r, hj, hi, hr⟩ := h
  have hd := drop_at hj hr
  rw [← hi] at hd
  rcases Nat.lt_or_ge r (L[j]).length with hlt | hge
  · right; left
    have e : (L[j]).drop r = (L[j])[r] :: (L[j]).drop (r + 1) := List.drop_eq_getElem_cons hlt
    have hx : (L[j])[r] ≠ 13 := fun hx => hn _ (List.getElem_mem hj) (hx ▸ List.getElem_mem hlt)
    refine ⟨by rw [hd, e]; exact pre_no hx, ⟨r + 1, hj, by omega, hlt⟩, ?_⟩
    have := congrArg List.length hd
    rw [List.length_drop, e] at this
    simp only [List.length_append, List.length_cons] at this
    omega
  · have hre : r = (L[j]).length := by omega
    subst hre
    rw [List.drop_length, List.nil_append] at hd
    by_cases h2 : j + 1 < L.length
    · left
      rw [if_pos h2] at hd
      refine ⟨h2, hi, by rw [hd]; rfl, ⟨0, h2, by rw [off_succ L j hj]; omega, Nat.zero_le _⟩, ?_⟩
      have := congrArg List.length hd
      rw [List.length_drop] at this
      simp only [List.length_cons] at this
      omega
    · right; right
      exact ⟨by omega, by rw [len_last L j (by omega)]; exact hi, hi⟩
/-- Line j, cut out. -/
theorem cut_line {L : List (List UInt8)} {j : Nat} (h : j < L.length) : ((joinC L).drop (off L j)).take (L[j]).length = L[j] := by
  have := drop_at (r := 0) h (Nat.zero_le _)
  rw [Nat.add_zero, List.drop_zero] at this
  rw [this, List.take_left']
  rfl
end Go.Proofs.YtijlaclngibekaaGreatDoor.Rl
/- The words of a first line: cut at its first blanks. No program here. -/
namespace Go.Proofs.YtijlaclngibekaaGreatDoor.Rl
set_option linter.unusedVariables false
set_option linter.unusedSimpArgs false

/-- Cut at the first k blanks. -/
def cutW : Nat → List UInt8 → List (List UInt8)
  | 0, s => [s]
  | k + 1, s => if (32 : UInt8) ∈ s then s.takeWhile (· != 32) :: cutW k ((s.dropWhile (· != 32)).drop 1) else [s]
/-- At byte i: 'done' is cut, the word begun at 'from'. -/
def WordI (k : Nat) (s : List UInt8) (i fr : Nat) (done : List (List UInt8)) : Prop :=
  fr ≤ i ∧ i ≤ s.length ∧ done.length ≤ k ∧ cutW k s = done ++ cutW (k - done.length) (s.drop fr) ∧ (done.length < k → (32 : UInt8) ∉ (s.drop fr).take (i - fr))
theorem wordI_0 (k : Nat) (s : List UInt8) : WordI k s 0 0 [] := ⟨Nat.le_refl _, Nat.zero_le _, Nat.zero_le _, by simp, fun _ => by simp⟩
theorem tw_app {a r : List UInt8} (h : (32 : UInt8) ∉ a) : (a ++ 32 :: r).takeWhile (· != 32) = a ∧ ((a ++ 32 :: r).dropWhile (· != 32)).drop 1 = r := by
  induction a with
  | nil => simp
  | cons x a ih =>
    have hx : x ≠ 32 := fun e => h (by simp [e])
    have ih := ih (fun hm => h (by simp [hm]))
    constructor
    · rw [List.cons_append, List.takeWhile_cons_of_pos (by simpa using hx), ih.1]
    · rw [List.cons_append, List.dropWhile_cons_of_pos (by simpa using hx), ih.2]
theorem cutW_hit {k : Nat} {a r : List UInt8} (h : (32 : UInt8) ∉ a) : cutW (k + 1) (a ++ 32 :: r) = a :: cutW k r := by
  rw [cutW, if_pos (by simp), (tw_app h).1, (tw_app h).2]
theorem cutW_miss {k : Nat} {a : List UInt8} (h : (32 : UInt8) ∉ a) : cutW k a = [a] := by
  cases k with
  | zero => rfl
  | succ k => rw [cutW, if_neg h]
theorem split_at {s : List UInt8} {i fr : Nat} (h1 : fr ≤ i) (h2 : i < s.length) : s.drop fr = (s.drop fr).take (i - fr) ++ s[i] :: s.drop (i + 1) := by
  have e : (s.drop fr).drop (i - fr) = s.drop i := by rw [List.drop_drop]; congr 1; omega
  rw [← List.drop_eq_getElem_cons h2, ← e, List.take_append_drop]
theorem wordI_blank {k : Nat} {s : List UInt8} {i fr : Nat} {done : List (List UInt8)} (h : WordI k s i fr done) (hi : i < s.length) (hb : s[i] = 32) (hk : done.length < k) : WordI k s (i + 1) (i + 1) (done ++ [(s.drop fr).take (i - fr)]) := by
  obtain ⟨h1, h2, h3, h4, h5⟩ := h
  refine ⟨Nat.le_refl _, hi, by simp; omega, ?_, fun _ => by simp⟩
  have e := split_at h1 hi
  rw [hb] at e
  rw [h4]
  obtain ⟨m, hm⟩ : ∃ m, k - done.length = m + 1 := ⟨k - done.length - 1, by omega⟩
  rw [hm]
  have e2 : cutW (m + 1) (s.drop fr) = (s.drop fr).take (i - fr) :: cutW m (s.drop (i + 1)) := by
    conv => lhs; rw [e]
    exact cutW_hit (h5 hk)
  rw [e2, List.append_assoc, show k - (done ++ [(s.drop fr).take (i - fr)]).length = m by simp; omega]
  rfl
theorem wordI_on {k : Nat} {s : List UInt8} {i fr : Nat} {done : List (List UInt8)} (h : WordI k s i fr done) (hi : i < s.length) (hb : s[i] ≠ 32 ∨ ¬ done.length < k) : WordI k s (i + 1) fr done := by
  obtain ⟨h1, h2, h3, h4, h5⟩ := h
  refine ⟨by omega, hi, h3, h4, fun hk => ?_⟩
  rcases hb with hb | hb
  · have e : (s.drop fr).take (i + 1 - fr) = (s.drop fr).take (i - fr) ++ [s[i]] := by
      have hl : i - fr < (s.drop fr).length := by rw [List.length_drop]; omega
      rw [show i + 1 - fr = (i - fr) + 1 by omega, List.take_succ_eq_append_getElem hl]
      congr 2
      rw [List.getElem_drop]
      congr 1; omega
    rw [e]
    intro hm
    rcases List.mem_append.1 hm with hm | hm
    · exact h5 hk hm
    · exact hb (List.mem_singleton.1 hm).symm
  · exact absurd hk hb
theorem wordI_end {k : Nat} {s : List UInt8} {fr : Nat} {done : List (List UInt8)} (h : WordI k s s.length fr done) : cutW k s = done ++ [s.drop fr] := by
  obtain ⟨h1, h2, h3, h4, h5⟩ := h
  rw [h4]
  congr 1
  by_cases hk : done.length < k
  · have := h5 hk
    rw [List.take_of_length_le (by rw [List.length_drop]; omega)] at this
    exact cutW_miss this
  · rw [show k - done.length = 0 by omega]
    rfl
end Go.Proofs.YtijlaclngibekaaGreatDoor.Rl
/- concertinaref01.Udec and Dec: a number's digits. -/
namespace Go.Proofs.YtijlaclngibekaaGreatDoor
open Go.RowKit
/-- A number's digits. -/
def udig (n : Nat) : List UInt8 := if h : n < 10 then [48 + UInt8.ofNat (n % 10)] else udig (n / 10) ++ [48 + UInt8.ofNat (n % 10)]
termination_by n
theorem udig_length (n : Nat) : (udig n).length ≤ n / 10 + 2 := by
  induction n using udig.induct with
  | case1 n h => rw [udig, dif_pos h]; simp
  | case2 n h ih => rw [udig, dif_neg h]; simp; omega
end Go.Proofs.YtijlaclngibekaaGreatDoor
/- Boxes: structs that a call has laid; stored into and read between calls. -/
namespace Go.Proofs.YtijlaclngibekaaGreatDoor
open Go.RowKit
open FrameSmugglesP (allocs allocs_size allocs_below allocs_cell allocs_rd)

def Box (w : World) (g : Nat) (cs : List Value) : Prop := g < w.heap.size ∧ ∀ j u, cs[j]? = some u → w.cell? ⟨g, j, none⟩ = some u ∧ w.frozen? ⟨g, j, none⟩ = false
section
variable {w w' : World} {g g' k : Nat} {cs : List Value} {x : Value}
theorem frozen_set (w : World) (g k : Nat) (x : Value) (a : Addr) : (w.setCell ⟨g, k, none⟩ x).frozen? a = w.frozen? a := by
  show (w.setCells g k [x]).frozen? a = _
  rw [World.frozen?_setCells]
theorem Box.below (h : Box w g cs) (b : Below w.heap.size w w') : Box w' g cs :=
  ⟨Nat.lt_of_lt_of_le h.1 b.size, fun j u hu => ⟨(b.cell (p := ⟨g, j, none⟩) h.1).trans (h.2 j u hu).1, (World.frozen?_of_block (a := ⟨g, j, none⟩) (b.block g h.1)).trans (h.2 j u hu).2⟩⟩
theorem Box.far (h : Box w g cs) (hne : g ≠ g') : Box (w.setCell ⟨g', k, none⟩ x) g cs :=
  ⟨by simpa [World.setCell] using h.1, fun j u hu => ⟨by rw [World.cell?_setCell_other _ _ _ _ (by intro e; exact hne (congrArg Addr.block e).symm)]; exact (h.2 j u hu).1, by rw [frozen_set]; exact (h.2 j u hu).2⟩⟩
theorem Box.set (h : Box w g cs) (hk : k < cs.length) : Box (w.setCell ⟨g, k, none⟩ x) g (cs.set k x) := by
  refine ⟨by simpa [World.setCell] using h.1, fun j u hu => ⟨?_, ?_⟩⟩
  · by_cases hjk : k = j
    · subst hjk
      rw [List.getElem?_set_self hk] at hu
      cases hu
      exact World.cell?_setCell_same' w _ _ (by rw [(h.2 k _ (List.getElem?_eq_getElem hk)).1]; rfl)
    · rw [List.getElem?_set_ne hjk] at hu
      rw [World.cell?_setCell_other _ _ _ _ (by intro e; have := congrArg Addr.off e; simp at this; omega)]
      exact (h.2 j u hu).1
  · rw [frozen_set]
    have hj : j < cs.length := by have := (List.getElem?_eq_some_iff.1 hu).1; simpa using this
    exact (h.2 j _ (List.getElem?_eq_getElem hj)).2
theorem Box.new (w : World) (cs : Array Value) (t : TypeId) : Box (w.alloc (.cells cs t)) w.heap.size cs.toList :=
  ⟨by simp, fun j u hu => ⟨by rw [World.cell?_alloc_new]; simpa using hu, by unfold World.frozen?; rw [heap_alloc_new]; simp⟩⟩
theorem box_allocs : ∀ (os : List Obj) (w : World) (i : Nat) (cs : Array Value) (t : TypeId), os[i]? = some (.cells cs t) → Box (allocs w os) (w.heap.size + i) cs.toList
  | o :: os, w, 0, cs, t, h => by
    simp only [List.getElem?_cons_zero, Option.some.injEq] at h
    subst h
    exact (Box.new w cs t).below (allocs_below os _)
  | o :: os, w, i + 1, cs, t, h => by
    have := box_allocs os (w.alloc o) i cs t (by simpa using h)
    have e : (w.alloc o).heap.size + i = w.heap.size + (i + 1) := by simp; omega
    rw [e] at this
    exact this
theorem Rd.far {B size n : Nat} {A : Option Addr} {xs : List Value} (h : Rd w B size A n xs) (hg : B ≤ g) : Rd (w.setCell ⟨g, k, none⟩ x) B size A n xs := h.below ((Below.refl _ _).setCell hg _)
theorem Box.two {a b : Value} (h : Box w g [a, b]) : w.cell? ⟨g, 0, none⟩ = some a ∧ w.cell? ⟨g, 1, none⟩ = some b := ⟨(h.2 0 a rfl).1, (h.2 1 b rfl).1⟩
theorem Box.free2 {a b : Value} (h : Box w g [a, b]) : w.frozen? ⟨g, 0, none⟩ = false ∧ w.frozen? ⟨g, 1, none⟩ = false := ⟨(h.2 0 a rfl).2, (h.2 1 b rfl).2⟩
theorem Box.three {a b c : Value} (h : Box w g [a, b, c]) : w.cell? ⟨g, 0, none⟩ = some a ∧ w.cell? ⟨g, 1, none⟩ = some b ∧ w.cell? ⟨g, 2, none⟩ = some c := ⟨(h.2 0 a rfl).1, (h.2 1 b rfl).1, (h.2 2 c rfl).1⟩
theorem Box.four {a b c d : Value} (h : Box w g [a, b, c, d]) : w.cell? ⟨g, 0, none⟩ = some a ∧ w.cell? ⟨g, 1, none⟩ = some b ∧ w.cell? ⟨g, 2, none⟩ = some c ∧ w.cell? ⟨g, 3, none⟩ = some d := ⟨(h.2 0 a rfl).1, (h.2 1 b rfl).1, (h.2 2 c rfl).1, (h.2 3 d rfl).1⟩
theorem Box.free4 {a b c d : Value} (h : Box w g [a, b, c, d]) : w.frozen? ⟨g, 0, none⟩ = false ∧ w.frozen? ⟨g, 1, none⟩ = false ∧ w.frozen? ⟨g, 2, none⟩ = false ∧ w.frozen? ⟨g, 3, none⟩ = false := ⟨(h.2 0 a rfl).2, (h.2 1 b rfl).2, (h.2 2 c rfl).2, (h.2 3 d rfl).2⟩
end
/-- A struct of four cells stored whole. -/
def fill4 (w : World) (g : Nat) (x0 x1 x2 x3 : Value) : World := (((w.setCell ⟨g, 0, none⟩ x0).setCell ⟨g, 1, none⟩ x1).setCell ⟨g, 2, none⟩ x2).setCell ⟨g, 3, none⟩ x3
theorem Box.fill4 {w : World} {g : Nat} {a b c d : Value} (h : Box w g [a, b, c, d]) (x0 x1 x2 x3 : Value) : Box (fill4 w g x0 x1 x2 x3) g [x0, x1, x2, x3] :=
  (((h.set (k := 0) (x := x0) (by simp)).set (k := 1) (x := x1) (by simp)).set (k := 2) (x := x2) (by simp)).set (k := 3) (x := x3) (by simp)
theorem Box.far4 {w : World} {g g' : Nat} {cs : List Value} (h : Box w g cs) (hne : g ≠ g') (x0 x1 x2 x3 : Value) : Box (Go.Proofs.YtijlaclngibekaaGreatDoor.fill4 w g' x0 x1 x2 x3) g cs :=
  (((h.far hne).far hne).far hne).far hne
theorem Ow.far4 {w : World} {base size n g : Nat} {v : Value} {xs : List Value} (h : Ow w base size v n xs) (hg : v.ownBlock ≠ some g) (x0 x1 x2 x3 : Value) : Ow (fill4 w g x0 x1 x2 x3) base size v n xs :=
  (((h.store_far (a := ⟨g, 0, none⟩) hg x0).store_far (a := ⟨g, 1, none⟩) hg x1).store_far (a := ⟨g, 2, none⟩) hg x2).store_far (a := ⟨g, 3, none⟩) hg x3
theorem below_fill4 {w w' : World} {n g : Nat} (h : Below n w w') (hg : n ≤ g) (x0 x1 x2 x3 : Value) : Below n w (fill4 w' g x0 x1 x2 x3) :=
  (((h.setCell hg x0).setCell hg x1).setCell hg x2).setCell hg x3
theorem Rd.far4 {w : World} {B size n g : Nat} {A : Option Addr} {xs : List Value} (h : Rd w B size A n xs) (hg : B ≤ g) (x0 x1 x2 x3 : Value) : Rd (fill4 w g x0 x1 x2 x3) B size A n xs := h.below (below_fill4 (Below.refl _ _) hg _ _ _ _)
theorem size4 (w : World) (g : Nat) (x0 x1 x2 x3 : Value) : (fill4 w g x0 x1 x2 x3).heap.size = w.heap.size := by simp [fill4, World.setCell]
def fill2 (w : World) (g : Nat) (x0 x1 : Value) : World := (w.setCell ⟨g, 0, none⟩ x0).setCell ⟨g, 1, none⟩ x1
theorem Box.fill2 {w : World} {g : Nat} {a b : Value} (h : Box w g [a, b]) (x0 x1 : Value) : Box (fill2 w g x0 x1) g [x0, x1] := (h.set (k := 0) (x := x0) (by simp)).set (k := 1) (x := x1) (by simp)
theorem Box.far2 {w : World} {g g' : Nat} {cs : List Value} (h : Box w g cs) (hne : g ≠ g') (x0 x1 : Value) : Box (Go.Proofs.YtijlaclngibekaaGreatDoor.fill2 w g' x0 x1) g cs := (h.far hne).far hne
theorem Ow.far2 {w : World} {base size n g : Nat} {v : Value} {xs : List Value} (h : Ow w base size v n xs) (hg : v.ownBlock ≠ some g) (x0 x1 : Value) : Ow (fill2 w g x0 x1) base size v n xs := (h.store_far (a := ⟨g, 0, none⟩) hg x0).store_far (a := ⟨g, 1, none⟩) hg x1
theorem below_fill2 {w w' : World} {n g : Nat} (h : Below n w w') (hg : n ≤ g) (x0 x1 : Value) : Below n w (fill2 w' g x0 x1) := (h.setCell hg x0).setCell hg x1
theorem size2 (w : World) (g : Nat) (x0 x1 : Value) : (fill2 w g x0 x1).heap.size = w.heap.size := by simp [fill2, World.setCell]
theorem ow_apart {w : World} {base size n g : Nat} {v : Value} {xs : List Value} (h : Ow w base size v n xs) (hg : g < base) : v.ownBlock ≠ some g := by
  intro e
  have := (h.lt _ e).1
  omega
/-- Results that are structs of four cells. -/
theorem results_rq {fn : Func} {p : Tmp} (h : fn.results = #[.cell p 80]) (tmps : Array Value) (w : World) (g : Nat) (a b c d : Value) (hb : Box w g [a, b, c, d]) (hp : tmps.getD p undef = .pointer (some ⟨g, 0, none⟩)) :
    (results fn tmps).run Tryz.prog w = .ok (.agg #[a, b, c, d]) w := by
  have hp' : tmps[p]?.getD undef = .pointer (some ⟨g, 0, none⟩) := by simpa using hp
  obtain ⟨k0, k1, k2, k3⟩ := hb.four
  simp [results, h, hp', go_sem, k0, k1, k2, k3]
theorem results_rs {fn : Func} {p : Tmp} (h : fn.results = #[.cell p 46]) (tmps : Array Value) (w : World) (g : Nat) (a b c d : Value) (hb : Box w g [a, b, c, d]) (hp : tmps.getD p undef = .pointer (some ⟨g, 0, none⟩)) :
    (results fn tmps).run Tryz.prog w = .ok (.agg #[a, b, c, d]) w := by
  have hp' : tmps[p]?.getD undef = .pointer (some ⟨g, 0, none⟩) := by simpa using hp
  obtain ⟨k0, k1, k2, k3⟩ := hb.four
  simp [results, h, hp', go_sem, k0, k1, k2, k3]
theorem results_rsf {fn : Func} {p q : Tmp} (h : fn.results = #[.cell p 46, .cell q 67]) (tmps : Array Value) (w : World) (g g' : Nat) (a b c d x y : Value) (hb : Box w g [a, b, c, d]) (hb' : Box w g' [x, y]) (hp : tmps.getD p undef = .pointer (some ⟨g, 0, none⟩)) (hq : tmps.getD q undef = .pointer (some ⟨g', 0, none⟩)) :
    (results fn tmps).run Tryz.prog w = .ok (.tuple #[.agg #[a, b, c, d], .agg #[x, y]]) w := by
  have hp' : tmps[p]?.getD undef = .pointer (some ⟨g, 0, none⟩) := by simpa using hp
  have hq' : tmps[q]?.getD undef = .pointer (some ⟨g', 0, none⟩) := by simpa using hq
  obtain ⟨k0, k1, k2, k3⟩ := hb.four
  obtain ⟨l0, l1⟩ := hb'.two
  simp [results, h, hp', hq', go_sem, k0, k1, k2, k3, l0, l1]
end Go.Proofs.YtijlaclngibekaaGreatDoor
/- The gateway's map of connections: looked up and stored into. -/
namespace Go.Proofs.YtijlaclngibekaaGreatDoor
open Go.RowKit Go.ChangeMaps Go.MapKept
open Go.Maps (Keyed int_keyed keyOf_int_mk)
set_option linter.unusedVariables false
set_option linter.unusedSimpArgs false

/-- Block b is a map of these entries. -/
def MapIs (w : World) (b : Nat) (es : Array MapEntry) (clk : Nat) : Prop := w.heap[b]? = some (.map es clk)
theorem MapIs.lt {w : World} {b clk : Nat} {es : Array MapEntry} (h : MapIs w b es clk) : b < w.heap.size := (Array.getElem?_eq_some_iff.1 h).1
theorem MapIs.below {w w' : World} {b clk : Nat} {es : Array MapEntry} (h : MapIs w b es clk) (hb : Below w.heap.size w w') : MapIs w' b es clk := (hb.block b h.lt).trans h
theorem MapIs.grown {w w' : World} {b clk : Nat} {es : Array MapEntry} {r : Option Nat} (h : MapIs w b es clk) (hb : w.grownBy w' r) (hr : some b ≠ r) : MapIs w' b es clk := (hb.block b h.lt hr).trans h
theorem zeroConn (w : World) : (zeroValue 54).run Tryz.prog w = .ok (.pointer none) w := by kernel_rfl
theorem undMap : Tryz.prog.underlying 50 = some (.map 3 54) := by kernel_rfl
theorem lawMap : Keyed Tryz.prog 3 := int_keyed Tryz.underlying3
theorem MapIs.no {w : World} {b clk : Nat} (h : MapIs w b #[] clk) (k : Int) (hk : (Lit.int .i64 k).wf = true) : (Instr.lookup 50 (.map (some b)) (.int .i64 k) false).run Tryz.prog w = .ok (.pointer none) w := by
  have hkey := keyOf_int_mk Tryz.underlying3 hk
  rcases lawMap.find w hkey ([] : List MapEntry) (by simp) with ⟨h1, h2⟩ | ⟨j, e0, h1, h2, h3⟩
  · simp [Instr.lookup, run_underlying undMap, MapKept.run_getObj_map h, lawMap.check w _ hkey, h1, zeroConn, Result.andThen]
  · simp at h2
theorem MapIs.one {w : World} {b clk : Nat} {k0 : Int} {v : Value} {bo : Nat} (h : MapIs w b #[⟨.int .i64 k0, v, bo⟩] clk) (h0 : (Lit.int .i64 k0).wf = true) (k : Int) (hk : (Lit.int .i64 k).wf = true) :
    (Instr.lookup 50 (.map (some b)) (.int .i64 k) false).run Tryz.prog w = .ok (if k = k0 then v else .pointer none) w := by
  have hkey := keyOf_int_mk Tryz.underlying3 hk
  have hkey0 := keyOf_int_mk Tryz.underlying3 h0
  rcases lawMap.find w hkey [(⟨.int .i64 k0, v, bo⟩ : MapEntry)] (by intro x hx; rw [List.mem_singleton.1 hx]; exact ⟨_, hkey0⟩) with ⟨h1, h2⟩ | ⟨j, e0, h1, h2, h3⟩
  · have hne : k ≠ k0 := by
      rintro rfl
      exact h2 _ (List.mem_singleton.2 rfl) rfl
    simp [Instr.lookup, run_underlying undMap, MapKept.run_getObj_map h, lawMap.check w _ hkey, h1, zeroConn, Result.andThen, hne]
  · have he : e0 = ⟨.int .i64 k0, v, bo⟩ := List.mem_singleton.1 (List.mem_of_getElem? h2)
    subst he
    have hkk : k = k0 := by simpa using h3.symm
    subst hkk
    simp [Instr.lookup, run_underlying undMap, MapKept.run_getObj_map h, lawMap.check w _ hkey, h1, Result.andThen]
theorem MapIs.store {w : World} {b clk : Nat} (h : MapIs w b #[] clk) (k : Int) (v : Value) (hk : (Lit.int .i64 k).wf = true) :
    (Instr.mapUpdate 50 (.map (some b)) (.int .i64 k) v).run Tryz.prog w = .ok () (setBlock w b (.map #[⟨.int .i64 k, v, clk⟩] (clk + 1))) := by
  have hkey := keyOf_int_mk Tryz.underlying3 hk
  rcases lawMap.find w hkey ([] : List MapEntry) (by simp) with ⟨h1, h2⟩ | ⟨j, e0, h1, h2, h3⟩
  · simp [Instr.mapUpdate, run_underlying undMap, MapKept.run_getObj_map h, lawMap.check w _ hkey, h1, zeroConn, Result.andThen, MapKept.run_setObj_map _ h, setBlock]
  · simp at h2
end Go.Proofs.YtijlaclngibekaaGreatDoor
