/- Small facts about worlds, slices and strings that the walks of this seat share; no function of the program is named here. -/
import Derived.WalkKit
import Derived.WalkLawsBesides
import Derived.WalkSpells
import Derived.Laws.IdiomStrings
import Derived.Deep.Draws
import Derived.ArgAppend
namespace Go.Proofs.YtbplnglmjcmfiaaGreatDoor
open Go.RowKit

theorem hide {p : Prop} (h : p) : Hid p := h

/-! ### Endings -/
theorem bytes_ext {a b : ByteArray} (h : a.data.toList = b.data.toList) : a = b := by
  cases a; cases b; simp at h; simp [h]
theorem bytes_of (s : ByteArray) : (⟨s.data.toList.toArray⟩ : ByteArray) = s := bytes_ext (by simp)
theorem size_of (s : ByteArray) : s.size = s.data.toList.length := by cases s; simp [ByteArray.size]
theorem ret_string {a b : ByteArray} (h : a.data.toList = b.data.toList) : Ending.returned (.string a) = .returned (.string b) := by rw [bytes_ext h]
theorem ret_int {k : IntKind} {a b : Int} (h : a = b) : Ending.returned (.int k a) = .returned (.int k b) := by rw [h]
theorem ret_bool {a b : Bool} (h : a = b) : Ending.returned (.bool a) = .returned (.bool b) := by rw [h]

/-! ### Strings read byte by byte -/
theorem get_toList (s : ByteArray) (k : Nat) (h : k < s.size) : s.data.toList[k]? = some s[k] := by
  have h' : k < s.data.toList.length := by rw [← size_of]; exact h
  rw [List.getElem?_eq_getElem h']; rfl
theorem take_snoc (s : ByteArray) (k : Nat) (h : k < s.size) : s.data.toList.take (k + 1) = s.data.toList.take k ++ [s[k]] := by
  rw [List.take_add_one, get_toList s k h]; rfl
theorem drop_cons (s : ByteArray) (k : Nat) (h : k < s.size) : s.data.toList.drop k = s[k] :: s.data.toList.drop (k + 1) := by
  have h' : k < s.data.toList.length := by rw [← size_of]; exact h
  rw [List.drop_eq_getElem_cons h']; rfl
theorem take_all (s : ByteArray) (k : Nat) (h : s.size ≤ k) : s.data.toList.take k = s.data.toList := List.take_of_length_le (by rw [← size_of]; exact h)
theorem drop_all (s : ByteArray) (k : Nat) (h : s.size ≤ k) : s.data.toList.drop k = [] := List.drop_eq_nil_of_le (by rw [← size_of]; exact h)
theorem extract_list (s : ByteArray) (a b : Nat) : (s.extract a b).data.toList = (s.data.toList.take b).drop a := by
  simp [ByteArray.extract, ByteArray.copySlice, List.drop_take]

/-! ### Where cells lie -/
theorem addr_add_block (a : Addr) (i : Nat) : (a.add i).block = a.block := by unfold Addr.add; split <;> rfl
theorem addr_add_add (a : Addr) (i j : Nat) : (a.add i).add j = a.add (i + j) := by
  unfold Addr.add
  by_cases h1 : i = 0 <;> by_cases h2 : j = 0 <;> simp [h1, h2, Nat.add_assoc]

/-- The slice value with address A, of n elements of 'size' cells each, reads as xs; its cells lie below block B. -/
def Rd (w : World) (B size : Nat) (A : Option Addr) (n : Nat) (xs : List Value) : Prop :=
  xs.length = n * size ∧ (n = 0 ∨ ∃ a, A = some a ∧ a.block < B ∧ ∀ j u, xs[j]? = some u → w.cell? (a.add j) = some u)

section
variable {w w' : World} {B B' size n : Nat} {A : Option Addr} {xs : List Value}
theorem Rd.nil_ : Rd w B size A 0 [] := ⟨by simp, .inl rfl⟩
theorem Rd.keep (h : Rd w B size A n xs) (hk : ∀ p : Addr, p.block < B → w'.cell? p = w.cell? p) : Rd w' B size A n xs := by
  refine ⟨h.1, h.2.imp id ?_⟩
  rintro ⟨a, e, hb, hc⟩
  exact ⟨a, e, hb, fun j u hu => (hk _ (by rw [addr_add_block]; exact hb)).trans (hc j u hu)⟩
theorem Rd.below (h : Rd w B size A n xs) (hb : Below B w w') : Rd w' B size A n xs := h.keep fun _ hp => hb.cell hp
theorem Rd.mono (h : Rd w B size A n xs) (hB : B ≤ B') : Rd w B' size A n xs :=
  ⟨h.1, h.2.imp id fun ⟨a, e, hb, hc⟩ => ⟨a, e, by omega, hc⟩⟩
theorem Rd.drewN (h : Rd w B size A n xs) (k : Nat) : Rd (w.drewN k) B size A n xs := h
theorem Rd.alloc (h : Rd w B size A n xs) (hB : B ≤ w.heap.size) (o : Obj) : Rd (w.alloc o) B size A n xs := h.below ((Below.refl _ _).alloc hB o)
theorem Rd.at_ {k : Nat} (h : Rd w B size A n xs) (hk : k < n) : ∃ a, A = some a ∧ a.block < B ∧ ∀ j u, xs[j]? = some u → w.cell? (a.add j) = some u := by
  rcases h.2 with h0 | h0
  · omega
  · exact h0
theorem Rd.of_own {base : Nat} {e : TypeId} {c : Nat} (h : w.ownsRow base e size (.slice A n c) n xs) : Rd w w.heap.size size A n xs := by
  refine ⟨h.1, ?_⟩
  rcases Nat.eq_zero_or_pos n with h0 | hn
  · exact .inl h0
  · rcases h.2 with ⟨hv, _⟩ | ⟨g, cap, cur, hv, _, hh, _⟩
    · cases hv; omega
    · cases hv
      exact .inr ⟨_, rfl, (Array.getElem?_eq_some_iff.1 hh).1, h.cells rfl⟩
theorem Rd.whole (h : Rd w B size A n xs) : xs.take (n * size) = xs := List.take_of_length_le (by rw [h.1]; exact Nat.le_refl _)
/-- A cut 's[k:m]': the address bears an 'if' where k is the capacity. -/
theorem Rd.cut (h : Rd w B size A n xs) {k m cap : Nat} (hk : k ≤ m) (hm : m ≤ n) (hc : n ≤ cap) :
    Rd w B size (if cap = k then A else A.map (·.add (k * size))) (m - k) ((xs.drop (k * size)).take ((m - k) * size)) := by
  have hlen : k * size + (m - k) * size ≤ n * size := by rw [← Nat.add_mul]; exact Nat.mul_le_mul_right _ (by omega)
  refine ⟨by rw [List.length_take, List.length_drop, h.1]; omega, ?_⟩
  rcases Nat.eq_zero_or_pos (m - k) with h0 | h0
  · exact .inl h0
  · obtain ⟨a, rfl, hb, hcell⟩ := h.at_ (k := k) (by omega)
    rw [if_neg (by omega)]
    refine .inr ⟨_, rfl, by rw [addr_add_block]; exact hb, fun j u hu => ?_⟩
    rw [addr_add_add]
    rw [List.getElem?_take] at hu
    split at hu
    · rw [List.getElem?_drop] at hu; exact hcell _ u hu
    · cases hu
theorem Rd.front (h : Rd w B size A n xs) {m : Nat} (hm : m ≤ n) : Rd w B size A m (xs.take (m * size)) := by
  have := h.cut (k := 0) (m := m) (cap := n + 1) (Nat.zero_le _) hm (by omega)
  rw [if_neg (by omega)] at this
  have hA : A.map (fun a : Addr => a.add (0 * size)) = A := by cases A <;> simp [Addr.add]
  rw [hA] at this
  simpa using this
end

/-! ### Owned rows: what the call itself made -/
theorem own_new (w : World) (cs : Array Value) (e size n : Nat) (hs : cs.size = n * size) (hn : n ≤ maxLen) (base : Nat) (hb : base ≤ w.heap.size) :
    (w.alloc (.cells cs e)).ownsRow base e size (.slice (some ⟨w.heap.size, 0, none⟩) n n) n cs.toList :=
  ⟨by simpa using hs, .inr ⟨w.heap.size, n, cs, rfl, hb, heap_alloc_new w _, Nat.le_refl _, hn, hs, List.take_of_length_le (by simp [hs])⟩⟩
theorem own_base {w : World} {base base' e size n : Nat} {v : Value} {xs : List Value} (h : w.ownsRow base e size v n xs) (hb : base' ≤ base) : w.ownsRow base' e size v n xs := by
  refine ⟨h.1, h.2.imp id ?_⟩
  rintro ⟨g, cap, cur, h1, h2, h3⟩
  exact ⟨g, cap, cur, h1, by omega, h3⟩
theorem own_below {w w' : World} {base e size n : Nat} {v : Value} {xs : List Value} (h : w.ownsRow base e size v n xs) (hb : Below w.heap.size w w') : w'.ownsRow base e size v n xs := by
  refine ⟨h.1, h.2.imp id ?_⟩
  rintro ⟨g, cap, cur, h1, h2, h3, h4⟩
  exact ⟨g, cap, cur, h1, h2, (hb.block g (Array.getElem?_eq_some_iff.1 h3).1).trans h3, h4⟩
/-- The shape of an owned value. -/
theorem own_shape {w : World} {base e size n : Nat} {v : Value} {xs : List Value} (h : w.ownsRow base e size v n xs) : ∃ A c, v = .slice A n c ∧ n ≤ c ∧ c ≤ maxLen ∧ ∀ a, A = some a → base ≤ a.block := by
  rcases h.2 with ⟨rfl, rfl⟩ | ⟨g, cap, cur, rfl, h0, _, h1, h2, _⟩
  · exact ⟨none, 0, rfl, Nat.le_refl _, Nat.zero_le _, fun a h => by cases h⟩
  · exact ⟨_, cap, rfl, h1, h2, fun a h => by cases h; exact h0⟩
theorem below_of_drewN {w w1 : World} {B k : Nat} (h : Below B (w.drewN k) w1) : Below B w w1 := ⟨h.os, h.tape, h.output, h.size, h.block⟩
theorem below_made {w w1 : World} {k : Nat} {o : Obj} (h : Below w.heap.size ((w.drewN k).alloc o) w1) : Below w.heap.size w w1 :=
  below_of_drewN (((Below.refl _ (w.drewN k)).alloc (Nat.le_refl _) o).trans h)
theorem below_drewN {B k : Nat} {a w : World} (h : Below B a w) : Below B a (w.drewN k) := ⟨h.os, h.tape, h.output, h.size, h.block⟩
theorem lt_of_block {w : World} {b : Nat} {o : Obj} (h : w.heap[b]? = some o) : b < w.heap.size := (Array.getElem?_eq_some_iff.1 h).1
theorem cell_past (w : World) (o : Obj) {b off : Nat} {v : Value} (h : w.cell? ⟨b, off, none⟩ = some v) : (w.alloc o).cell? ⟨b, off, none⟩ = some v := by
  rw [← h]; exact World.cell?_alloc_lt w o _ (World.block_lt_of_cell? w _ h)
theorem grown_of_below {w w' : World} {row : Option Nat} (h : Below w.heap.size w w') : w.grownBy w' row := ⟨h.os, h.tape, h.output, h.size, fun k hk _ => h.block k hk⟩
theorem below_of_grown {w w' : World} (h : w.grownBy w' none) : Below w.heap.size w w' := ⟨h.os, h.tape, h.output, h.size, fun k hk => h.block k hk (by simp)⟩
theorem grown_trans {a b c : World} {row : Option Nat} (h : a.grownBy b row) (k : b.grownBy c row) : a.grownBy c row :=
  ⟨k.os.trans h.os, k.tape.trans h.tape, k.output.trans h.output, Nat.le_trans h.size k.size, fun i hi hne => (k.block i (Nat.lt_of_lt_of_le hi h.size) hne).trans (h.block i hi hne)⟩
theorem grown_set {w w' : World} {r : Nat} (h : w.grownBy w' (some r)) (o : Nat) (u : Value) : w.grownBy (w'.setCell ⟨r, o, none⟩ u) (some r) :=
  ⟨h.os, h.tape, h.output, by simpa [World.setCell] using h.size, fun k hk hne => by rw [Below.heap_setCell _ _ _ _ (by simpa using hne)]; exact h.block k hk hne⟩

section
variable {P : Program}
theorem run_append_none (w : World) (base : Nat) (t ty e : TypeId) (i : TypeInfo) (size : Nat) (ht : P.underlying t = some (.slice e)) (hi : P.info? e = some i)
    (v : Value) (n : Nat) (xs : List Value) (hown : w.ownsRow base e size v n xs) (c : Nat) : (Builtin.append_ #[t, t] ty #[v, .slice none 0 c]).run P w = .ok v w := by
  rcases hown.2 with ⟨rfl, rfl⟩ | ⟨g, cap, cur, rfl, _, _, hnc, _⟩
  · simp [Builtin.append_, run_underlying ht, sizeOf, typeInfo, hi, Builtin.lenOf, Builtin.firstCells]
  · simp [Builtin.append_, run_underlying ht, sizeOf, typeInfo, hi, Builtin.lenOf, Builtin.firstCells, hnc, storeCells]

theorem run_append_rd (w : World) (t ty : TypeId)
    (base : Nat) (e : TypeId) (i : TypeInfo) (z : Value) (size bytes : Nat) (ht : P.underlying t = some (.slice e)) (hi : P.info? e = some i) (hz : i.zero = some z)
    (hsize : i.size = size) (hby : i.bytes = bytes) (hzs : z.cells.size = size) (hsz : 0 < size)
    (v : Value) (n : Nat) (xs : List Value) (B : Nat) (A : Option Addr) (m c : Nat) (news : List Value)
    (hown : w.ownsRow base e size v n xs) (hr : Rd w B size A m news) (h1 : ∀ u ∈ news, u.oneCell' = true)
    (h63 : n + m ≤ maxLen) (hbytes : (n + m) * bytes ≤ 140737488355328) (hbase : base ≤ w.heap.size) :
    ∃ v' w', (Builtin.append_ #[t, t] ty #[v, .slice A m c]).run P w = .ok v' w' ∧ w'.ownsRow base e size v' (n + m) (xs ++ news) ∧ w.grownBy w' v.ownBlock := by
  rcases A with _ | ad
  · obtain rfl : m = 0 := by
      rcases hr.2 with h0 | ⟨_, h0, _⟩
      · exact h0
      · cases h0
    have hn : news = [] := List.eq_nil_of_length_eq_zero (by simpa using hr.1)
    subst hn
    exact ⟨v, w, run_append_none w base t ty e i size ht hi v n xs hown c, by simpa using hown, World.grownBy.refl w _⟩
  · have hcells : ∀ j u, news[j]? = some u → w.cell? (ad.add j) = some u := by
      intro j u hu
      rcases Nat.eq_zero_or_pos m with h0 | h0
      · have hn : news = [] := List.eq_nil_of_length_eq_zero (by rw [hr.1, h0]; simp)
        subst hn
        simp at hu
      · obtain ⟨ad', h, _, hc⟩ := hr.at_ h0
        cases h
        exact hc j u hu
    obtain ⟨v', w', hrun, h2, h3, _⟩ := run_append_own (P := P) w base t ty e i z size bytes ht hi hz hsize hby hzs hsz v n xs hown ad m c news hr.1 hcells h1 h63 hbytes hbase
    exact ⟨v', w', hrun, h2, h3⟩

theorem wp_append (w : World) {o : Oper} {a : Act} {K : Act → World → Prop} {Q : Exit → Act → World → Prop}
    (s x : Operand) (t : TypeId) (hop : o.op = Op.call { callee := Callee.builtin Builtin.append, args := #[s, x], argTypes := #[t, t] })
    (base : Nat) (e : TypeId) (i : TypeInfo) (z : Value) (size bytes : Nat) (ht : P.underlying t = some (.slice e)) (hi : P.info? e = some i) (hz : i.zero = some z)
    (hsize : i.size = size) (hby : i.bytes = bytes) (hzs : z.cells.size = size) (hsz : 0 < size)
    (v : Value) (n : Nat) (xs : List Value) (hs : a.eval s = v) (B : Nat) (A : Option Addr) (m c : Nat) (news : List Value) (hx : a.eval x = .slice A m c)
    (hown : w.ownsRow base e size v n xs) (hr : Rd w B size A m news) (h1 : ∀ u ∈ news, u.oneCell' = true)
    (h63 : n + m ≤ maxLen) (hbytes : (n + m) * bytes ≤ 140737488355328) (hbase : base ≤ w.heap.size)
    (hK : ∀ v' w', w'.ownsRow base e size v' (n + m) (xs ++ news) → Below base w w' → w.grownBy w' v.ownBlock → K (a.put o.dst v') w') :
    Oper.wp P o a w K Q := by
  obtain ⟨v', w', hrun, h2, h3⟩ := run_append_rd (P := P) w t o.type base e i z size bytes ht hi hz hsize hby hzs hsz v n xs B A m c news hown hr h1 h63 hbytes hbase
  unfold Oper.wp
  simp [execOp, hop, resolve, invoke, builtin, hs, hx, hrun, Result.andThen]
  exact hK v' w' h2 ((Below.refl _ _).grown h3 hbase (fun k hk => (hown.lt k hk).1)) h3

/-- 'out = append(out, src...)': out the call's own, src whatever reads (nil, empty or not). -/
theorem wpl_append (w : World) {ops : Array Oper} {rest : List Oper} {o : Oper} {a : Act} {Q : Exit → Act → World → Prop}
    (hgd : o.guard = none) (s x : Operand) (t : TypeId) (hop : o.op = Op.call { callee := Callee.builtin Builtin.append, args := #[s, x], argTypes := #[t, t] })
    (base : Nat) (e : TypeId) (i : TypeInfo) (z : Value) (size bytes : Nat) (ht : P.underlying t = some (.slice e)) (hi : P.info? e = some i) (hz : i.zero = some z)
    (hsize : i.size = size) (hby : i.bytes = bytes) (hzs : z.cells.size = size) (hsz : 0 < size)
    (v : Value) (n : Nat) (xs : List Value) (hs : a.eval s = v) (B : Nat) (A : Option Addr) (m c : Nat) (news : List Value) (hx : a.eval x = .slice A m c)
    (hown : w.ownsRow base e size v n xs) (hr : Rd w B size A m news) (h1 : ∀ u ∈ news, u.oneCell' = true)
    (h63 : n + m ≤ maxLen) (hbytes : (n + m) * bytes ≤ 140737488355328) (hbase : base ≤ w.heap.size)
    (hK : ∀ v' w', w'.ownsRow base e size v' (n + m) (xs ++ news) → Below base w w' → w.grownBy w' v.ownBlock → wpList P ops Q rest (a.put o.dst v') w') :
    wpList P ops Q (o :: rest) a w :=
  wpList_plain hgd fun _ hK' => wp_append w s x t hop base e i z size bytes ht hi hz hsize hby hzs hsz v n xs hs B A m c news hx hown hr h1 h63 hbytes hbase fun v' w' a1 a2 a3 => hK' _ _ (hK v' w' a1 a2 a3)

/-- The same at a step of a region that draws its order. -/
theorem step_append (w : World) {ops : Array Oper} {o : Oper} {a : Act} {K : Act → World → Prop} {Q : Exit → Act → World → Prop} {E : Prop}
    (hgd : o.guard = none) (s x : Operand) (t : TypeId) (hop : o.op = Op.call { callee := Callee.builtin Builtin.append, args := #[s, x], argTypes := #[t, t] })
    (base : Nat) (e : TypeId) (i : TypeInfo) (z : Value) (size bytes : Nat) (ht : P.underlying t = some (.slice e)) (hi : P.info? e = some i) (hz : i.zero = some z)
    (hsize : i.size = size) (hby : i.bytes = bytes) (hzs : z.cells.size = size) (hsz : 0 < size)
    (v : Value) (n : Nat) (xs : List Value) (hs : a.eval s = v) (B : Nat) (A : Option Addr) (m c : Nat) (news : List Value) (hx : a.eval x = .slice A m c)
    (hown : w.ownsRow base e size v n xs) (hr : Rd w B size A m news) (h1 : ∀ u ∈ news, u.oneCell' = true)
    (h63 : n + m ≤ maxLen) (hbytes : (n + m) * bytes ≤ 140737488355328) (hbase : base ≤ w.heap.size)
    (hK : ∀ v' w', w'.ownsRow base e size v' (n + m) (xs ++ news) → Below base w w' → w.grownBy w' v.ownBlock → K (a.put o.dst v') w') :
    if Region.wanted o (yielded ops a.tmps) = true then Oper.wp P o a w K Q else E := by
  have hw : Region.wanted o (yielded ops a.tmps) = true := by simp [Region.wanted, hgd]
  rw [if_pos hw]
  exact wp_append w s x t hop base e i z size bytes ht hi hz hsize hby hzs hsz v n xs hs B A m c news hx hown hr h1 h63 hbytes hbase hK

/-- 'out = append(out, x)': one element, just laid in a block of its own. -/
theorem wpl_push {w : World} {cs : Array Value} {e : TypeId} {ops : Array Oper} {rest : List Oper} {o : Oper} {a : Act} {Q : Exit → Act → World → Prop}
    (hgd : o.guard = none) (s x : Operand) (t : TypeId) (hop : o.op = Op.call { callee := Callee.builtin Builtin.append, args := #[s, x], argTypes := #[t, t] })
    (base : Nat) (i : TypeInfo) (z : Value) (size bytes : Nat) (ht : P.underlying t = some (.slice e)) (hi : P.info? e = some i) (hz : i.zero = some z)
    (hsize : i.size = size) (hby : i.bytes = bytes) (hzs : z.cells.size = size) (hsz : 0 < size)
    (v : Value) (n : Nat) (xs : List Value) (hs : a.eval s = v) (c : Nat) (hx : a.eval x = .slice (some ⟨w.heap.size, 0, none⟩) 1 c)
    (hown : w.ownsRow base e size v n xs) (hcs : cs.size = size) (h1 : ∀ u ∈ cs.toList, u.oneCell' = true)
    (h63 : n + 1 ≤ maxLen) (hbytes : (n + 1) * bytes ≤ 140737488355328) (hbase : base ≤ w.heap.size)
    (hK : ∀ v' w', w'.ownsRow base e size v' (n + 1) (xs ++ cs.toList) → Below base w w' → w.grownBy w' v.ownBlock → wpList P ops Q rest (a.put o.dst v') w') :
    wpList P ops Q (o :: rest) a (w.alloc (.cells cs e)) := by
  have hg1 : w.grownBy (w.alloc (.cells cs e)) v.ownBlock := World.grownBy_alloc w _ _
  refine wpl_append (w.alloc (.cells cs e)) hgd s x t hop base e i z size bytes ht hi hz hsize hby hzs hsz v n xs hs (w.heap.size + 1) _ 1 c cs.toList hx (hown.alloc _)
    ⟨by simpa using hcs, .inr ⟨_, rfl, by simp, fun j u hu => ?_⟩⟩ h1 h63 hbytes (by simp; omega) (fun v' w' h2 h3 h4 => hK v' w' h2 ?_ ?_)
  · rw [Addr.add_lit, cell_of_row _ w.heap.size _ cs e (0, 0) (heap_alloc_new w _)]
    simpa using hu
  · exact ((Below.refl _ _).alloc hbase _).trans h3
  · exact ⟨h4.os.trans hg1.os, h4.tape.trans hg1.tape, h4.output.trans hg1.output, Nat.le_trans hg1.size h4.size, fun k hk hne => (h4.block k (Nat.lt_of_lt_of_le hk hg1.size) hne).trans (hg1.block k hk hne)⟩

/-- 'make([]T, 0, n)': the value and the world, written out. -/
theorem run_make_cap (t e : TypeId) (i : TypeInfo) (z : Value) (size bytes : Nat) (ht : P.underlying t = some (.slice e)) (hi : P.info? e = some i) (hz : i.zero = some z) (hsize : i.size = size) (hby : i.bytes = bytes)
    (N : Int) (n : Nat) (hN : N = n) (hb : bytes * n ≤ 281474976710656) (hn : n ≤ 9223372036854775807) (w : World) :
    (Instr.makeSlice t (.int .i64 0) (.int .i64 N)).run P w = .ok (.slice (some ⟨w.heap.size, 0, none⟩) 0 n) (w.alloc (.cells (madeCells z.cells (n * size)) e)) := by
  subst hN
  have hbb : (i.bytes : Int) * (n : Int) ≤ 281474976710656 := by rw [hby, ← Int.natCast_mul]; omega
  rw [run_make (P := P) w t e i z ht hi hz .i64 .i64 0 (n : Int) (by omega) (by omega) hbb (by omega), hsize]
  rfl

theorem run_byte_string (src dst e : TypeId) (hs : P.underlying src = some (.slice e)) (he : P.underlying e = some (.int .u8)) (hd : P.underlying dst = some .string)
   (w : World) (n : Int) (h0 : 0 ≤ n) (h1 : n < 256) :
    (convert src dst (.slice (some ⟨w.heap.size, 0, none⟩) 1 1)).run P (w.alloc (.cells #[.int .u8 n] e)) = .ok (.string ⟨#[UInt8.ofNat n.toNat]⟩) (w.alloc (.cells #[.int .u8 n] e)) := by
  have := run_convert_bytes_back (P := P) (w.alloc (.cells #[.int .u8 n] e)) src dst e ⟨w.heap.size, 0, none⟩ 1 [UInt8.ofNat n.toNat] hs he hd (by
    intro j hj
    obtain rfl : j = 0 := by simpa using hj
    simp [Addr.add]
    omega)
  simpa using this
end
end Go.Proofs.YtbplnglmjcmfiaaGreatDoor

/- Bytes in memory, and the bytes of strings. -/
namespace Go.Proofs.YtbplnglmjcmfiaaGreatDoor
open Go.RowKit

/-- The cells that hold bytes. -/
def bcells (l : List UInt8) : List Value := l.map fun b => .int .u8 b.toNat
theorem bcells_length (l : List UInt8) : (bcells l).length = l.length := by simp [bcells]
theorem bcells_take (l : List UInt8) (k : Nat) : (bcells l).take k = bcells (l.take k) := by simp [bcells, List.map_take]
theorem bcells_drop (l : List UInt8) (k : Nat) : (bcells l).drop k = bcells (l.drop k) := by simp [bcells, List.map_drop]
theorem bcells_append (l l' : List UInt8) : bcells l ++ bcells l' = bcells (l ++ l') := by simp [bcells]
theorem bcells_nil : bcells [] = [] := rfl
theorem bcells_one (l : List UInt8) : ∀ u ∈ bcells l, u.oneCell' = true := by
  intro u hu
  obtain ⟨b, _, rfl⟩ := List.mem_map.1 hu
  rfl
theorem bcells_get (l : List UInt8) (k : Nat) (h : k < l.length) : (bcells l)[k]? = some (.int .u8 l[k].toNat) := by simp [bcells, h]
theorem Rd.byte {w : World} {B n : Nat} {A : Option Addr} {l : List UInt8} (h : Rd w B 1 A n (bcells l)) {k : Nat} (hk : k < n) :
    ∃ a, A = some a ∧ a.block < B ∧ w.cell? (a.add k) = some (.int .u8 (l.getD k 0).toNat) := by
  obtain ⟨a, rfl, hb, hc⟩ := h.at_ hk
  have hl : l.length = n := by have := h.1; simpa [bcells] using this
  refine ⟨a, rfl, hb, hc k _ ?_⟩
  simp [bcells, show k < l.length by omega]
theorem byte_bne (a b : UInt8) : ((a.toNat : Int) != (b.toNat : Int)) = !(a == b) := by
  rw [Bool.eq_iff_iff]; simp [bne_iff_ne, ← UInt8.toNat_inj]; omega
theorem list_take_snoc {α : Type} (l : List α) (k : Nat) (h : k < l.length) : l.take (k + 1) = l.take k ++ [l[k]] := by
  rw [List.take_add_one, List.getElem?_eq_getElem h]; rfl
/-- Numbers that fit are bytes. -/
theorem bytes_of_ints (zs : List Int) (h : ∀ z ∈ zs, (Lit.int .u8 z).wf = true) : ∃ l : List UInt8, zs.map (Value.int .u8) = bcells l ∧ l.length = zs.length := by
  refine ⟨zs.map fun z => UInt8.ofNat z.toNat, ?_, by simp⟩
  simp only [bcells, List.map_map]
  refine List.map_congr_left fun z hz => ?_
  have := h z hz
  have hm : IntKind.u8.min = 0 := by decide
  have hM : IntKind.u8.max = 255 := by decide
  simp [Lit.wf, hm, hM] at this
  simp
  omega
end Go.Proofs.YtbplnglmjcmfiaaGreatDoor

/- Slices of the call's own that may begin in the midst of a block: read, cut, stored into, appended to. -/
namespace Go.Proofs.YtbplnglmjcmfiaaGreatDoor
open Go.RowKit

/-- The slice value v, of n elements of 'size' cells each, lies in a block from 'base' on, may be written up to its capacity, and holds xs. -/
def Ow (w : World) (base size : Nat) (v : Value) (n : Nat) (xs : List Value) : Prop :=
  xs.length = n * size ∧ ((v = .slice none 0 0 ∧ n = 0) ∨
    ∃ g off cap, v = .slice (some ⟨g, off, none⟩) n cap ∧ base ≤ g ∧ g < w.heap.size ∧ n ≤ cap ∧ cap ≤ maxLen ∧
      (∀ j u, xs[j]? = some u → w.cell? ⟨g, off + j, none⟩ = some u) ∧
      (∀ j, j < cap * size → (w.cell? ⟨g, off + j, none⟩).isSome = true ∧ w.frozen? ⟨g, off + j, none⟩ = false))

theorem heap_setCells (g : Nat) : ∀ (vs : List Value) (o : Nat) (w : World) (k : Nat), k ≠ g → (w.setCells g o vs).heap[k]? = w.heap[k]?
  | [], _, _, _, _ => rfl
  | v :: vs, o, w, k, h => by
    show ((w.setCell ⟨g, o, none⟩ v).setCells g (o + 1) vs).heap[k]? = _
    rw [heap_setCells g vs _ _ k h, Below.heap_setCell _ _ _ _ (by simpa using h)]
theorem size_setCells (g : Nat) : ∀ (vs : List Value) (o : Nat) (w : World), (w.setCells g o vs).heap.size = w.heap.size
  | [], _, _ => rfl
  | v :: vs, o, w => by
    show ((w.setCell ⟨g, o, none⟩ v).setCells g (o + 1) vs).heap.size = _
    rw [size_setCells g vs]; simp [World.setCell]
theorem rest_setCells (g : Nat) : ∀ (vs : List Value) (o : Nat) (w : World), (w.setCells g o vs).os = w.os ∧ (w.setCells g o vs).tape = w.tape ∧ (w.setCells g o vs).output = w.output
  | [], _, _ => ⟨rfl, rfl, rfl⟩
  | v :: vs, o, w => rest_setCells g vs (o + 1) (w.setCell ⟨g, o, none⟩ v)
theorem grown_setCells (g : Nat) (vs : List Value) (o : Nat) (w : World) : w.grownBy (w.setCells g o vs) (some g) :=
  ⟨(rest_setCells g vs o w).1, (rest_setCells g vs o w).2.1, (rest_setCells g vs o w).2.2, by rw [size_setCells]; exact Nat.le_refl _, fun k _ hne => heap_setCells g vs o w k (by simpa using hne)⟩

section
variable {w w' : World} {base base' size n : Nat} {v : Value} {xs : List Value}
theorem Ow.nil_ : Ow w base size (.slice none 0 0) 0 [] := ⟨by simp, .inl ⟨rfl, rfl⟩⟩
theorem Ow.base_ (h : Ow w base size v n xs) (hb : base' ≤ base) : Ow w base' size v n xs := by
  refine ⟨h.1, h.2.imp id ?_⟩
  rintro ⟨g, off, cap, h1, h2, h3⟩
  exact ⟨g, off, cap, h1, by omega, h3⟩
theorem Ow.of_row {e : TypeId} (h : w.ownsRow base e size v n xs) : Ow w base size v n xs := by
  refine ⟨h.1, h.2.imp id ?_⟩
  rintro ⟨g, cap, cur, rfl, h1, h2, h3, h4, h5, h6⟩
  refine ⟨g, 0, cap, rfl, h1, lt_of_block h2, h3, h4, fun j u hu => ?_, fun j hj => ?_⟩
  · have := h.cells (g := g) rfl j u hu
    rwa [Addr.add_lit] at this
  · rw [cell_of_row w g (0 + j) cur e (0, 0) h2]
    refine ⟨by simp; omega, by simp [World.frozen?, h2]⟩
theorem Ow.shape (h : Ow w base size v n xs) : ∃ A c, v = .slice A n c ∧ n ≤ c ∧ c ≤ maxLen := by
  rcases h.2 with ⟨rfl, rfl⟩ | ⟨g, off, cap, rfl, _, _, h1, h2, _⟩
  · exact ⟨none, 0, rfl, Nat.le_refl _, Nat.zero_le _⟩
  · exact ⟨_, cap, rfl, h1, h2⟩
theorem Ow.lt (h : Ow w base size v n xs) : ∀ k, v.ownBlock = some k → base ≤ k ∧ k < w.heap.size := by
  intro k hk
  rcases h.2 with ⟨rfl, _⟩ | ⟨g, off, cap, rfl, h1, h2, _⟩
  · simp [Value.ownBlock] at hk
  · simp [Value.ownBlock] at hk; subst hk; exact ⟨h1, h2⟩
theorem Ow.kept {row : Option Nat} (h : Ow w base size v n xs) (hg : w.grownBy w' row) (hne : v.ownBlock = none ∨ v.ownBlock ≠ row) : Ow w' base size v n xs := by
  refine ⟨h.1, h.2.imp id ?_⟩
  rintro ⟨g, off, cap, rfl, h1, h2, h3, h4, h5, h6⟩
  have hb : w'.heap[g]? = w.heap[g]? := hg.block g h2 (by simpa [Value.ownBlock] using hne)
  refine ⟨g, off, cap, rfl, h1, Nat.lt_of_lt_of_le h2 hg.size, h3, h4, fun j u hu => (World.cell?_of_block (a := ⟨g, off + j, none⟩) hb).trans (h5 j u hu), fun j hj => ?_⟩
  rw [World.cell?_of_block (a := ⟨g, off + j, none⟩) hb, World.frozen?_of_block (a := ⟨g, off + j, none⟩) hb]
  exact h6 j hj
theorem Ow.below (h : Ow w base size v n xs) (hb : Below w.heap.size w w') : Ow w' base size v n xs := h.kept (row := none) (grown_of_below hb) (by cases v.ownBlock <;> simp)
theorem Ow.alloc (h : Ow w base size v n xs) (o : Obj) : Ow (w.alloc o) base size v n xs := h.below ((Below.refl _ _).alloc (Nat.le_refl _) o)
theorem Ow.drewN (h : Ow w base size v n xs) (k : Nat) : Ow (w.drewN k) base size v n xs := h
theorem Ow.rd {A : Option Addr} {c : Nat} (h : Ow w base size (.slice A n c) n xs) : Rd w w.heap.size size A n xs := by
  refine ⟨h.1, ?_⟩
  rcases h.2 with ⟨_, h0⟩ | ⟨g, off, cap, hv, h1, h2, h3, h4, h5, _⟩
  · exact .inl h0
  · cases hv
    exact .inr ⟨_, rfl, h2, fun j u hu => by rw [Addr.add_lit]; exact h5 j u hu⟩
/-- 'v[k:m]'. -/
theorem Ow.cut {A : Option Addr} {c : Nat} (h : Ow w base size (.slice A n c) n xs) {k m : Nat} (hk : k ≤ m) (hm : m ≤ n) :
    Ow w base size (.slice (if c = k then A else A.map (·.add (k * size))) (m - k) (c - k)) (m - k) ((xs.drop (k * size)).take ((m - k) * size)) := by
  have hlen : k * size + (m - k) * size ≤ n * size := by rw [← Nat.add_mul]; exact Nat.mul_le_mul_right _ (by omega)
  refine ⟨by rw [List.length_take, List.length_drop, h.1]; omega, ?_⟩
  rcases h.2 with ⟨hv, rfl⟩ | ⟨g, off, cap, hv, h1, h2, h3, h4, h5, h6⟩
  · cases hv
    obtain rfl : m = 0 := by omega
    obtain rfl : k = 0 := by omega
    exact .inl ⟨by simp, rfl⟩
  · cases hv
    refine .inr ?_
    by_cases hc : c = k
    · subst hc
      obtain rfl : m = c := by omega
      rw [if_pos rfl]
      exact ⟨g, off, m - m, by simp, h1, h2, Nat.le_refl _, by omega, fun j u hu => by simp at hu, fun j hj => by simp at hj⟩
    · rw [if_neg hc]
      refine ⟨g, off + k * size, c - k, by simp [Addr.add_lit], h1, h2, by omega, by omega, fun j u hu => ?_, fun j hj => ?_⟩
      · rw [List.getElem?_take] at hu
        split at hu
        · rw [List.getElem?_drop] at hu; have := h5 _ u hu; rwa [← Nat.add_assoc] at this
        · cases hu
      · have := h6 (k * size + j) (by rw [Nat.sub_mul] at hj; have := Nat.mul_le_mul_right size (show k ≤ c by omega); omega)
        rwa [← Nat.add_assoc] at this
/-- An element's cell, and that it may be written. -/
theorem Ow.at_ {A : Option Addr} {c : Nat} (h : Ow w base size (.slice A n c) n xs) {j : Nat} (hj : j < n * size) :
    ∃ g off, A = some ⟨g, off, none⟩ ∧ base ≤ g ∧ g < w.heap.size ∧ w.cell? ⟨g, off + j, none⟩ = xs[j]? ∧ w.frozen? ⟨g, off + j, none⟩ = false := by
  rcases h.2 with ⟨_, rfl⟩ | ⟨g, off, cap, hv, h1, h2, h3, h4, h5, h6⟩
  · simp at hj
  · cases hv
    have hjx : j < xs.length := by rw [h.1]; exact hj
    exact ⟨g, off, rfl, h1, h2, by rw [List.getElem?_eq_getElem hjx]; exact h5 j _ (List.getElem?_eq_getElem hjx), (h6 j (Nat.lt_of_lt_of_le hj (Nat.mul_le_mul_right _ h3))).2⟩
/-- A store into an element. -/
theorem Ow.store {g off c : Nat} (h : Ow w base size (.slice (some ⟨g, off, none⟩) n c) n xs) {j : Nat} (hj : j < n * size) (u : Value) :
    Ow (w.setCell ⟨g, off + j, none⟩ u) base size (.slice (some ⟨g, off, none⟩) n c) n (xs.set j u) := by
  refine ⟨by rw [List.length_set]; exact h.1, ?_⟩
  rcases h.2 with ⟨hv, _⟩ | ⟨g', off', cap, hv, h1, h2, h3, h4, h5, h6⟩
  · cases hv
  · cases hv
    refine .inr ⟨g, off, c, rfl, h1, by simpa [World.setCell] using h2, h3, h4, fun i x hx => ?_, fun i hi => ?_⟩
    · by_cases hij : j = i
      · subst hij
        have hjx : j < xs.length := by rw [h.1]; exact hj
        rw [List.getElem?_set_self hjx] at hx
        cases hx
        have := (h6 j (Nat.lt_of_lt_of_le hj (Nat.mul_le_mul_right _ h3))).1
        exact World.cell?_setCell_same' w _ _ this
      · rw [List.getElem?_set_ne hij] at hx
        rw [World.cell?_setCell_other w _ _ _ (by intro e; have := congrArg Addr.off e; simp at this; omega)]
        exact h5 i x hx
    · have h7 := h6 i hi
      constructor
      · by_cases hij : j = i
        · subst hij
          rw [World.cell?_setCell_same' w _ _ h7.1]; rfl
        · rw [World.cell?_setCell_other w _ _ _ (by intro e; have := congrArg Addr.off e; simp at this; omega)]
          exact h7.1
      · have := h7.2
        unfold World.frozen? at this ⊢
        simp only [World.setCell, Array.getElem?_modify] at this ⊢
        split at this <;> simp_all
theorem Ow.store_far (h : Ow w base size v n xs) {a : Addr} (ha : v.ownBlock ≠ some a.block) (u : Value) : Ow (w.setCell a u) base size v n xs :=
  h.kept (row := some a.block) ⟨rfl, rfl, rfl, by simp [World.setCell], fun k _ hne => Below.heap_setCell _ _ _ _ (by simpa using hne)⟩ (.inr ha)
end

section
variable {P : Program}
theorem run_append_ow (w : World) (t ty : TypeId)
    (base : Nat) (e : TypeId) (i : TypeInfo) (z : Value) (size bytes : Nat) (ht : P.underlying t = some (.slice e)) (hi : P.info? e = some i) (hz : i.zero = some z)
    (hsize : i.size = size) (hby : i.bytes = bytes) (hzs : z.cells.size = size) (hsz : 0 < size)
    (v : Value) (n : Nat) (xs : List Value) (B : Nat) (A : Option Addr) (m c : Nat) (news : List Value)
    (hown : Ow w base size v n xs) (hr : Rd w B size A m news) (h1 : ∀ u ∈ news, u.oneCell' = true)
    (h63 : n + m ≤ maxLen) (hbytes : (n + m) * bytes ≤ 140737488355328) (hbase : base ≤ w.heap.size) :
    ∃ v' w', (Builtin.append_ #[t, t] ty #[v, .slice A m c]).run P w = .ok v' w' ∧ Ow w' base size v' (n + m) (xs ++ news) ∧ w.grownBy w' v.ownBlock ∧ (v'.ownBlock = v.ownBlock ∨ ∀ g, v'.ownBlock = some g → w.heap.size ≤ g) := by
  have hcells : ∀ ad, A = some ad → ∀ j u, news[j]? = some u → w.cell? (ad.add j) = some u := by
    intro ad hA j u hu
    rcases Nat.eq_zero_or_pos m with h0 | h0
    · have hn : news = [] := List.eq_nil_of_length_eq_zero (by rw [hr.1, h0]; simp)
      subst hn
      simp at hu
    · obtain ⟨ad', h, _, hc⟩ := hr.at_ h0
      rw [h] at hA; cases hA
      exact hc j u hu
  rcases hown.2 with ⟨rfl, rfl⟩ | ⟨g, off, cap, rfl, hg1, hg2, hg3, hg4, hg5, hg6⟩
  · have hx : xs = [] := List.eq_nil_of_length_eq_zero (by simpa using hown.1)
    subst hx
    obtain ⟨v', w', h2, h3, h4⟩ := run_append_rd (P := P) w t ty base e i z size bytes ht hi hz hsize hby hzs hsz (.slice none 0 0) 0 [] B A m c news (World.ownsRow_nil w _ e size) hr h1 h63 hbytes hbase
    obtain ⟨v'', w'', k2, k3, k4⟩ := run_append_rd (P := P) w t ty w.heap.size e i z size bytes ht hi hz hsize hby hzs hsz (.slice none 0 0) 0 [] B A m c news (World.ownsRow_nil w _ e size) hr h1 h63 hbytes (Nat.le_refl _)
    rw [h2] at k2; cases k2
    exact ⟨v', w', h2, Ow.of_row h3, h4, .inr fun g hg => (k3.lt g hg).1⟩
  · rcases A with _ | ad
    · obtain rfl : m = 0 := by
        rcases hr.2 with h0 | ⟨_, h0, _⟩
        · exact h0
        · cases h0
      have hn : news = [] := List.eq_nil_of_length_eq_zero (by simpa using hr.1)
      subst hn
      refine ⟨_, w, ?_, by simpa using hown, World.grownBy.refl w _, .inl rfl⟩
      simp [Builtin.append_, run_underlying ht, sizeOf, typeInfo, hi, Builtin.lenOf, Builtin.firstCells, hg3, storeCells]
    · by_cases hroom : n + m ≤ cap
      · subst hsize
        have hlen : n * i.size + news.length ≤ cap * i.size := by rw [hr.1, ← Nat.add_mul]; exact Nat.mul_le_mul_right _ hroom
        have h6 : ∀ j, j < news.length → (w.cell? ⟨g, off + n * i.size + j, none⟩).isSome = true ∧ w.frozen? ⟨g, off + n * i.size + j, none⟩ = false := fun j hj => by
          have := hg6 (n * i.size + j) (by omega)
          rwa [← Nat.add_assoc] at this
        have hrun := run_append_room_cells (P := P) w t ty e i ht hi g off n cap ad m c news hr.1 (hcells ad rfl) h1 hroom (fun j hj => (h6 j hj).1) (fun j hj => (h6 j hj).2)
        refine ⟨_, _, hrun, ⟨by rw [List.length_append, hown.1, hr.1, Nat.add_mul], .inr ⟨g, off, cap, rfl, hg1, by rw [size_setCells]; exact hg2, hroom, hg4, fun j u hu => ?_, fun j hj => ?_⟩⟩, grown_setCells g _ _ w, .inl rfl⟩
        · rw [List.getElem?_append] at hu
          split at hu
          · rename_i hjx
            rw [World.cell?_setCells_out g news _ w _ (fun _ _ => .inl (by rw [hown.1] at hjx; simp; omega))]
            exact hg5 j u hu
          · rename_i hjx
            have hjl := (List.getElem?_eq_some_iff.1 hu).1
            have := World.cell?_setCells_in g news (off + n * i.size) w (fun j hj => (h6 j hj).1) (j - xs.length) hjl
            rw [← List.getElem?_eq_getElem hjl, hu, hown.1] at this
            rw [hown.1] at hjx
            rwa [show off + j = off + n * i.size + (j - n * i.size) by omega]
        · have h7 := hg6 j hj
          refine ⟨?_, by rw [World.frozen?_setCells]; exact h7.2⟩
          by_cases hin : n * i.size ≤ j ∧ j < n * i.size + news.length
          · have := World.cell?_setCells_in g news (off + n * i.size) w (fun j hj => (h6 j hj).1) (j - n * i.size) (by omega)
            rw [show off + j = off + n * i.size + (j - n * i.size) by omega, this]; rfl
          · rw [World.cell?_setCells_out g news _ w _ (fun _ _ => by simp; omega)]
            exact h7.1
      · obtain ⟨v', w', hrun, r1, r2⟩ := run_append_arg_grows (P := P) w t ty e i z size bytes ht hi hz hsize hby hzs hsz ⟨g, off, none⟩ n cap xs hown.1 (fun j u hu => by rw [Addr.add_lit]; exact hg5 j u hu) ad m c news hr.1 (hcells ad rfl) (by omega) h63 hbytes
        refine ⟨v', w', hrun, Ow.of_row (own_base r1 hbase), ⟨r2.os, r2.tape, r2.output, r2.size, fun k hk _ => r2.block k hk (by simp)⟩, .inr fun g hg => (r1.lt g hg).1⟩

/-- 'out = append(out, src...)' in a plain region. -/
theorem wpl_append_ow (w : World) {ops : Array Oper} {rest : List Oper} {o : Oper} {a : Act} {Q : Exit → Act → World → Prop}
    (hgd : o.guard = none) (s x : Operand) (t : TypeId) (hop : o.op = Op.call { callee := Callee.builtin Builtin.append, args := #[s, x], argTypes := #[t, t] })
    (base : Nat) (e : TypeId) (i : TypeInfo) (z : Value) (size bytes : Nat) (ht : P.underlying t = some (.slice e)) (hi : P.info? e = some i) (hz : i.zero = some z)
    (hsize : i.size = size) (hby : i.bytes = bytes) (hzs : z.cells.size = size) (hsz : 0 < size)
    (v : Value) (n : Nat) (xs : List Value) (hs : a.eval s = v) (B : Nat) (A : Option Addr) (m c : Nat) (news : List Value) (hx : a.eval x = .slice A m c)
    (hown : Ow w base size v n xs) (hr : Rd w B size A m news) (h1 : ∀ u ∈ news, u.oneCell' = true)
    (h63 : n + m ≤ maxLen) (hbytes : (n + m) * bytes ≤ 140737488355328) (hbase : base ≤ w.heap.size)
    (hK : ∀ v' w', Ow w' base size v' (n + m) (xs ++ news) → Below base w w' → w.grownBy w' v.ownBlock → (v'.ownBlock = v.ownBlock ∨ ∀ g, v'.ownBlock = some g → w.heap.size ≤ g) → wpList P ops Q rest (a.put o.dst v') w') :
    wpList P ops Q (o :: rest) a w := by
  refine wpList_plain hgd fun K hK' => ?_
  obtain ⟨v', w', hrun, h2, h3, h4⟩ := run_append_ow (P := P) w t o.type base e i z size bytes ht hi hz hsize hby hzs hsz v n xs B A m c news hown hr h1 h63 hbytes hbase
  unfold Oper.wp
  simp [execOp, hop, resolve, invoke, builtin, hs, hx, hrun, Result.andThen]
  exact hK' _ _ (hK v' w' h2 ((Below.refl _ _).grown h3 hbase (fun k hk => (hown.lt k hk).1)) h3 h4)
end
/-- What '[]byte(s)' lays. -/
theorem ow_of_string (w : World) (e : TypeId) (s : ByteArray) (c : Nat) (hc : s.size ≤ c) (hm : c ≤ maxLen) :
    Ow (w.drew.alloc (.cells (bytesRow s c) e ((bytesRow s c).size, (bytesRow s c).size + 1))) w.heap.size 1 (.slice (some ⟨w.heap.size, 0, none⟩) s.size c) s.size (s.data.toList.map fun b => .int .u8 b.toNat) := by
  have hsz : (bytesRow s c).size = c := by
    simp only [bytesRow, Array.size_append, Array.size_map, Array.size_replicate]
    have : s.data.size = s.size := rfl
    omega
  have hb : (w.drew.alloc (.cells (bytesRow s c) e ((bytesRow s c).size, (bytesRow s c).size + 1))).heap[w.heap.size]? = some (.cells (bytesRow s c) e ((bytesRow s c).size, (bytesRow s c).size + 1)) := heap_alloc_new w.drew _
  refine ⟨by rw [List.length_map, ← size_of, Nat.mul_one], .inr ⟨w.heap.size, 0, c, rfl, Nat.le_refl _, lt_of_block hb, hc, hm, fun j u hu => ?_, fun j hj => ?_⟩⟩
  · rw [cell_of_row _ w.heap.size _ _ _ _ hb]
    have hj : j < s.data.toList.length := by
      have := (List.getElem?_eq_some_iff.1 hu).1
      simpa using this
    have hj' : j < s.data.size := by simpa using hj
    simp only [Nat.zero_add, bytesRow]
    rw [Array.getElem?_append_left (by simpa using hj')]
    simpa using hu
  · rw [cell_of_row _ w.heap.size _ _ _ _ hb]
    refine ⟨by simp only [Nat.zero_add, Array.getElem?_eq_some_iff, Option.isSome_iff_exists]; exact ⟨_, by rw [hsz]; omega, rfl⟩, ?_⟩
    simp only [World.frozen?, hb, Nat.zero_add]
    rw [hsz]
    simp
    omega
/-- 'string(b)' of a slice that reads as bytes. -/
theorem run_string_of {P : Program} (src dst e : TypeId) (hs : P.underlying src = some (.slice e)) (he : P.underlying e = some (.int .u8)) (hd : P.underlying dst = some .string)
    (w : World) (B n c : Nat) (A : Option Addr) (l : List UInt8) (h : Rd w B 1 A n (l.map fun b => .int .u8 b.toNat)) : (convert src dst (.slice A n c)).run P w = .ok (.string ⟨l.toArray⟩) w := by
  have hl : l.length = n := by have := h.1; simpa using this
  subst hl
  rcases A with _ | a
  · have h0 : l.length = 0 := by
      rcases h.2 with h0 | ⟨_, h0, _⟩
      · exact h0
      · cases h0
    have hn : l = [] := List.eq_nil_of_length_eq_zero h0
    subst hn
    rw [run_convert_bytes_string w src dst e none _ _ hs he hd]
    simp [Conv.bytesToString]
    rfl
  · refine run_convert_bytes_back w src dst e a c l hs he hd (fun j hj => ?_)
    obtain ⟨a', e, _, hc⟩ := h.at_ hj
    cases e
    exact hc j _ (by simp [hj])
end Go.Proofs.YtbplnglmjcmfiaaGreatDoor

/- One element appended to a slice of the call's own, beside another row of the call's own that is read. -/
namespace Go.Proofs.YtbplnglmjcmfiaaGreatDoor
open Go.RowKit

section
variable {P : Program}
theorem wpl_push_ow {w : World} {cs : Array Value} {e : TypeId} {ops : Array Oper} {rest : List Oper} {o : Oper} {a : Act} {Q : Exit → Act → World → Prop}
    (hgd : o.guard = none) (s x : Operand) (t : TypeId) (hop : o.op = Op.call { callee := Callee.builtin Builtin.append, args := #[s, x], argTypes := #[t, t] })
    (base : Nat) (i : TypeInfo) (z : Value) (size bytes : Nat) (ht : P.underlying t = some (.slice e)) (hi : P.info? e = some i) (hz : i.zero = some z)
    (hsize : i.size = size) (hby : i.bytes = bytes) (hzs : z.cells.size = size) (hsz : 0 < size)
    (v : Value) (n : Nat) (xs : List Value) (hs : a.eval s = v) (c : Nat) (hx : a.eval x = .slice (some ⟨w.heap.size, 0, none⟩) 1 c)
    (hown : Ow w base size v n xs) (hcs : cs.size = size) (h1 : ∀ u ∈ cs.toList, u.oneCell' = true)
    (h63 : n + 1 ≤ maxLen) (hbytes : (n + 1) * bytes ≤ 140737488355328) (hbase : base ≤ w.heap.size)
    (hK : ∀ v' w', Ow w' base size v' (n + 1) (xs ++ cs.toList) → Below base w w' → w.grownBy w' v.ownBlock → (v'.ownBlock = v.ownBlock ∨ ∀ g, v'.ownBlock = some g → w.heap.size ≤ g) → wpList P ops Q rest (a.put o.dst v') w') :
    wpList P ops Q (o :: rest) a (w.alloc (.cells cs e)) := by
  have hg1 : w.grownBy (w.alloc (.cells cs e)) v.ownBlock := World.grownBy_alloc w _ _
  refine wpl_append_ow (w.alloc (.cells cs e)) hgd s x t hop base e i z size bytes ht hi hz hsize hby hzs hsz v n xs hs (w.heap.size + 1) _ 1 c cs.toList hx (hown.alloc _)
    ⟨by simpa using hcs, .inr ⟨_, rfl, by simp, fun j u hu => ?_⟩⟩ h1 h63 hbytes (by simp; omega) (fun v' w' h2 h3 h4 h5 => hK v' w' h2 ?_ ?_ ?_)
  · rw [Addr.add_lit, cell_of_row _ w.heap.size _ cs e (0, 0) (heap_alloc_new w _)]
    simpa using hu
  · exact ((Below.refl _ _).alloc hbase _).trans h3
  · exact ⟨h4.os.trans hg1.os, h4.tape.trans hg1.tape, h4.output.trans hg1.output, Nat.le_trans hg1.size h4.size, fun k hk hne => (h4.block k (Nat.lt_of_lt_of_le hk hg1.size) hne).trans (hg1.block k hk hne)⟩
  · exact h5.imp id fun h g hg => Nat.le_trans hg1.size (h g hg)
end
/-- A row that is read beside one that grows. -/
theorem Rd.grown {w w' : World} {B size n : Nat} {A : Option Addr} {xs : List Value} {row : Option Nat} (h : Rd w B size A n xs) (g : w.grownBy w' row) (hB : B ≤ w.heap.size) (hsep : ∀ a, A = some a → row ≠ some a.block) : Rd w' B size A n xs := by
  refine ⟨h.1, h.2.imp id ?_⟩
  rintro ⟨a, rfl, hb, hc⟩
  refine ⟨a, rfl, hb, fun j u hu => ?_⟩
  have hbk : w'.heap[(a.add j).block]? = w.heap[(a.add j).block]? := by rw [addr_add_block]; exact g.block a.block (by omega) (fun e => hsep a rfl e.symm)
  exact (World.cell?_of_block (a := a.add j) hbk).trans (hc j u hu)
/-- Neither row is the other's block. -/
def Apart (A : Option Addr) (v : Value) : Prop := ∀ a, A = some a → v.ownBlock ≠ some a.block
theorem Apart.step {w : World} {B size n : Nat} {A : Option Addr} {xs : List Value} {v v' : Value} (h : Apart A v) (hr : Rd w B size A n xs) (hn : 0 < n) (hB : B ≤ w.heap.size) (hv : v'.ownBlock = v.ownBlock ∨ ∀ g, v'.ownBlock = some g → w.heap.size ≤ g) : Apart A v' := by
  intro a ha e
  rcases hv with hv | hv
  · rw [hv] at e; exact h a ha e
  · have h1 := hv _ e
    obtain ⟨a', ha', hb, _⟩ := hr.at_ hn
    rw [ha] at ha'; cases ha'
    omega
end Go.Proofs.YtbplnglmjcmfiaaGreatDoor
