/- frame.number and the reference's length: a text as a length. -/
import Derived.Test.YtbgbggodjhbgbaaDoorTrim
import Derived.Test.YtbgbggodjhbgbaaDoorGets
import Derived.Test.YtbgbggodjhbgbaaDoorTexts
import Derived.Test.YtbgbggodjhbgbaaDoorAlloc
namespace Go.Proofs.YtbgbggodjhbgbaaDoor
open Go.RowKit

/-- The ten digits. -/
def digs : List UInt8 := [48, 49, 50, 51, 52, 53, 54, 55, 56, 57]
def digB (c : UInt8) : Bool := digs.contains c
theorem digB_iff (c : UInt8) : digB c = true ↔ 48 ≤ c.toNat ∧ c.toNat ≤ 57 := by
  have h : ∀ n, n < 256 → digs.contains (UInt8.ofNat n) = decide (48 ≤ n ∧ n ≤ 57) := by decide +kernel
  have := h c.toNat c.toNat_lt
  rw [UInt8.ofNat_toNat] at this
  unfold digB
  rw [this]; simp
/-- What digits say. -/
def decV (l : List UInt8) : Nat := l.foldl (fun n c => 10 * n + (c.toNat - 48)) 0
theorem decV_snoc (l : List UInt8) (c : UInt8) : decV (l ++ [c]) = 10 * decV l + (c.toNat - 48) := by unfold decV; rw [List.foldl_append]; rfl
theorem decV_take (l : List UInt8) (k : Nat) (h : k < l.length) : decV (l.take (k + 1)) = 10 * decV (l.take k) + (l[k].toNat - 48) := by rw [list_take_snoc l k h, decV_snoc]
theorem decV_lt (l : List UInt8) (h : l.all digB = true) : ∀ k, k ≤ l.length → decV (l.take k) < 10 ^ k
  | 0, _ => by simp [decV]
  | k + 1, hk => by
    have ih := decV_lt l h k (by omega)
    have h2 : digB l[k] = true := List.all_eq_true.1 h _ (List.getElem_mem (by omega))
    rw [digB_iff] at h2
    rw [decV_take l k (by omega), Nat.pow_succ]
    omega
theorem dw_nil (p : UInt8 → Bool) : ∀ l : List UInt8, l.dropWhile p = [] ↔ ∀ x ∈ l, p x = true
  | [] => by simp
  | a :: l => by
    rw [List.dropWhile_cons]
    by_cases h : p a = true
    · rw [if_pos h, dw_nil p l]; simp [h]
    · rw [if_neg h]; simp [h]
/-- A text as a length: its number, and whether it is one. -/
def numL (l : List UInt8) : Nat × Bool := if 1 ≤ l.length ∧ l.length ≤ 15 ∧ l.all digB = true then (decV l, decide (decV l ≤ 1099511627776)) else (0, false)
theorem trim_nil (l : List UInt8) : Lib.trimS l digs = [] ↔ l.all digB = true := by
  constructor
  · intro h
    have h1 : (Lib.trimRightS l digs) = [] := by
      rcases hr : Lib.trimRightS l digs with _ | ⟨a, r⟩
      · rfl
      · exfalso
        have h2 : (l.reverse.dropWhile digB) = (a :: r).reverse := by
          have : (l.reverse.dropWhile digB).reverse = a :: r := hr
          rw [← this, List.reverse_reverse]
        have h3 : (a :: r).dropWhile digB = [] := by
          have : Lib.trimLeftS (Lib.trimRightS l digs) digs = [] := h
          rw [hr] at this; exact this
        have h4 : ∀ x ∈ (a :: r), digB x = true := by
          intro x hx
          have := (dw_nil digB _).1 h3 x hx
          exact this
        rcases hd : (a :: r).reverse with _ | ⟨b, t⟩
        · simp at hd
        · rw [hd] at h2
          have hb : digB b = true := h4 b (by rw [← List.mem_reverse, hd]; simp)
          have := List.head?_dropWhile_not digB l.reverse
          rw [h2] at this
          simp [hb] at this
    have h2 : l.reverse.dropWhile digB = [] := by
      have : (l.reverse.dropWhile digB).reverse = [] := h1
      simpa using this
    rw [List.all_eq_true]
    intro x hx
    exact (dw_nil digB _).1 h2 x (by simpa using hx)
  · intro h
    have h2 : l.reverse.dropWhile digB = [] := (dw_nil digB _).2 fun x hx => List.all_eq_true.1 h x (by simpa using hx)
    show Lib.trimLeftS ((l.reverse.dropWhile digB).reverse) digs = []
    rw [h2]; rfl
theorem decV_small (l : List UInt8) (k : Nat) (h : l.all digB = true) (hk : k ≤ l.length) (hl : l.length ≤ 15) : decV (l.take k) < 1000000000000000 := by
  have h2 := decV_lt l h k hk
  have h3 : 10 ^ k ≤ 10 ^ 15 := Nat.pow_le_pow_right (by decide) (by omega)
  omega
theorem digs_list : (⟨#[48, 49, 50, 51, 52, 53, 54, 55, 56, 57]⟩ : ByteArray).data.toList = digs := rfl

end Go.Proofs.YtbgbggodjhbgbaaDoor

/- frame.told and the reference's framing: how a body's end is told. -/
namespace Go.Proofs.YtbgbggodjhbgbaaDoor
open Go.RowKit

def nameTE : List UInt8 := [116, 114, 97, 110, 115, 102, 101, 114, 45, 101, 110, 99, 111, 100, 105, 110, 103]
def nameCL : List UInt8 := [99, 111, 110, 116, 101, 110, 116, 45, 108, 101, 110, 103, 116, 104]
def chunkedL : List UInt8 := [99, 104, 117, 110, 107, 101, 100]
/-- Of the values of two names: kind, length, error. -/
def toldL (T L : List (List UInt8)) (minor : Int) (o : Nat) : Nat × Nat × Nat :=
  if 0 < T.length then (if T.length = 1 ∧ sameL (T.headD []) chunkedL = true ∧ minor ≠ 0 ∧ L.length = 0 then (2, 0, 0) else (0, 0, 2))
  else if 0 < L.length then (if L.length = 1 ∧ (numL (L.headD [])).2 = true then (1, (numL (L.headD [])).1, 0) else (0, 0, 2)) else (o, 0, 0)
/-- What is told: the result's value. -/
def frV (t : Nat × Nat × Nat) : Value := .tuple #[.agg #[.int .i64 t.1, .int .i64 t.2.1], .int .i64 t.2.2]
theorem lowL_idem (l : List UInt8) : lowL (lowL l) = lowL l := by
  unfold lowL; rw [List.map_map]
  refine List.map_congr_left fun c _ => ?_
  by_cases h : 65 ≤ c.toNat ∧ c.toNat ≤ 90
  · have h1 := lowB_hit c h
    exact lowB_miss _ (by omega)
  · have h1 : lowB c = c := lowB_miss c h
    show lowB (lowB c) = lowB c
    rw [h1, h1]
theorem getL_low (fs : List (List UInt8 × List UInt8)) (name : List UInt8) : getL fs (lowL name) = getL fs name := by
  have h1 : ∀ x : List UInt8, sameL x (lowL name) = sameL x name := fun x => by unfold sameL; rw [lowL_idem]
  unfold getL
  simp only [h1]
theorem head_of {T : List (List UInt8)} (h : 0 < T.length) : T[0] = T.headD [] := by cases T with | nil => simp at h | cons a l => rfl

theorem new_free {w w2 : World} {cs : Array Value} {t : TypeId} {n i : Nat} (h : Below n (w.alloc (.cells cs t)) w2) (hn : n = w.heap.size + 1) : w2.frozen? ⟨w.heap.size, i, none⟩ = false := by
  rw [World.frozen?_of_block (a := ⟨w.heap.size, i, none⟩) (h.block w.heap.size (by omega))]
  unfold World.frozen?
  rw [heap_alloc_new]
  simp

end Go.Proofs.YtbgbggodjhbgbaaDoor

/- frame.OfRequest, OfResponse, Empty and the reference's; concertinalaw19.answers. -/
namespace Go.Proofs.YtbgbggodjhbgbaaDoor
open Go.RowKit

def frOf (fs : List (List UInt8 × List UInt8)) (minor : Int) (o : Nat) : Nat × Nat × Nat := toldL (getL fs nameTE) (getL fs nameCL) minor o
theorem World.free_below {B : Nat} {w w' : World} (b : Below B w w') {a : Addr} (ha : a.block < B) : w'.frozen? a = w.frozen? a := World.frozen?_of_block (b.block a.block ha)

theorem new2_kept {w w2 : World} {o1 : Obj} {cs : Array Value} {t : TypeId} {n i : Nat} {v : Value} (h : Below n ((w.alloc o1).alloc (.cells cs t)) w2) (hn : n = w.heap.size + 2) (hi : cs[i]? = some v) : w2.cell? ⟨w.heap.size + 1, i, none⟩ = some v := by
  have hs : (w.alloc o1).heap.size = w.heap.size + 1 := by simp
  have := new_kept (w := w.alloc o1) h (by rw [hs]; exact hn) hi
  rwa [hs] at this
theorem new2_free {w w2 : World} {o1 : Obj} {cs : Array Value} {t : TypeId} {n i : Nat} (h : Below n ((w.alloc o1).alloc (.cells cs t)) w2) (hn : n = w.heap.size + 2) : w2.frozen? ⟨w.heap.size + 1, i, none⟩ = false := by
  have hs : (w.alloc o1).heap.size = w.heap.size + 1 := by simp
  have := new_free (w := w.alloc o1) (i := i) h (by rw [hs]; exact hn)
  rwa [hs] at this
theorem below_alloc2 (w : World) (o1 o2 : Obj) : Below w.heap.size w ((w.alloc o1).alloc o2) := ((Below.refl _ w).alloc (Nat.le_refl _) o1).alloc (by simp) o2
theorem old2 {w w2 : World} {o1 o2 : Obj} {n : Nat} {a : Addr} {v : Value} (h : Below n ((w.alloc o1).alloc o2) w2) (hn : n = w.heap.size + 2) (ha : a.block < w.heap.size) (hc : w.cell? a = some v) : w2.cell? a = some v := by
  rw [h.cell (p := a) (by omega), (below_alloc2 w o1 o2).cell ha]; exact hc

/-- Has a response to a method never a body? -/
def emptyB (m : ByteArray) (status : Int) : Bool := (m.toList == [72, 69, 65, 68]) || decide (status < 200) || status == 204 || status == 304
def frResp (m : ByteArray) (fs : List (List UInt8 × List UInt8)) (minor status : Int) : Nat × Nat × Nat := if emptyB m status then (0, 0, 0) else frOf fs minor 3
end Go.Proofs.YtbgbggodjhbgbaaDoor

/- concertinalaw19.answers returns true. -/
namespace Go.Proofs.YtbgbggodjhbgbaaDoor
open Go.RowKit

theorem frOf_one (nm v : List UInt8) (minor : Int) (o : Nat) (h1 : sameL nm nameTE = false) (h2 : sameL nm nameCL = true) : frOf [(nm, v)] minor o = if (numL v).2 = true then (1, (numL v).1, 0) else (0, 0, 2) := by
  unfold frOf getL
  simp [h1, h2, toldL]
theorem num_5 : numL [53] = (5, true) := by decide
theorem nm_1 : sameL nameCL nameTE = false := by decide
theorem nm_2 : sameL nameCL nameCL = true := by decide
theorem fr_ans : frOf [(nameCL, [53])] 1 0 = (1, 5, 0) := by rw [frOf_one _ _ _ _ nm_1 nm_2, num_5]; rfl
end Go.Proofs.YtbgbggodjhbgbaaDoor
