/- Chapter 21's answers as plain lists: what is kept, what a body is, whether it is worth it. -/
import Derived.Test.YtgdjlmpfjmakkaaGreatDoorTellSpec
import Derived.Test.YtgdjlmpfjmakkaaGreatDoorCut
import Derived.Lib.Atoi
import Derived.Lib.Strings
namespace Go.Proofs.YtgdjlmpfjmakkaaGreatDoor

def crL : List UInt8 := [99, 111, 110, 116, 101, 110, 116, 45, 114, 97, 110, 103, 101]
def ccL : List UInt8 := [99, 97, 99, 104, 101, 45, 99, 111, 110, 116, 114, 111, 108]
def ntL : List UInt8 := [110, 111, 45, 116, 114, 97, 110, 115, 102, 111, 114, 109]
def ctL : List UInt8 := [99, 111, 110, 116, 101, 110, 116, 45, 116, 121, 112, 101]
theorem getL_same {a b : List UInt8} (h : lowL a = lowL b) (fs : List (List UInt8 × List UInt8)) : getL fs a = getL fs b := by rw [← getL_low fs a, ← getL_low fs b, h]
theorem hasL_same {a b m m' : List UInt8} (h : lowL a = lowL b) (hm : lowL m = lowL m') (fs : List (List UInt8 × List UInt8)) : hasL fs a m = hasL fs b m' := by
  unfold hasL hasV hasM sameL
  rw [getL_same h, hm]
def keptL (status : Int) (fs : List (List UInt8 × List UInt8)) : Bool := decide (status = 206) || (decide (0 < (getL fs crL).length) || hasL fs ccL ntL)
def mediaOf (v : List UInt8) : List UInt8 := lowL (trimL (cutHead 59 v))
def mediaL (fs : List (List UInt8 × List UInt8)) : List UInt8 := match getL fs ctL with
  | [] => []
  | v :: _ => mediaOf v
/-- Is t, ended by a slash, the beginning of m? -/
def dirL (t m : List UInt8) : Bool := Lib.hasSuffix t [47] && Lib.hasPrefix m t
def hitL (m t : List UInt8) : Bool := decide (lowL t = m) || dirL (lowL t) m
def worthL (ts : List (List UInt8)) (m : List UInt8) : Bool := !m.isEmpty && ts.any (hitL m)
theorem any_snoc (p : List UInt8 → Bool) (ts : List (List UInt8)) (k : Nat) (h : k < ts.length) : (ts.take (k + 1)).any p = ((ts.take k).any p || p ts[k]) := by
  rw [list_take_snoc ts k h, List.any_append]; simp
theorem any_of (p : List UInt8 → Bool) (ts : List (List UInt8)) (k : Nat) (h : k < ts.length) (hp : p ts[k] = true) : ts.any p = true := List.any_eq_true.2 ⟨_, List.getElem_mem h, hp⟩
def longV (least : Int) (v : List UInt8) : Bool := if 1 ≤ v.length ∧ v.length ≤ 15 ∧ v.all digB = true then decide (least ≤ (decV v : Int)) else true
def longL (least : Int) (fs : List (List UInt8 × List UInt8)) : Bool := match getL fs nameCL with
  | [] => true
  | v :: _ => longV least v
def statB (s : Int) : Bool := decide (s = 200 ∨ s = 201 ∨ s = 203 ∨ s = 404 ∨ s = 410)
def eligL (least : Int) (ts : List (List UInt8)) (m : List UInt8) (status : Int) (fs : List (List UInt8 × List UInt8)) : Bool :=
  statB status && !keptL status fs && !decide (m = [72, 69, 65, 68]) && decide (codingL (allL fs codeL) = 0) && worthL ts (mediaL fs) && longL least fs
theorem mediaL_len (fs : List (List UInt8 × List UInt8)) (B : Nat) (h : ∀ v ∈ getL fs ctL, v.length ≤ B) : (mediaL fs).length ≤ B := by
  unfold mediaL
  rcases hg : getL fs ctL with _ | ⟨v, l⟩
  · simp
  · have h1 := h v (by rw [hg]; simp)
    show (lowL (trimL (cutHead 59 v))).length ≤ B
    rw [lowL_length]
    have h2 := cutHead_le 59 v
    have h3 : (trimL (cutHead 59 v)).length ≤ (cutHead 59 v).length := by
      show (List.dropWhile blankB ((cutHead 59 v).reverse.dropWhile blankB).reverse).length ≤ _
      have h1 := (List.dropWhile_sublist (l := ((cutHead 59 v).reverse.dropWhile blankB).reverse) blankB).length_le
      have h2 := (List.dropWhile_sublist (l := (cutHead 59 v).reverse) blankB).length_le
      rw [List.length_reverse] at h1 h2
      omega
    omega

theorem decFrom_digits : ∀ (l : List UInt8) (acc : Nat), l.all digB = true → Lib.decFrom acc l = some (l.foldl (fun n c => 10 * n + (c.toNat - 48)) acc)
  | [], acc, _ => rfl
  | b :: r, acc, h => by
    rw [List.all_cons, Bool.and_eq_true] at h
    have hd := (digB_iff b).1 h.1
    have hv : Lib.digitVal b = some (b.toNat - 48) := by unfold Lib.digitVal; rw [if_pos hd]
    unfold Lib.decFrom
    rw [hv, List.foldl_cons]
    show Lib.decFrom (acc * 10 + (b.toNat - 48)) r = _
    rw [decFrom_digits r _ h.2, Nat.mul_comm acc 10]
theorem atoi_digits (l : List UInt8) (h : l.all digB = true) (h1 : 1 ≤ l.length) : Lib.atoi l = some (decV l : Int) := by
  rcases l with _ | ⟨b, r⟩
  · simp at h1
  have hb := h
  rw [List.all_cons, Bool.and_eq_true] at hb
  have hd := (digB_iff b).1 hb.1
  have n45 : ¬ (b == 45) = true := by intro e; rw [beq_iff_eq] at e; subst e; simp at hd
  have n43 : ¬ (b == 43) = true := by intro e; rw [beq_iff_eq] at e; subst e; simp at hd
  show (if (b == 45) = true then _ else _) = _
  rw [if_neg n45, if_neg n43]
  unfold Lib.decNat
  rw [if_neg (by simp), decFrom_digits _ 0 h]
  rfl
theorem dir_slash (t m : List UInt8) (h : 0 < t.length) : dirL t m = (decide (t.drop (t.length - 1) = [47]) && (decide (t.length ≤ m.length) && decide (m.take t.length = t))) := by
  unfold dirL
  rw [← Lib.hasSuffix_of_drop, ← Lib.hasPrefix_of_take]
  rw [Bool.eq_iff_iff]
  simp only [Bool.and_eq_true, decide_eq_true_eq, beq_iff_eq]
  constructor
  · rintro ⟨⟨_, a⟩, b, c⟩; exact ⟨a, b, c⟩
  · rintro ⟨a, b, c⟩; exact ⟨⟨h, a⟩, b, c⟩
theorem dir_nil (m : List UInt8) : dirL [] m = false := rfl
end Go.Proofs.YtgdjlmpfjmakkaaGreatDoor
