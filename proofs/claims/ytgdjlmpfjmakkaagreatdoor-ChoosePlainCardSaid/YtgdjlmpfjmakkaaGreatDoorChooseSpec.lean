/- Chapter 22's answers as plain lists: which coding is sent. -/
import Derived.Test.YtgdjlmpfjmakkaaGreatDoorPolicySpec
import Derived.Test.YtgdjlmpfjmakkaaGreatDoorCoding
import Derived.Test.YtgdjlmpfjmakkaaGreatDoorQ
namespace Go.Proofs.YtgdjlmpfjmakkaaGreatDoor

/-- A coding's name; other codings have none. -/
def kindL : Nat → List UInt8
  | 0 => [105, 100, 101, 110, 116, 105, 116, 121]
  | 1 => [103, 122, 105, 112]
  | 2 => [100, 101, 102, 108, 97, 116, 101]
  | _ => []
def wtL (vs : List (List UInt8)) (k : Nat) : Nat := qL vs (kindL k)
def bestS (w : Nat → Nat) (s : Nat × Nat) (k : Nat) : Nat × Nat := if s.2 < w k then (k, w k) else s
def bestF (w : Nat → Nat) (ks : List Nat) : Nat × Nat := ks.foldl (bestS w) (0, 0)
theorem bestF_snoc (w : Nat → Nat) (ks : List Nat) (k : Nat) (h : k < ks.length) : bestF w (ks.take (k + 1)) = bestS w (bestF w (ks.take k)) ks[k] := by
  unfold bestF
  rw [list_take_snoc ks k h, List.foldl_append]; rfl
def bestL (w : Nat → Nat) (ks : List Nat) : Nat × Bool := ((bestF w ks).1, decide (0 < (bestF w ks).2))
def firstK (w : Nat → Nat) : List Nat → Nat × Bool
  | [] => (0, false)
  | k :: ks => if 0 < w k then (k, true) else firstK w ks
theorem firstK_none {w : Nat → Nat} : ∀ {ks : List Nat}, (∀ k ∈ ks, ¬ 0 < w k) → firstK w ks = (0, false)
  | [], _ => rfl
  | k :: ks, h => by rw [firstK, if_neg (h k (by simp))]; exact firstK_none fun x hx => h x (by simp [hx])
theorem firstK_at {w : Nat → Nat} : ∀ (ks : List Nat) (j : Nat) (hj : j < ks.length), (∀ k ∈ ks.take j, ¬ 0 < w k) → 0 < w ks[j] → firstK w ks = (ks[j], true)
  | k :: ks, 0, _, _, h => by rw [firstK, if_pos (show 0 < w k from h)]; rfl
  | k :: ks, j + 1, hj, hn, h => by
    rw [firstK, if_neg (hn k (by simp))]
    exact firstK_at ks j (by simpa using hj) (fun x hx => hn x (by simp [hx])) h
def xgzL : List UInt8 := [120, 45, 103, 122, 105, 112]
/-- A coding's name, as weights are told for it: x-gzip is gzip. -/
def xnameL (s : List UInt8) : List UInt8 := if lowL s = xgzL then kindL 1 else lowL s
def otherB (vs : List (List UInt8)) (s : List UInt8) : Bool := decide (qL vs (xnameL s) ≠ 0)
def othersL (vs : List (List UInt8)) (ms : List (List UInt8)) : Bool := ms.all (otherB vs)
theorem others_snoc (p : List UInt8 → Bool) (ms : List (List UInt8)) (k : Nat) (h : k < ms.length) : (ms.take (k + 1)).all p = ((ms.take k).all p && p ms[k]) := by
  rw [list_take_snoc ms k h, List.all_append]; simp
theorem others_of (p : List UInt8 → Bool) (ms : List (List UInt8)) (k : Nat) (h : k < ms.length) (hp : p ms[k] = false) : ms.all p = false := by
  rcases he : ms.all p with _ | _
  · rfl
  · have := List.all_eq_true.1 he _ (List.getElem_mem h)
    rw [hp] at this; cases this
def toL (w : Nat → Nat) (oth el : Bool) (f : Nat) : Nat × Bool :=
  if f = 3 then (3, oth) else if el = true then bestL w [1, 2, 0] else if f = 0 then (if 0 < w 0 then (0, true) else bestL w [1, 2]) else firstK w [f, 0, 3 - f]
/-- pass, from, to, and whether anything may be sent. -/
def planL (ke : Bool) (f : Nat) (t : Nat × Bool) : (Bool × Nat × Nat) × Bool :=
  if ke = true then ((true, f, f), true) else if t.2 = true then ((decide (f = t.1), f, t.1), true) else ((false, 0, 0), false)
theorem codingL_le (l : List (List UInt8)) : codingL l ≤ 3 := by
  unfold codingL
  split
  · omega
  · split
    · omega
    · split
      · omega
      · split <;> omega
  · omega
theorem bestF_mem (w : Nat → Nat) (P : Nat → Prop) (h0 : P 0) : ∀ (ks : List Nat) (s : Nat × Nat), P s.1 → (∀ k ∈ ks, P k) → P (ks.foldl (bestS w) s).1
  | [], s, h, _ => h
  | k :: ks, s, h, hk => by
    rw [List.foldl_cons]
    refine bestF_mem w P h0 ks _ ?_ (fun x hx => hk x (by simp [hx]))
    unfold bestS; split
    · exact hk k (by simp)
    · exact h
theorem toL_le (w : Nat → Nat) (oth el : Bool) (f : Nat) (h : f ≤ 3) : (toL w oth el f).1 ≤ 3 := by
  unfold toL
  split
  · exact Nat.le_refl _
  · split
    · exact bestF_mem w (· ≤ 3) (by decide) [1, 2, 0] (0, 0) (by decide) (by decide)
    · split
      · split
        · decide
        · exact bestF_mem w (· ≤ 3) (by decide) [1, 2] (0, 0) (by decide) (by decide)
      · unfold firstK
        split
        · exact h
        · unfold firstK
          split
          · decide
          · unfold firstK
            split
            · show 3 - f ≤ 3; omega
            · exact Nat.zero_le 3
end Go.Proofs.YtgdjlmpfjmakkaaGreatDoor
