/- chunk.Decoder as plain lists. No program here, but the digits'. -/
import Derived.Test.YtdpcncpfbaigeaaDoorPhex
import Derived.Test.YtdpcncpfbaigeaaDoorHeadSpec
namespace Go.Proofs.YtdpcncpfbaigeaaDoor
open Go.RowKit

def extB (c : UInt8) : Bool := c == 59 || (c == 32 || c == 9)
def sizeK (s : List UInt8) : Nat := (s.takeWhile hexB).length
def sizeR (s : List UInt8) : List UInt8 := s.drop (sizeK s)
def sizeN (s : List UInt8) : Nat := hexN (s.take (sizeK s))
def extOk : List UInt8 → Bool
  | [] => true
  | c :: _ => extB c
def sizeOk (s : List UInt8) : Bool := extOk (sizeR s) && (decide (1 ≤ sizeK s ∧ sizeK s ≤ 12) && (goodValueL ([120] ++ sizeR s ++ [120]) && decide (sizeN s ≤ 1099511627776)))
theorem sizeK_le (s : List UInt8) : sizeK s ≤ s.length := (List.takeWhile_prefix hexB).length_le
theorem takeWhile_len (p : UInt8 → Bool) : ∀ l : List UInt8, l.take (l.takeWhile p).length = l.takeWhile p
  | [] => rfl
  | c :: l => by
    rw [List.takeWhile_cons]
    split
    · rw [List.length_cons, List.take_succ_cons, takeWhile_len p l]
    · rfl
theorem takeWhile_all (p : UInt8 → Bool) : ∀ l : List UInt8, ∀ c ∈ l.takeWhile p, p c = true
  | [], c, h => by simp at h
  | d :: l, c, h => by
    rw [List.takeWhile_cons] at h
    split at h
    · rename_i hd
      rcases List.mem_cons.1 h with rfl | h
      · exact hd
      · exact takeWhile_all p l c h
    · simp at h
theorem size_hex (s : List UInt8) : ∀ c ∈ s.take (sizeK s), hexB c = true := by
  unfold sizeK
  rw [takeWhile_len]
  exact takeWhile_all hexB s
theorem sizeK_at {s : List UInt8} {k : Nat} (h : ∀ j (hj : j < s.length), j < k → hexB s[j] = true) (hk : k ≤ s.length) (hend : ∀ hj : k < s.length, hexB s[k] = false) : sizeK s = k := by
  induction s generalizing k with
  | nil => simp at hk; subst hk; rfl
  | cons c s ih =>
    unfold sizeK
    rw [List.takeWhile_cons]
    rcases k with _ | k
    · have := hend (by simp)
      simp only [List.getElem_cons_zero] at this
      rw [this]; rfl
    · have h0 := h 0 (by simp) (by omega)
      simp only [List.getElem_cons_zero] at h0
      rw [h0, if_pos rfl, List.length_cons]
      congr 1
      exact ih (k := k) (fun j hj hjk => by have := h (j + 1) (by simp; omega) (by omega); simpa using this) (by simpa using hk) (fun hj => by have := hend (by simp; omega); simpa using this)
/-! ### Lines -/
def lineIx (l : List UInt8) : Int := Lib.index (l.take 1024) crlfL
def lineE (l : List UInt8) : Nat := if 0 ≤ lineIx l then 0 else if 1024 ≤ l.length then 6 else 5
def lineT (l : List UInt8) : List UInt8 := if 0 ≤ lineIx l then l.take (lineIx l).toNat else []
def lineR (l : List UInt8) : List UInt8 := if 0 ≤ lineIx l then l.drop ((lineIx l).toNat + 2) else l
/-! ### The decoder -/
structure DS where
  inp : List UInt8
  st : Nat
  left : Nat
  fl : Nat
  er : Nat
def beginE (S : DS) : Nat := if lineE S.inp = 0 then (if sizeOk (lineT S.inp) then 0 else 2) else lineE S.inp
def beginS (S : DS) : DS := if lineE S.inp = 0 then (if sizeOk (lineT S.inp) then { S with inp := lineR S.inp, left := sizeN (lineT S.inp), st := if sizeN (lineT S.inp) = 0 then 3 else 1 } else { S with inp := lineR S.inp }) else S
def overE (S : DS) : Nat := if Lib.hasPrefix [13, 10] (S.inp.take 2) then (if S.inp.length < 2 then 5 else 0) else 2
def overS (S : DS) : DS := if overE S = 0 then { S with inp := S.inp.drop 2, st := 0 } else S
def trailE (S : DS) : Nat := if lineE S.inp = 0 then (if lineT S.inp = [] then 8 else if lineOk (lineT S.inp) then (if 64 < S.fl + 1 then 6 else 0) else 2) else lineE S.inp
def trailS (S : DS) : DS := if lineE S.inp = 0 then (if lineT S.inp = [] then { S with inp := lineR S.inp } else if lineOk (lineT S.inp) then { S with inp := lineR S.inp, fl := S.fl + 1 } else { S with inp := lineR S.inp }) else S
def bytesK (S : DS) (n : Int) : Nat := (min n (min S.left S.inp.length)).toNat
def bytesE (S : DS) (n : Int) : Nat := if bytesK S n = 0 then 5 else 0
def bytesS (S : DS) (n : Int) : DS := if bytesK S n = 0 then S else { S with inp := S.inp.drop (bytesK S n), left := S.left - bytesK S n, st := if S.left = bytesK S n then 2 else S.st }
def stepE (S : DS) (n : Int) : Nat := if S.st = 0 then beginE S else if S.st = 1 then bytesE S n else if S.st = 2 then overE S else trailE S
def stepS (S : DS) (n : Int) : DS := if S.st = 0 then beginS S else if S.st = 1 then bytesS S n else if S.st = 2 then overS S else trailS S
def stepO (S : DS) (n : Int) : List UInt8 := if S.st = 1 then S.inp.take (bytesK S n) else []
end Go.Proofs.YtdpcncpfbaigeaaDoor
