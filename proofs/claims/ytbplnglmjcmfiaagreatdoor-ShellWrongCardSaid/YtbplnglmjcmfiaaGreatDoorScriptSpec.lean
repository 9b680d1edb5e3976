/- Chapter 27 in plain lists: words, numbers and bytes as words, lines, and what a line says. No program in this text. -/
import Derived.Lib.SplitLaws
import Derived.Lib.ItoaNum
import Derived.Lib.AtoiAllCases
namespace Go.Proofs.YtbplnglmjcmfiaaGreatDoor.Scr
open Go
set_option linter.unusedVariables false
set_option linter.unusedSimpArgs false

/-! ### Words -/
/-- A line's words: it is cut at each blank. -/
def wordsL : List UInt8 → List (List UInt8)
  | [] => [[]]
  | c :: r => if c = 32 then [] :: wordsL r else match wordsL r with
    | [] => [[c]]
    | w :: ws => (c :: w) :: ws
theorem wordsL_ne (s : List UInt8) : wordsL s ≠ [] := by
  cases s with
  | nil => simp [wordsL]
  | cons c r =>
    unfold wordsL
    split
    · simp
    · split <;> simp
def joinW : List (List UInt8) → List UInt8
  | [] => []
  | [w] => w
  | w :: v :: ws => w ++ 32 :: joinW (v :: ws)
theorem joinW_words (s : List UInt8) : joinW (wordsL s) = s := by
  induction s with
  | nil => rfl
  | cons c r ih =>
    unfold wordsL
    split
    · rename_i h; subst h
      rcases hw : wordsL r with _ | ⟨w, ws⟩
      · exact absurd hw (wordsL_ne r)
      · rw [hw] at ih; simp only [joinW, List.nil_append, ih]
    · rcases hw : wordsL r with _ | ⟨w, ws⟩
      · exact absurd hw (wordsL_ne r)
      · rw [hw] at ih
        cases ws with
        | nil => simp only [joinW] at ih ⊢; rw [ih]
        | cons v ws => simp only [joinW, List.cons_append] at ih ⊢; rw [ih]
theorem wordsL_one {w : List UInt8} (h : (32 : UInt8) ∉ w) : wordsL w = [w] := by
  induction w with
  | nil => rfl
  | cons c r ih =>
    have h1 : ¬ c = 32 := fun e => h (by simp [e])
    have h2 : (32 : UInt8) ∉ r := fun e => h (by simp [e])
    unfold wordsL
    rw [if_neg h1, ih h2]
theorem wordsL_app {w : List UInt8} (h : (32 : UInt8) ∉ w) (r : List UInt8) : wordsL (w ++ 32 :: r) = w :: wordsL r := by
  induction w with
  | nil => simp [wordsL]
  | cons c w ih =>
    have h1 : ¬ c = 32 := fun e => h (by simp [e])
    have h2 : (32 : UInt8) ∉ w := fun e => h (by simp [e])
    rw [List.cons_append, wordsL, if_neg h1, ih h2]
theorem words_joinW : ∀ (ws : List (List UInt8)), ws ≠ [] → (∀ w ∈ ws, (32 : UInt8) ∉ w) → wordsL (joinW ws) = ws
  | [], h, _ => absurd rfl h
  | [w], _, h => wordsL_one (h w (by simp))
  | w :: v :: ws, _, h => by
    rw [joinW, wordsL_app (h w (by simp)), words_joinW (v :: ws) (by simp) (fun x hx => h x (by simp at hx ⊢; exact .inr hx))]
theorem wordsL_no (s : List UInt8) : ∀ w ∈ wordsL s, (32 : UInt8) ∉ w := by
  induction s with
  | nil => simp [wordsL]
  | cons c r ih =>
    intro w hw
    unfold wordsL at hw
    split at hw
    · rcases List.mem_cons.1 hw with rfl | hw
      · simp
      · exact ih w hw
    · rename_i hc
      rcases hx : wordsL r with _ | ⟨v, ws⟩
      · exact absurd hx (wordsL_ne r)
      · rw [hx] at hw ih
        simp only at hw
        rcases List.mem_cons.1 hw with rfl | hw
        · have := ih v (by simp)
          intro e
          rcases List.mem_cons.1 e with e | e
          · exact hc e.symm
          · exact this e
        · exact ih w (by simp [hw])

/-! ### Numbers -/
abbrev dec (n : Nat) : List UInt8 := Lib.decDigits n
def maxI : Nat := 9223372036854775807
/-- The number that a word is. -/
def numOf (s : List UInt8) : Option Nat :=
  match Lib.atoiAll s with
  | .ok n => if n < 0 then none else if Lib.itoa n = s then some n.toNat else none
  | _ => none
theorem dec_ne (n : Nat) : dec n ≠ [] := by
  unfold dec; rw [Lib.decDigits]; split <;> simp
theorem dec_digit (n : Nat) : ∀ c ∈ dec n, 48 ≤ c.toNat ∧ c.toNat ≤ 57 := by
  unfold dec
  induction n using Nat.strongRecOn with
  | _ n ih =>
    intro c hc
    rw [Lib.decDigits] at hc
    split at hc
    · rename_i h
      rw [List.mem_singleton] at hc; subst hc
      have h1 : (UInt8.ofNat (48 + n)).toNat = 48 + n := by simp [UInt8.toNat_ofNat']; omega
      omega
    · rename_i h
      rcases List.mem_append.1 hc with hc | hc
      · exact ih (n / 10) (by omega) c hc
      · rw [List.mem_singleton] at hc; subst hc
        have h1 : (UInt8.ofNat (48 + n % 10)).toNat = 48 + n % 10 := by simp [UInt8.toNat_ofNat']; omega
        omega
theorem parse_app (l : List UInt8) (d acc : Nat) (hd : d < 10) :
    Lib.parseUint10 acc (l ++ [UInt8.ofNat (48 + d)]) = match Lib.parseUint10 acc l with
      | .ok u => if 18446744073709551616 ≤ u * 10 + d then .range else .ok (u * 10 + d)
      | e => e := by
  induction l generalizing acc with
  | nil =>
    have h1 : (UInt8.ofNat (48 + d)).toNat = 48 + d := by simp [UInt8.toNat_ofNat']; omega
    simp only [List.nil_append, Lib.parseUint10, h1]
    rw [if_pos (by omega), show 48 + d - 48 = d by omega]
    by_cases h2 : 1844674407370955162 ≤ acc
    · rw [if_pos h2, if_pos (by omega)]
    · rw [if_neg h2]
  | cons c r ih =>
    simp only [List.cons_append, Lib.parseUint10]
    split
    · split
      · rfl
      · split
        · rfl
        · exact ih _
    · rfl
theorem parse_dec (n : Nat) (h : n < 18446744073709551616) : Lib.parseUint10 0 (dec n) = .ok n := by
  unfold dec
  induction n using Nat.strongRecOn with
  | _ n ih =>
    rw [Lib.decDigits]
    split
    · rename_i h1
      have h2 := parse_app [] n 0 h1
      simp only [List.nil_append, Lib.parseUint10] at h2
      rw [show ([UInt8.ofNat (48 + n)] : List UInt8) = [UInt8.ofNat (48 + n)] from rfl]
      simp only [Lib.parseUint10]
      rw [h2, if_neg (by omega)]; congr 1; omega
    · rename_i h1
      rw [parse_app _ _ _ (Nat.mod_lt _ (by decide)), ih (n / 10) (by omega) (by omega)]
      simp only
      rw [if_neg (by omega)]; congr 1; omega
theorem atoi_dec (n : Nat) (h : n ≤ maxI) : Lib.atoiAll (dec n) = .ok (n : Int) := by
  unfold maxI at h
  rcases hd : dec n with _ | ⟨c, r⟩
  · exact absurd hd (dec_ne n)
  · have hc := dec_digit n c (by rw [hd]; simp)
    rw [Lib.atoiAll_plain c r (by omega) (by omega), ← hd, Lib.parseMag, if_neg (dec_ne n), parse_dec n (by omega), Lib.signless, if_neg (by omega)]
theorem numOf_dec {n : Nat} (h : n ≤ maxI) : numOf (dec n) = some n := by
  unfold numOf
  rw [atoi_dec n h]
  simp only
  rw [if_neg (by omega), if_pos (by simp [Lib.itoa]), Int.toNat_natCast]
theorem numOf_some {s : List UInt8} {n : Nat} (h : numOf s = some n) : s = dec n ∧ n ≤ maxI := by
  unfold numOf at h
  split at h
  · rename_i v hv
    have hb := (Lib.atoiAll_bounds hv).2
    split at h
    · cases h
    · split at h
      · rename_i h1 h2
        cases h
        refine ⟨?_, by unfold maxI; omega⟩
        rw [← h2, Lib.itoa, if_neg h1]
      · cases h
  · cases h

/-! ### Bytes -/
def hexD (n : Nat) : UInt8 := UInt8.ofNat (if n < 10 then 48 + n else 87 + n)
def hexVal (c : UInt8) : Option Nat := if 48 ≤ c.toNat ∧ c.toNat ≤ 57 then some (c.toNat - 48) else if 97 ≤ c.toNat ∧ c.toNat ≤ 102 then some (c.toNat - 87) else none
def hexB : List UInt8 → List UInt8
  | [] => []
  | x :: r => hexD (x.toNat / 16) :: hexD (x.toNat % 16) :: hexB r
def hexL (b : List UInt8) : List UInt8 := 120 :: hexB b
def unhexB : List UInt8 → Option (List UInt8)
  | [] => some []
  | [_] => none
  | a :: b :: r => match hexVal a, hexVal b, unhexB r with
    | some x, some y, some l => some (UInt8.ofNat (16 * x + y) :: l)
    | _, _, _ => none
def bytesOf' : List UInt8 → Option (List UInt8)
  | [] => none
  | c :: r => if c = 120 then unhexB r else none
theorem hexVal_hexD {n : Nat} (h : n < 16) : hexVal (hexD n) = some n := by
  unfold hexVal hexD
  by_cases h1 : n < 10
  · have e : (UInt8.ofNat (48 + n)).toNat = 48 + n := by simp [UInt8.toNat_ofNat']; omega
    rw [if_pos h1, e, if_pos (by omega)]; congr 1; omega
  · have e : (UInt8.ofNat (87 + n)).toNat = 87 + n := by simp [UInt8.toNat_ofNat']; omega
    rw [if_neg h1, e, if_neg (by omega), if_pos (by omega)]; congr 1; omega
theorem hexD_hexVal {c : UInt8} {n : Nat} (h : hexVal c = some n) : hexD n = c ∧ n < 16 := by
  unfold hexVal at h
  have hc := UInt8.toNat_lt c
  split at h
  · rename_i h1
    cases h
    refine ⟨?_, by omega⟩
    unfold hexD
    rw [if_pos (by omega)]
    apply UInt8.toNat_inj.1
    simp [UInt8.toNat_ofNat']; omega
  · split at h
    · rename_i h1
      cases h
      refine ⟨?_, by omega⟩
      unfold hexD
      rw [if_neg (by omega)]
      apply UInt8.toNat_inj.1
      simp [UInt8.toNat_ofNat']; omega
    · cases h
theorem unhex_hex (b : List UInt8) : unhexB (hexB b) = some b := by
  induction b with
  | nil => rfl
  | cons x r ih =>
    have hx := UInt8.toNat_lt x
    rw [hexB, unhexB, hexVal_hexD (by omega), hexVal_hexD (by omega), ih]
    simp only [Option.some.injEq, List.cons.injEq, and_true]
    apply UInt8.toNat_inj.1
    simp [UInt8.toNat_ofNat']; omega
theorem hex_unhex : ∀ (s : List UInt8) (b : List UInt8), unhexB s = some b → hexB b = s
  | [], b, h => by cases h; rfl
  | [_], b, h => by cases h
  | a :: c :: r, b, h => by
    rw [unhexB] at h
    split at h
    · rename_i x y l hx hy hl
      cases h
      obtain ⟨e1, b1⟩ := hexD_hexVal hx
      obtain ⟨e2, b2⟩ := hexD_hexVal hy
      have e3 : (UInt8.ofNat (16 * x + y)).toNat = 16 * x + y := by simp [UInt8.toNat_ofNat']; omega
      rw [hexB, e3, show (16 * x + y) / 16 = x by omega, show (16 * x + y) % 16 = y by omega, e1, e2, hex_unhex r l hl]
    · cases h
theorem bytesOf_hex (b : List UInt8) : bytesOf' (hexL b) = some b := by
  unfold hexL bytesOf'; simp only [if_pos]; exact unhex_hex b
theorem bytesOf_some {s b : List UInt8} (h : bytesOf' s = some b) : s = hexL b := by
  unfold bytesOf' at h
  split at h
  · cases h
  · split at h
    · rename_i c r hc; subst hc; unfold hexL; rw [hex_unhex _ _ h]
    · cases h
theorem hexD_no {n : Nat} (h : n < 16) : 48 ≤ (hexD n).toNat := by
  unfold hexD
  split <;> (simp [UInt8.toNat_ofNat']; omega)
theorem hexB_lo (b : List UInt8) : ∀ c ∈ hexB b, 48 ≤ c.toNat := by
  induction b with
  | nil => simp [hexB]
  | cons x r ih =>
    have hx := UInt8.toNat_lt x
    intro c hc
    rw [hexB] at hc
    rcases List.mem_cons.1 hc with rfl | hc
    · exact hexD_no (by omega)
    rcases List.mem_cons.1 hc with rfl | hc
    · exact hexD_no (by omega)
    exact ih c hc
theorem hexL_lo (b : List UInt8) : ∀ c ∈ hexL b, 48 ≤ c.toNat := by
  intro c hc
  rcases List.mem_cons.1 hc with rfl | hc
  · decide
  · exact hexB_lo b c hc
end Go.Proofs.YtbplnglmjcmfiaaGreatDoor.Scr
