/- script.printer: numbers and bytes. -/
import Derived.Test.YtbplnglmjcmfiaaGreatDoorScrPr
import Derived.Test.YtbplnglmjcmfiaaGreatDoorCalm
namespace Go.Proofs.YtbplnglmjcmfiaaGreatDoor
open Go.RowKit
set_option linter.unusedVariables false
set_option linter.unusedSimpArgs false

theorem PrStep.rd {w w' : World} {p : Nat} {r r' : Option Nat} (h : PrStep w w' p r r') {B size n : Nat} {A : Option Addr} {xs : List Value} (hr : Rd w B size A n xs) (hB : B ≤ w.heap.size) (hf : ∀ a, A = some a → a.block ≠ p ∧ r ≠ some a.block) : Rd w' B size A n xs := by
  refine ⟨hr.1, hr.2.imp id ?_⟩
  rintro ⟨a, rfl, hb, hc⟩
  obtain ⟨h1, h2⟩ := hf a rfl
  refine ⟨a, rfl, hb, fun j u hu => ?_⟩
  have hbk : w'.heap[(a.add j).block]? = w.heap[(a.add j).block]? := by rw [addr_add_block]; exact h.block (Nat.lt_of_lt_of_le hb hB) h1 h2
  rw [World.cell?_of_block hbk]
  exact hc j u hu
theorem PrStep.far {w w' : World} {p : Nat} {r r' : Option Nat} (h : PrStep w w' p r r') {k : Nat} (hk : k < w.heap.size) (h2 : r ≠ some k) : r' ≠ some k := by
  rcases h.2 with e | e
  · rw [e]; exact h2
  · intro e2; have := e k e2; omega
def icells (l : List Nat) : List Value := l.map fun k => .int .i64 (k : Nat)
def numsT (l : List Nat) : List UInt8 := l.flatMap fun k => 32 :: Scr.dec k
theorem numsT_snoc (l : List Nat) (k : Nat) : numsT (l ++ [k]) = numsT l ++ 32 :: Scr.dec k := by simp [numsT]
theorem dec_len : ∀ (k n : Nat), n < 10 ^ (k + 1) → (Scr.dec n).length ≤ k + 1
  | 0, n, h => by unfold Scr.dec; rw [Lib.decDigits, dif_pos (by simpa using h)]; simp
  | k + 1, n, h => by
    unfold Scr.dec
    rw [Lib.decDigits]
    split
    · simp
    · have := dec_len k (n / 10) (by rw [Nat.pow_succ] at h; omega)
      unfold Scr.dec at this
      rw [List.length_append, List.length_singleton]; omega
theorem dec_len20 {n : Nat} (h : n ≤ Scr.maxI) : (Scr.dec n).length ≤ 20 := dec_len 19 n (by unfold Scr.maxI at h; omega)
theorem numsT_len (l : List Nat) (h : ∀ k ∈ l, k ≤ Scr.maxI) : (numsT l).length ≤ 21 * l.length := by
  induction l with
  | nil => simp [numsT]
  | cons k l ih =>
    have h1 := ih fun x hx => h x (by simp [hx])
    have h2 := dec_len20 (h k (by simp))
    unfold numsT at h1 ⊢
    rw [List.flatMap_cons, List.length_append]
    simp only [List.length_cons]; omega
/-- A byte's two digits, as the code finds them. -/
theorem hexS_at0 : ∀ d : Fin 16, ((#[48, 49, 50, 51, 52, 53, 54, 55, 56, 57, 97, 98, 99, 100, 101, 102] : Array UInt8)[d.val]'d.isLt) = Scr.hexD d.val := by decide +kernel
theorem hexS_at (d : Nat) (h : d < (⟨#[48, 49, 50, 51, 52, 53, 54, 55, 56, 57, 97, 98, 99, 100, 101, 102]⟩ : ByteArray).size) : (⟨#[48, 49, 50, 51, 52, 53, 54, 55, 56, 57, 97, 98, 99, 100, 101, 102]⟩ : ByteArray)[d]'h = Scr.hexD d := hexS_at0 ⟨d, h⟩
theorem and15 : ∀ x : Fin 256, bits BinOp.and IntKind.u8 (x.val : Int) 15 = ((x.val % 16 : Nat) : Int) := by decide +kernel
theorem hexB_snoc (l : List UInt8) (x : UInt8) : Scr.hexB (l ++ [x]) = Scr.hexB l ++ [Scr.hexD (x.toNat / 16)] ++ [Scr.hexD (x.toNat % 16)] := by
  induction l with
  | nil => simp [Scr.hexB]
  | cons y l ih => simp [Scr.hexB, ih]
theorem hexB_len (l : List UInt8) : (Scr.hexB l).length = 2 * l.length := by
  induction l with
  | nil => rfl
  | cons y l ih => simp only [Scr.hexB, List.length_cons, ih]; omega
end Go.Proofs.YtbplnglmjcmfiaaGreatDoor
