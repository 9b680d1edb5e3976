/- strings.Split at a blank: a line's words. -/
import Derived.Test.YtbplnglmjcmfiaaGreatDoorScrRead
import Derived.Test.YtbplnglmjcmfiaaGreatDoorAlloc
namespace Go.Proofs.YtbplnglmjcmfiaaGreatDoor
open Go.RowKit
set_option linter.unusedVariables false
set_option linter.unusedSimpArgs false

theorem index_cons_eq (r : List UInt8) : Lib.index (32 :: r) [32] = 0 := by rw [Lib.index]; simp [List.isPrefixOf]
theorem index_cons_ne {c : UInt8} (h : c ≠ 32) (r : List UInt8) : Lib.index (c :: r) [32] = if Lib.index r [32] == -1 then -1 else Lib.index r [32] + 1 := by
  have hp : ([32] : List UInt8).isPrefixOf (c :: r) = false := by simp [List.isPrefixOf, Ne.symm h]
  rw [Lib.index, hp]; simp
theorem split_words (l : List UInt8) : Lib.splitK [32] 0 (Lib.count l [32]) l = Scr.wordsL l := by
  induction l with
  | nil => rw [Lib.count_miss (by simp [Lib.index])]; rfl
  | cons c r ih =>
    by_cases hc : c = 32
    · subst hc
      rw [Lib.count_cons_eq, Nat.add_comm, Lib.splitK, index_cons_eq, if_neg (by decide)]
      simp only [Scr.wordsL, if_pos]
      congr 1
    · rw [Lib.count_cons_ne c 32 r hc, Scr.wordsL, if_neg hc, ← ih]
      have hge := Lib.index_ge r [32]
      by_cases hm : Lib.index r [32] = -1
      · rw [Lib.count_miss hm]
        simp only [Lib.splitK]
      · obtain ⟨i, hi⟩ : ∃ i : Nat, Lib.index r [32] = i := ⟨(Lib.index r [32]).toNat, by omega⟩
        have hk : Lib.count r [32] = 1 + Lib.count (r.drop (i + 1)) [32] := Lib.count_hit (by simp) hi
        have e2 : Lib.index (c :: r) [32] = ((i + 1 : Nat) : Int) := by rw [index_cons_ne hc, if_neg (fun e => hm (beq_iff_eq.1 e)), hi]; omega
        rw [hk, Nat.add_comm, Lib.splitK, Lib.splitK, e2, hi, if_neg (by simp; omega), if_neg (by simp)]
        simp only [Int.toNat_natCast, Nat.add_zero, List.take_succ_cons, List.length_cons, List.length_nil, Nat.zero_add]
        congr 1
theorem words_cells (s : ByteArray) : (Lib.splitB ⟨#[32]⟩ 0 (Lib.countB s ⟨#[32]⟩) s).map Value.string = scells (Scr.wordsL s.data.toList) := by
  have h := Lib.splitB_data ⟨#[32]⟩ 0 (Lib.countB s ⟨#[32]⟩) s
  rw [show (⟨#[32]⟩ : ByteArray).data.toList = [32] from rfl, show Lib.countB s ⟨#[32]⟩ = Lib.count s.data.toList [32] from rfl, split_words] at h
  rw [show Lib.countB s ⟨#[32]⟩ = Lib.count s.data.toList [32] from rfl]
  unfold scells
  rw [← h, List.map_map]
  apply List.map_congr_left
  intro x _
  rfl
theorem words_len (s : ByteArray) : Lib.countB s ⟨#[32]⟩ + 1 = (Scr.wordsL s.data.toList).length := by
  have h1 := Lib.splitB_all ⟨#[32]⟩ (by decide) 0 _ s rfl
  have h2 := congrArg List.length (words_cells s)
  rw [List.length_map, h1, scells_length] at h2
  exact h2
theorem words_small (l : List UInt8) : ∀ w ∈ Scr.wordsL l, w.length ≤ l.length := by
  induction l with
  | nil => simp [Scr.wordsL]
  | cons c r ih =>
    intro w hw
    unfold Scr.wordsL at hw
    split at hw
    · rcases List.mem_cons.1 hw with rfl | hw
      · simp
      · have := ih w hw; simp only [List.length_cons]; omega
    · rcases hx : Scr.wordsL r with _ | ⟨v, ws⟩
      · exact absurd hx (Scr.wordsL_ne r)
      · rw [hx] at hw ih
        simp only at hw
        rcases List.mem_cons.1 hw with rfl | hw
        · have := ih v (by simp); simp only [List.length_cons]; omega
        · have := ih w (by simp [hw]); simp only [List.length_cons]; omega
theorem words_many (l : List UInt8) : (Scr.wordsL l).length ≤ l.length + 1 := by
  induction l with
  | nil => simp [Scr.wordsL]
  | cons c r ih =>
    unfold Scr.wordsL
    split
    · simp only [List.length_cons]; omega
    · split
      · rename_i hx; exact absurd hx (Scr.wordsL_ne r)
      · rename_i v ws hx
        rw [hx] at ih
        simp only [List.length_cons] at ih ⊢; omega
/-- The words of a text as a reader has them. -/
theorem scrsplit_any (s : ByteArray) (w : World) (hs : s.size < 4294967281) (hG : Glo w) :
    Calls Tryz.prog 161 #[.string s, .string ⟨#[32]⟩] w fun e w' => ∃ a n, e = .returned (.slice (some a) n n) ∧ n = (Scr.wordsL s.data.toList).length ∧ n ≤ maxLen ∧ a.block = w.heap.size ∧ Rd w' w'.heap.size 1 (some a) n (scells (Scr.wordsL s.data.toList)) ∧ Below w.heap.size w w' ∧ w'.heap.size = w.heap.size + 1 := by
  obtain ⟨m, hm⟩ := hG.max
  refine (Tryz.strings_Split s ⟨#[32]⟩ m w hs hm (by decide)).mono ?_
  rintro e w' ⟨rfl, rfl⟩
  have hl := words_len s
  have hmy := words_many s.data.toList
  have hsz : s.data.toList.length = s.size := by rw [Array.length_toList]; rfl
  rw [hl, words_cells]
  have rn := rd_new w (scells (Scr.wordsL s.data.toList)).toArray 9 1 (Scr.wordsL s.data.toList).length (by simp [scells])
  have hsize : (w.alloc (.cells (scells (Scr.wordsL s.data.toList)).toArray 9)).heap.size = w.heap.size + 1 := Array.size_push _
  rw [← hsize] at rn
  exact ⟨_, _, rfl, rfl, by unfold maxLen; omega, rfl, rn, (Below.refl _ _).alloc (Nat.le_refl _) _, hsize⟩
end Go.Proofs.YtbplnglmjcmfiaaGreatDoor
