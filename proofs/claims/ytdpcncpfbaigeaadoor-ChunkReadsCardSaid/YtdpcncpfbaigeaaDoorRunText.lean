/- Chunks, line by line, run by the decoder. Plain lists, no program here. -/
import Derived.Test.YtdpcncpfbaigeaaDoorRunLaw
import Derived.Test.YtdpcncpfbaigeaaDoorChunkSpec
namespace Go.Proofs.YtdpcncpfbaigeaaDoor
open Go.RowKit
set_option linter.unusedVariables false
set_option linter.unusedSimpArgs false

theorem run_begin {hx e r O : List UInt8} {left fl : Nat} {F : DS} (hh : ∀ c ∈ hx, hexB c = true) (h1 : 1 ≤ hx.length ∧ hx.length ≤ 12) (he : extOk e = true) (hv : e.all valueB = true) (hl : hx.length + e.length + 2 ≤ 1024) (hN : hexN hx ≤ 1099511627776)
    (h : Run1 ⟨r, if hexN hx = 0 then 3 else 1, hexN hx, fl, 0⟩ O F) : Run1 ⟨hx ++ e ++ 13 :: 10 :: r, 0, left, fl, 0⟩ O F := by
  obtain ⟨b1, b2, b3⟩ := begin_at (r := r) (left := left) (fl := fl) (er := 0) (n := 1) hh h1 he hv hl hN
  have hns : ¬ stuck ⟨hx ++ e ++ 13 :: 10 :: r, 0, left, fl, 0⟩ := by
    rintro (h | h)
    · exact h rfl
    · rw [b1] at h; cases h
  have := Run1.step hns (by rw [stepT_go b1, b3]; exact h)
  rw [b2] at this
  exact this
theorem run_over {r O : List UInt8} {left fl : Nat} {F : DS} (h : Run1 ⟨r, 0, left, fl, 0⟩ O F) : Run1 ⟨13 :: 10 :: r, 2, left, fl, 0⟩ O F := by
  have hov : overE ⟨13 :: 10 :: r, 2, left, fl, 0⟩ = 0 := by
    unfold overE
    rw [show (13 :: 10 :: r : List UInt8).take 2 = [13, 10] from rfl, if_pos (by decide), if_neg (by simp)]
  have hE : stepE ⟨13 :: 10 :: r, 2, left, fl, 0⟩ (1 : Nat) = 0 := by
    unfold stepE; rw [if_neg (by simp), if_neg (by simp), if_pos rfl, hov]
  have hS : stepS ⟨13 :: 10 :: r, 2, left, fl, 0⟩ (1 : Nat) = ⟨r, 0, left, fl, 0⟩ := by
    unfold stepS; rw [if_neg (by simp), if_neg (by simp), if_pos rfl]; unfold overS; rw [if_pos hov]; rfl
  have hO : stepO ⟨13 :: 10 :: r, 2, left, fl, 0⟩ (1 : Nat) = [] := by unfold stepO; rw [if_neg (by simp)]
  have := Run1.step (S := ⟨13 :: 10 :: r, 2, left, fl, 0⟩) (by rintro (h | h); exact h rfl; rw [hE] at h; cases h) (by rw [stepT_go hE, hS]; exact h)
  rw [hO] at this
  exact this
theorem run_data {bs r O : List UInt8} {fl : Nat} {F : DS} (hb : bs ≠ []) (h : Run1 ⟨r, 0, 0, fl, 0⟩ O F) : Run1 ⟨bs ++ 13 :: 10 :: r, 1, bs.length, fl, 0⟩ (bs ++ O) F := by
  have hl : 1 ≤ bs.length := by cases bs; exact absurd rfl hb; simp
  have := run_bytes bs.length (S := ⟨bs ++ 13 :: 10 :: r, 1, bs.length, fl, 0⟩) (O := O) (F := F) rfl rfl hl (Nat.le_refl _) (by simp) (by
    show Run1 ⟨(bs ++ 13 :: 10 :: r).drop bs.length, if bs.length = bs.length then 2 else 1, bs.length - bs.length, fl, 0⟩ O F
    rw [if_pos rfl, Nat.sub_self, List.drop_left]
    exact run_over h)
  rw [show (DS.mk (bs ++ 13 :: 10 :: r) 1 bs.length fl 0).inp.take bs.length = bs from List.take_left] at this
  exact this
theorem run_end {r : List UInt8} {left fl : Nat} : Run1 ⟨13 :: 10 :: r, 3, left, fl, 0⟩ [] ⟨r, 3, left, fl, 8⟩ := by
  obtain ⟨h1, h2, h3⟩ := line_at (t := []) r (by simp) (by simp)
  rw [List.nil_append] at h1 h2 h3
  obtain ⟨q1, q2, q3⟩ := step_tr (S := ⟨13 :: 10 :: r, 3, left, fl, 0⟩) rfl (1 : Nat)
  have hE : stepE ⟨13 :: 10 :: r, 3, left, fl, 0⟩ (1 : Nat) = 8 := by
    rw [q1]; unfold trailE; rw [h1, h2, if_pos rfl, if_pos rfl]
  have hT : stepT ⟨13 :: 10 :: r, 3, left, fl, 0⟩ 1 = ⟨r, 3, left, fl, 8⟩ := by
    rw [stepT_err (by rw [hE]; omega) (by rw [hE]; omega), hE, q2]
    unfold trailS
    rw [h1, h2, h3, if_pos rfl, if_pos rfl]
  have := Run1.step (S := ⟨13 :: 10 :: r, 3, left, fl, 0⟩) (by rintro (h | h); exact h rfl; rw [hE] at h; cases h) (by rw [hT]; exact .stop (.inl (show (8:Nat) ≠ 0 by decide)))
  rw [q3] at this
  exact this
/-- The last chunk: noughts, then no trailer. -/
theorem run_last {r : List UInt8} {left fl z : Nat} (hz : z + 1 ≤ 12) : Run1 ⟨48 :: List.replicate z 48 ++ 13 :: 10 :: 13 :: 10 :: r, 0, left, fl, 0⟩ [] ⟨r, 3, 0, fl, 8⟩ := by
  have h0 : hexN (48 :: List.replicate z 48) = 0 := by rw [← List.replicate_succ]; exact hexN_zeros _
  have := run_begin (hx := 48 :: List.replicate z 48) (e := []) (r := 13 :: 10 :: r) (left := left) (fl := fl) (O := []) (F := ⟨r, 3, 0, fl, 8⟩) (fun c hc => by
    rw [← List.replicate_succ] at hc; rw [(List.mem_replicate.1 hc).2]; decide) (by simp; omega) rfl rfl (by simp; omega) (by rw [h0]; omega) (by rw [h0, if_pos rfl]; exact run_end)
  rw [List.append_nil] at this
  exact this
/-- A chunk: its line, its bytes. -/
theorem run_chunk {hx e bs r O : List UInt8} {left fl : Nat} {F : DS} (hh : ∀ c ∈ hx, hexB c = true) (h1 : 1 ≤ hx.length ∧ hx.length ≤ 12) (he : extOk e = true) (hv : e.all valueB = true) (hl : hx.length + e.length + 2 ≤ 1024) (hN : hexN hx = bs.length) (hb : bs ≠ []) (hbl : bs.length ≤ 1099511627776)
    (h : Run1 ⟨r, 0, 0, fl, 0⟩ O F) : Run1 ⟨hx ++ e ++ 13 :: 10 :: (bs ++ 13 :: 10 :: r), 0, left, fl, 0⟩ (bs ++ O) F := by
  have hl1 : bs.length ≠ 0 := by cases bs; exact absurd rfl hb; simp
  refine run_begin hh h1 he hv hl (by rw [hN]; exact hbl) ?_
  rw [hN, if_neg hl1]
  exact run_data hb h
/-! ### ChunkSizes -/
def largeL : List UInt8 := [48, 49, 50, 51, 52, 53, 54, 55, 56, 57, 65, 66, 67, 68, 69, 70]
theorem large_at : ∀ a, a < 16 → hexB (largeL.getD a 0) = true ∧ hexV (largeL.getD a 0) = a := by decide
def sizesL (a z : Nat) (ext b : List UInt8) : List UInt8 :=
  List.replicate a 48 ++ [largeL.getD (b.length / 16) 0, largeL.getD (b.length % 16) 0] ++ 59 :: ext ++ 13 :: 10 :: (b ++ 13 :: 10 :: (48 :: List.replicate z 48 ++ 13 :: 10 :: 13 :: 10 :: [114, 101, 115, 116]))
theorem sizes_run {a z : Nat} {ext b : List UInt8} (ha : a + 2 ≤ 12) (hz : z + 1 ≤ 12) (hb : b ≠ []) (hbl : b.length ≤ 250) (he : ext.all valueB = true) (hel : ext.length ≤ 200) :
    Run1 ⟨sizesL a z ext b, 0, 0, 0, 0⟩ b ⟨[114, 101, 115, 116], 3, 0, 0, 8⟩ := by
  obtain ⟨x1, x2⟩ := large_at (b.length / 16) (by omega)
  obtain ⟨y1, y2⟩ := large_at (b.length % 16) (by omega)
  unfold sizesL
  have hN : hexN (List.replicate a 48 ++ [largeL.getD (b.length / 16) 0, largeL.getD (b.length % 16) 0]) = b.length := by
    rw [show (List.replicate a 48 ++ [largeL.getD (b.length / 16) 0, largeL.getD (b.length % 16) 0]) = (List.replicate a 48 ++ [largeL.getD (b.length / 16) 0]) ++ [largeL.getD (b.length % 16) 0] by simp, hexN_snoc, hexN_snoc, hexN_zeros, x2, y2]
    omega
  have := run_chunk (hx := List.replicate a 48 ++ [largeL.getD (b.length / 16) 0, largeL.getD (b.length % 16) 0]) (e := 59 :: ext) (bs := b) (left := 0) (fl := 0) (fun c hc => by
    rcases List.mem_append.1 hc with h | h
    · rw [(List.mem_replicate.1 h).2]; decide
    · simp only [List.mem_cons, List.not_mem_nil, or_false] at h
      rcases h with rfl | rfl
      · exact x1
      · exact y1) (by simp; omega) rfl (by rw [List.all_cons, he]; decide) (by simp; omega) hN hb (by omega) (run_last (r := [114, 101, 115, 116]) (left := 0) (fl := 0) hz)
  rw [List.append_nil] at this
  exact this
theorem sizes_len {a z : Nat} {ext b : List UInt8} (ha : a + 2 ≤ 12) (hz : z + 1 ≤ 12) (hbl : b.length ≤ 250) (hel : ext.length ≤ 200) : (sizesL a z ext b).length ≤ 1000 := by
  unfold sizesL; simp; omega
end Go.Proofs.YtdpcncpfbaigeaaDoor
