/- Chunk texts through the decoder: plain lists. No program here. -/
import Derived.Test.YtdpcncpfbaigeaaDoorRunSpec
namespace Go.Proofs.YtdpcncpfbaigeaaDoor
open Go.RowKit
set_option linter.unusedVariables false
set_option linter.unusedSimpArgs false

theorem index_line (r : List UInt8) : ∀ t : List UInt8, (∀ c ∈ t, c ≠ 13) → Lib.index (t ++ 13 :: 10 :: r) crlfL = t.length
  | [], _ => by unfold Lib.index; simp [crlfL, List.isPrefixOf]
  | b :: t, h => by
    have hb : b ≠ 13 := h b (by simp)
    have ih := index_line r t (fun c hc => h c (by simp [hc]))
    unfold Lib.index
    rw [List.cons_append]
    dsimp only
    rw [if_neg (by simp [crlfL, List.isPrefixOf]; intro e; exact absurd e.symm hb), ih]
    simp
    first | done | omega
theorem lineIx_at {t : List UInt8} (r : List UInt8) (h : ∀ c ∈ t, c ≠ 13) (hl : t.length + 2 ≤ 1024) : lineIx (t ++ 13 :: 10 :: r) = t.length := by
  unfold lineIx
  obtain ⟨k, hk⟩ : ∃ k, 1024 = t.length + (k + 2) := ⟨1022 - t.length, by omega⟩
  rw [hk, List.take_length_add_append, List.take_succ_cons, List.take_succ_cons]
  exact index_line _ t h
theorem line_at {t : List UInt8} (r : List UInt8) (h : ∀ c ∈ t, c ≠ 13) (hl : t.length + 2 ≤ 1024) : lineE (t ++ 13 :: 10 :: r) = 0 ∧ lineT (t ++ 13 :: 10 :: r) = t ∧ lineR (t ++ 13 :: 10 :: r) = r := by
  have e := lineIx_at r h hl
  unfold lineE lineT lineR
  rw [e, if_pos (by omega), if_pos (by omega), if_pos (by omega)]
  refine ⟨rfl, by simp, ?_⟩
  have : ((t.length : Int).toNat + 2) = t.length + 2 := by simp
  rw [this, ← List.drop_drop]
  simp
/-! ### ChunkLong -/
def fldsL : Nat → List UInt8
  | 0 => []
  | j + 1 => 97 :: 58 :: 32 :: 98 :: 13 :: 10 :: fldsL j
theorem fldsL_len : ∀ j, (fldsL j).length = 6 * j
  | 0 => rfl
  | j + 1 => by simp [fldsL, fldsL_len j]; omega
theorem step_tr {S : DS} (h : S.st = 3) (n : Int) : stepE S n = trailE S ∧ stepS S n = trailS S ∧ stepO S n = [] := by
  unfold stepE stepS stepO
  rw [if_neg (by omega), if_neg (by omega), if_neg (by omega), if_neg (by omega), if_neg (by omega), if_neg (by omega), if_neg (by omega)]
  exact ⟨rfl, rfl, rfl⟩
theorem trail_end (fl left n : Nat) : stepE ⟨[13, 10], 3, left, fl, 0⟩ n = 8 ∧ stepO ⟨[13, 10], 3, left, fl, 0⟩ n = [] := by
  obtain ⟨h1, h2, h3⟩ := line_at (t := []) [] (by simp) (by simp)
  rw [List.nil_append] at h1 h2 h3
  obtain ⟨q1, -, q3⟩ := step_tr (S := ⟨[13, 10], 3, left, fl, 0⟩) rfl n
  refine ⟨?_, q3⟩
  rw [q1]
  unfold trailE
  rw [h1, h2, if_pos rfl, if_pos rfl]
theorem trail_fld (fl left n : Nat) (r : List UInt8) : stepE ⟨97 :: 58 :: 32 :: 98 :: 13 :: 10 :: r, 3, left, fl, 0⟩ n = (if 64 < fl + 1 then 6 else 0) ∧ stepO ⟨97 :: 58 :: 32 :: 98 :: 13 :: 10 :: r, 3, left, fl, 0⟩ n = [] ∧ stepS ⟨97 :: 58 :: 32 :: 98 :: 13 :: 10 :: r, 3, left, fl, 0⟩ n = ⟨r, 3, left, fl + 1, 0⟩ := by
  obtain ⟨h1, h2, h3⟩ := line_at (t := [97, 58, 32, 98]) r (by simp) (by simp)
  simp only [List.cons_append, List.nil_append] at h1 h2 h3
  have hok : lineOk [97, 58, 32, 98] = true := by decide
  obtain ⟨q1, q2, q3⟩ := step_tr (S := ⟨97 :: 58 :: 32 :: 98 :: 13 :: 10 :: r, 3, left, fl, 0⟩) rfl n
  refine ⟨?_, q3, ?_⟩
  · rw [q1]
    unfold trailE
    rw [h1, h2, if_pos rfl, if_neg (by simp), if_pos hok]
  · rw [q2]
    unfold trailS
    rw [h1, h2, h3, if_pos rfl, if_neg (by simp), if_pos hok]
theorem trail_run (left : Nat) : ∀ (j F fl : Nat), j + 1 ≤ F → fl ≤ 64 → (runD F 1 ⟨fldsL j ++ [13, 10], 3, left, fl, 0⟩ [] 0).1 = [] ∧ (runD F 1 ⟨fldsL j ++ [13, 10], 3, left, fl, 0⟩ [] 0).2.2.er = if 64 < fl + j then 6 else 8
  | 0, F, fl, hF, hfl => by
    obtain ⟨F, rfl⟩ : ∃ F', F = F' + 1 := ⟨F - 1, by omega⟩
    obtain ⟨h1, h2⟩ := trail_end fl left ((1 : Int) - (([] : List UInt8).length : Nat)).toNat
    rw [runD_go ⟨by simp, rfl, rfl⟩]
    show (runD F 1 (stepT ⟨[13, 10], 3, left, fl, 0⟩ _) ([] ++ stepO ⟨[13, 10], 3, left, fl, 0⟩ _) (stepE ⟨[13, 10], 3, left, fl, 0⟩ _)).1 = [] ∧ (runD F 1 (stepT ⟨[13, 10], 3, left, fl, 0⟩ _) ([] ++ stepO ⟨[13, 10], 3, left, fl, 0⟩ _) (stepE ⟨[13, 10], 3, left, fl, 0⟩ _)).2.2.er = _
    rw [h1, h2, runD_stop (by simp)]
    refine ⟨rfl, ?_⟩
    unfold stepT
    rw [h1, if_pos (by decide), if_neg (by omega)]
  | j + 1, F, fl, hF, hfl => by
    obtain ⟨F, rfl⟩ : ∃ F', F = F' + 1 := ⟨F - 1, by omega⟩
    obtain ⟨h1, h2, h3⟩ := trail_fld fl left ((1 : Int) - (([] : List UInt8).length : Nat)).toNat (fldsL j ++ [13, 10])
    rw [runD_go ⟨by simp, rfl, rfl⟩]
    simp only [fldsL, List.cons_append]
    rw [h1, h2]
    unfold stepT
    rw [h1, h3]
    by_cases hc : 64 < fl + 1
    · rw [if_pos hc, if_pos (by decide), runD_stop (by simp), if_pos (by omega)]
      exact ⟨rfl, rfl⟩
    · rw [if_neg hc, if_neg (by simp)]
      have := trail_run left j F (fl + 1) (by omega) (by omega)
      rw [show fl + (j + 1) = fl + 1 + j by omega]
      exact this
theorem index_no : ∀ l : List UInt8, (∀ c ∈ l, c ≠ 10) → Lib.index l crlfL = -1
  | [], _ => rfl
  | b :: t, h => by
    have ih := index_no t (fun c hc => h c (by simp [hc]))
    unfold Lib.index
    rw [ih, if_neg ?_]
    · rfl
    · cases t with
      | nil => simp [crlfL, List.isPrefixOf]
      | cons a t =>
        have ha : a ≠ 10 := h a (by simp)
        simp [crlfL, List.isPrefixOf]
        intro _ e; exact absurd e.symm ha
theorem line_long {t r : List UInt8} (h : ∀ c ∈ t, c ≠ 10) (hl : 1023 ≤ t.length) : lineE (t ++ 13 :: 10 :: r) = 6 := by
  have e : lineIx (t ++ 13 :: 10 :: r) = -1 := by
    refine index_no _ (fun c hc => ?_)
    have : (t ++ 13 :: 10 :: r).take 1024 = (t ++ [13]).take 1024 := by
      rw [show t ++ 13 :: 10 :: r = (t ++ [13]) ++ 10 :: r by simp, List.take_append_of_le_length (by simp; omega)]
    rw [this] at hc
    have := List.mem_of_mem_take hc
    rcases List.mem_append.1 this with h1 | h1
    · exact h c h1
    · simp at h1; subst h1; decide
  unfold lineE
  rw [e, if_neg (by omega), if_pos (by simp; omega)]
theorem ext_good {e : List UInt8} (h : e.all valueB = true) (hl : e.length ≤ 4000) : goodValueL ([120] ++ e ++ [120]) = true := by
  unfold goodValueL
  have ht : trimL ([120] ++ e ++ [120]) = [120] ++ e ++ [120] := by
    have := trim_mid [] ([120] ++ e ++ [120]) [] rfl rfl (.inr ⟨120, by simp, by decide⟩) (.inr ⟨120, by rw [List.getLast?_append]; rfl, by decide⟩)
    simpa using this
  rw [ht, beq_self_eq_true, decide_eq_true (by simp; omega)]
  have : ([120] ++ e ++ [120] : List UInt8).all valueB = true := by
    rw [List.all_append, List.all_append, h]; decide
  rw [this]; rfl
theorem ext_nothex {c : UInt8} (h : extB c = true) : hexB c = false := by
  unfold extB at h
  simp only [Bool.or_eq_true, beq_iff_eq] at h
  rcases h with h | h | h <;> subst h <;> rfl
theorem hexline_of {hx e : List UInt8} (hh : ∀ c ∈ hx, hexB c = true) (h1 : 1 ≤ hx.length ∧ hx.length ≤ 12) (he : extOk e = true) (hv : e.all valueB = true) (hl : e.length ≤ 4000) (hN : hexN hx ≤ 1099511627776) : sizeOk (hx ++ e) = true ∧ sizeN (hx ++ e) = hexN hx := by
  have hk : sizeK (hx ++ e) = hx.length := by
    refine sizeK_at (fun j hj hjk => ?_) (by simp) (fun hj => ?_)
    · rw [List.getElem_append_left hjk]; exact hh _ (List.getElem_mem _)
    · rw [List.getElem_append_right (Nat.le_refl _)]
      cases e with
      | nil => simp at hj
      | cons c e => simp only [Nat.sub_self, List.getElem_cons_zero]; exact ext_nothex he
  have hr : sizeR (hx ++ e) = e := by unfold sizeR; rw [hk]; simp
  have hn : sizeN (hx ++ e) = hexN hx := by unfold sizeN; rw [hk]; simp
  refine ⟨?_, hn⟩
  unfold sizeOk
  rw [hr, hk, hn, he, ext_good hv hl, decide_eq_true h1, decide_eq_true hN]; rfl
theorem step_be {S : DS} (h : S.st = 0) (n : Int) : stepE S n = beginE S ∧ stepS S n = beginS S ∧ stepO S n = [] := by
  unfold stepE stepS stepO
  rw [if_pos h, if_pos h, if_neg (by omega)]
  exact ⟨rfl, rfl, rfl⟩
/-- A good size line. -/
theorem begin_at {hx e r : List UInt8} {left fl er n : Nat} (hh : ∀ c ∈ hx, hexB c = true) (h1 : 1 ≤ hx.length ∧ hx.length ≤ 12) (he : extOk e = true) (hv : e.all valueB = true) (hl : hx.length + e.length + 2 ≤ 1024) (hN : hexN hx ≤ 1099511627776) :
    stepE ⟨hx ++ e ++ 13 :: 10 :: r, 0, left, fl, er⟩ n = 0 ∧ stepO ⟨hx ++ e ++ 13 :: 10 :: r, 0, left, fl, er⟩ n = [] ∧ stepS ⟨hx ++ e ++ 13 :: 10 :: r, 0, left, fl, er⟩ n = ⟨r, if hexN hx = 0 then 3 else 1, hexN hx, fl, er⟩ := by
  have h13 : ∀ c ∈ hx ++ e, c ≠ 13 := fun c hc => by
    rcases List.mem_append.1 hc with h | h
    · intro e; subst e; exact absurd (hh _ h) (by decide)
    · intro e; subst e; exact absurd (List.all_eq_true.1 hv _ h) (by decide)
  obtain ⟨l1, l2, l3⟩ := line_at r h13 (by simp; omega)
  obtain ⟨z1, z2⟩ := hexline_of hh h1 he hv (by omega) hN
  obtain ⟨q1, q2, q3⟩ := step_be (S := ⟨hx ++ e ++ 13 :: 10 :: r, 0, left, fl, er⟩) rfl n
  refine ⟨?_, q3, ?_⟩
  · rw [q1]; unfold beginE; rw [l1, if_pos rfl, l2, z1, if_pos rfl]
  · rw [q2]; unfold beginS; rw [l1, if_pos rfl, l2, z1, if_pos rfl, l3, z2]
theorem take_err {S : DS} {n : Int} {e : Nat} (hn : 0 < n) (h1 : (takeR n S).1 = []) (h2 : (takeR n S).2.2.er = e) (he : e ≠ 0) : takeEr n S = e := by
  unfold takeEr
  rw [h1, h2, if_neg (by simp; omega), if_neg (by simp [he])]
/-- One step that ends it. -/
theorem take_stop {S : DS} {n : Int} {e : Nat} (hn : 0 < n) (h0 : S.er = 0) (h1 : stepE S n.toNat = e) (h2 : stepO S n.toNat = []) (he : e ≠ 0) (he5 : e ≠ 5) : takeEr n S = e := by
  have hr : takeR n S = ([], e, { stepS S n.toNat with er := e }) := by
    unfold takeR
    rw [runD_go ⟨by simpa using hn, h0, rfl⟩]
    have e1 : (n - (([] : List UInt8).length : Nat)) = n := by simp
    rw [e1, h1, h2, runD_stop (fun h => he h.2.2)]
    unfold stepT
    rw [h1, if_pos ⟨he, he5⟩]
    rfl
  exact take_err hn (by rw [hr]) (by rw [hr]) he
def longS (k f : Nat) : List UInt8 := [48] ++ (59 :: List.replicate k 97) ++ 13 :: 10 :: (fldsL f ++ [13, 10])
theorem long_d (k f : Nat) (hk : k < 1100) : takeEr 1 ⟨longS k f, 0, 0, 0, 0⟩ = if 1024 < k + 4 ∨ 64 < f then 6 else 8 := by
  unfold longS
  by_cases hc : 1024 < k + 4
  · rw [if_pos (.inl hc)]
    obtain ⟨q1, q2, q3⟩ := step_be (S := ⟨[48] ++ (59 :: List.replicate k 97) ++ 13 :: 10 :: (fldsL f ++ [13, 10]), 0, 0, 0, 0⟩) rfl (1 : Int).toNat
    refine take_stop (by omega) rfl ?_ q3 (by omega) (by omega)
    rw [q1]
    unfold beginE
    have hl : lineE ([48] ++ (59 :: List.replicate k 97) ++ 13 :: 10 :: (fldsL f ++ [13, 10])) = 6 := line_long (fun c hc => by
      simp [List.mem_replicate] at hc
      rcases hc with h | h | ⟨-, h⟩ <;> subst h <;> decide) (by simp; omega)
    rw [hl, if_neg (by omega)]
  · obtain ⟨b1, b2, b3⟩ := begin_at (hx := [48]) (e := 59 :: List.replicate k 97) (r := fldsL f ++ [13, 10]) (left := 0) (fl := 0) (er := 0) (n := (1 : Int).toNat) (by decide) (by decide) rfl (by
      rw [List.all_cons, List.all_eq_true.2 (fun c hc => by rw [(List.mem_replicate.1 hc).2]; decide)]; decide) (by simp; omega) (by decide)
    have hz : hexN [48] = 0 := rfl
    rw [hz, if_pos rfl] at b3
    have ht := trail_run 0 f ([48] ++ (59 :: List.replicate k 97) ++ 13 :: 10 :: (fldsL f ++ [13, 10])).length 0 (by simp [fldsL_len]; omega) (by omega)
    have hr : takeR 1 ⟨[48] ++ (59 :: List.replicate k 97) ++ 13 :: 10 :: (fldsL f ++ [13, 10]), 0, 0, 0, 0⟩ = runD ([48] ++ (59 :: List.replicate k 97) ++ 13 :: 10 :: (fldsL f ++ [13, 10])).length 1 ⟨fldsL f ++ [13, 10], 3, 0, 0, 0⟩ [] 0 := by
      unfold takeR
      rw [runD_go ⟨by simp, rfl, rfl⟩]
      have e1 : (((1 : Int) - (([] : List UInt8).length : Nat))).toNat = (1 : Int).toNat := rfl
      rw [e1, b1, b2]
      unfold stepT
      rw [b1, b3, if_neg (by simp)]
      rfl
    have := take_err (n := 1) (e := if 64 < 0 + f then 6 else 8) (by omega) (by rw [hr]; exact ht.1) (by rw [hr]; exact ht.2) (by split <;> decide)
    rw [this]
    by_cases h : 64 < f
    · rw [if_pos (by omega), if_pos (by omega)]
    · rw [if_neg (by omega), if_neg (by omega)]
theorem hexN_zeros : ∀ z, hexN (List.replicate z 48) = 0
  | 0 => rfl
  | z + 1 => by
    have := hexN_zeros z
    unfold hexN at this ⊢
    rw [List.replicate_succ, List.foldl_cons]
    exact this
theorem sizeK_zeros (z : Nat) : sizeK (List.replicate z 48) = z :=
  sizeK_at (fun j hj _ => by rw [List.getElem_replicate]; decide) (by simp) (fun h => by simp at h)
theorem long_g (z : Nat) (hz : z ≤ 16) : takeEr 1 ⟨List.replicate z 48 ++ 13 :: 10 :: [13, 10], 0, 0, 0, 0⟩ = if z < 1 ∨ 12 < z then 2 else 8 := by
  by_cases hc : z < 1 ∨ 12 < z
  · rw [if_pos hc]
    obtain ⟨l1, l2, l3⟩ := line_at (t := List.replicate z 48) [13, 10] (fun c hc => by rw [(List.mem_replicate.1 hc).2]; decide) (by simp; omega)
    obtain ⟨q1, q2, q3⟩ := step_be (S := ⟨List.replicate z 48 ++ 13 :: 10 :: [13, 10], 0, 0, 0, 0⟩) rfl (1 : Int).toNat
    refine take_stop (by omega) rfl ?_ q3 (by omega) (by omega)
    rw [q1]
    unfold beginE
    rw [l1, if_pos rfl, l2, if_neg]
    unfold sizeOk
    rw [sizeK_zeros, decide_eq_false (by omega)]
    simp
  · rw [if_neg hc]
    obtain ⟨b1, b2, b3⟩ := begin_at (hx := List.replicate z 48) (e := []) (r := [13, 10]) (left := 0) (fl := 0) (er := 0) (n := (1 : Int).toNat) (fun c hc => by rw [(List.mem_replicate.1 hc).2]; decide) (by simp; omega) rfl rfl (by simp; omega) (by rw [hexN_zeros]; omega)
    rw [hexN_zeros, if_pos rfl] at b3
    rw [List.append_nil] at b1 b2 b3
    have ht := trail_run 0 0 (List.replicate z 48 ++ 13 :: 10 :: [13, 10] : List UInt8).length 0 (by simp) (by omega)
    have hr : takeR 1 ⟨List.replicate z 48 ++ 13 :: 10 :: [13, 10], 0, 0, 0, 0⟩ = runD (List.replicate z 48 ++ 13 :: 10 :: [13, 10] : List UInt8).length 1 ⟨[13, 10], 3, 0, 0, 0⟩ [] 0 := by
      unfold takeR
      rw [runD_go ⟨by simp, rfl, rfl⟩]
      have e1 : (((1 : Int) - (([] : List UInt8).length : Nat))).toNat = (1 : Int).toNat := rfl
      rw [e1, b1, b2]
      unfold stepT
      rw [b1, b3, if_neg (by simp)]
      rfl
    exact take_err (n := 1) (e := 8) (by omega) (by rw [hr]; exact ht.1) (by rw [hr]; exact ht.2) (by decide)
end Go.Proofs.YtdpcncpfbaigeaaDoor
