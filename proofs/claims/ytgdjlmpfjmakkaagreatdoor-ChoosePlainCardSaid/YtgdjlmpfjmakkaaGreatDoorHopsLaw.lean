/- EditHops' fields: plain lists. -/
import Derived.Test.YtgdjlmpfjmakkaaGreatDoorEditSpec
import Derived.Test.YtgdjlmpfjmakkaaGreatDoorJoinSpec
namespace Go.Proofs.YtgdjlmpfjmakkaaGreatDoor

theorem nameB_low' (c : UInt8) : nameB (lowB c) = nameB c := by
  have h : ∀ n, n < 256 → nameB (lowB (UInt8.ofNat n)) = nameB (UInt8.ofNat n) := by decide +kernel
  have := h c.toNat c.toNat_lt
  rwa [UInt8.ofNat_toNat] at this
theorem goodNameL_low' (l : List UInt8) : goodNameL (lowL l) = goodNameL l := by
  unfold goodNameL
  rw [lowL_length]
  congr 2
  unfold lowL
  rw [List.all_map]
  exact congrArg (fun f => l.all f) (funext nameB_low')
def stayN : Nat → List UInt8
  | 0 => [67, 111, 110, 116, 101, 110, 116, 45, 76, 101, 110, 103, 116, 104]
  | 1 => [99, 111, 110, 116, 101, 110, 116, 45, 101, 110, 99, 111, 100, 105, 110, 103]
  | 2 => [72, 79, 83, 84]
  | 3 => [86, 97, 114, 121]
  | _ => [101, 116, 97, 103]
def fixN : Nat → List UInt8
  | 0 => nameCL
  | 1 => codeL
  | 2 => hostL
  | 3 => varyL
  | _ => etagL
def hopF (fs : List (List UInt8 × List UInt8)) (nm v st : List UInt8) : List (List UInt8 × List UInt8) := fs ++ [(connL, lowL nm ++ [32, 44, 32] ++ st), (nm, v), (st, [53])]
theorem stay_facts : ∀ k, k < 5 → staysB (stayN k) = true ∧ goodNameL (stayN k) = true ∧ (stayN k).length ≤ 16 := by decide
theorem stays_congr {a b : List UInt8} (h : lowL a = lowL b) : staysB a = staysB b := by rw [stays_low, stays_low, h]
theorem stay_not {st n : List UInt8} (hs : staysB st = true) (hn : goesB n = true) : sameL st n = false := by
  rcases h : sameL st n with _ | _
  · rfl
  · have := stays_congr (sameL_iff.1 h)
    rw [hs] at this
    rw [goesB, ← this] at hn; cases hn
theorem names_go (fs : List (List UInt8 × List UInt8)) : ∀ n ∈ hopL ++ namesL fs, goesB n = true := by
  intro n hn
  rcases List.mem_append.1 hn with h | h
  · exact (by decide : ∀ n ∈ hopL, goesB n = true) n h
  · exact (List.mem_filter.1 h).2
theorem hop_last (fs : List (List UInt8 × List UInt8)) (nm v st : List UInt8) (hs : staysB st = true) : ∃ G, getL (withoutL (hopF fs nm v st)) st = G ++ [[53]] := by
  have h1 : getL (withoutL (hopF fs nm v st)) st = getL (hopF fs nm v st) st := getL_stays (fun n hn => stay_not hs (names_go _ n hn)) _
  rw [h1]
  unfold hopF
  have h2 : fs ++ [(connL, lowL nm ++ [32, 44, 32] ++ st), (nm, v), (st, [53])] = (fs ++ [(connL, lowL nm ++ [32, 44, 32] ++ st), (nm, v)]) ++ [(st, [53])] := by simp
  have h3 : getL [(st, [53])] st = [[53]] := by rw [getL_cons, if_pos (sameL_refl st)]; rfl
  rw [h2, getL_append, h3]
  exact ⟨_, rfl⟩
theorem hop_gone (fs : List (List UInt8 × List UInt8)) (nm v st : List UInt8) (hg : goodNameL nm = true) (hgs : goodNameL st = true) (hs : staysB nm = false) : getL (withoutL (hopF fs nm v st)) nm = [] := by
  have hsp : splitL (lowL nm ++ [32, 44, 32] ++ st) = [lowL nm, st] := by
    have := split_join [32] [32] (by decide) (.inl (by decide)) [lowL nm, st] [] rfl (by
      intro x hx
      simp only [List.mem_cons, List.not_mem_nil, or_false] at hx
      rcases hx with rfl | rfl
      · exact memb_name (by rw [goodNameL_low']; exact hg)
      · exact memb_name hgs)
    simpa [joinL] using this
  have hval : (lowL nm ++ [32, 44, 32] ++ st) ∈ getL (hopF fs nm v st) connL := by
    unfold hopF
    rw [getL_append, getL_cons, if_pos (sameL_refl connL)]
    exact List.mem_append_right _ (by simp)
  have hmem : lowL nm ∈ namesL (hopF fs nm v st) := by
    refine List.mem_filter.2 ⟨List.mem_flatMap.2 ⟨_, hval, by rw [hsp]; simp⟩, ?_⟩
    rw [goesB, stays_congr (lowL_idem nm), hs]; rfl
  exact getL_drops (List.mem_append_right _ hmem) (lowL_idem nm).symm _
theorem hop_ok {fs : List (List UInt8 × List UInt8)} (h : fsOk fs) {nm v st : List UInt8} (h1 : nm.length ≤ 1000) (h2 : v.length ≤ 1000) (h3 : st.length ≤ 1000) : fsOk (hopF fs nm v st) := by
  refine fsOk_append h ?_
  intro f hf
  simp only [List.mem_cons, List.not_mem_nil, or_false] at hf
  rcases hf with rfl | rfl | rfl
  · refine ⟨(by decide : connL.length ≤ 1000000), ?_⟩
    show (lowL nm ++ [32, 44, 32] ++ st).length ≤ 1000000
    simp only [List.length_append, lowL_length, List.length_cons, List.length_nil]; omega
  · exact ⟨show nm.length ≤ 1000000 by omega, show v.length ≤ 1000000 by omega⟩
  · exact ⟨show st.length ≤ 1000000 by omega, (by decide : ([53] : List UInt8).length ≤ 1000000)⟩
theorem kept_any (nm : List UInt8) : staysB nm = (decide (lowL nm = fixN 0) || (decide (lowL nm = fixN 1) || (decide (lowL nm = fixN 2) || (decide (lowL nm = fixN 3) || decide (lowL nm = fixN 4))))) := by
  rw [stays_low, Bool.eq_iff_iff]; simp [stayL, fixN]
/-- Kept, by the first k of the fixed names. -/
def keptB (nm : List UInt8) (k : Nat) : Bool := (List.range k).any fun j => decide (lowL nm = fixN j)
theorem kept_snoc (nm : List UInt8) (k : Nat) : keptB nm (k + 1) = (keptB nm k || decide (lowL nm = fixN k)) := by
  unfold keptB; rw [List.range_succ, List.any_append]; simp
theorem kept_all (nm : List UInt8) : keptB nm 5 = staysB nm := by
  rw [kept_any]
  simp [keptB, List.range_succ, List.range_zero]
end Go.Proofs.YtgdjlmpfjmakkaaGreatDoor
