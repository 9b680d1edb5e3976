/- EditTells: what a converted response says of its body: plain lists. -/
import Derived.Test.YtgdjlmpfjmakkaaGreatDoorHopsLaw
import Derived.Test.YtgdjlmpfjmakkaaGreatDoorTold
namespace Go.Proofs.YtgdjlmpfjmakkaaGreatDoor

theorem get_turn4 {m : List UInt8} (h : sameL varyC m = false) (fs : List (List UInt8 × List UInt8)) : getL (turn4 fs) m = getL fs m := by
  unfold turn4; split
  · have e : getL [varyF] m = [] := by
      have : getL [varyF] m = if sameL varyC m then [aeC] else [] := by rw [getL_cons]; rfl
      rw [this, if_neg (by rw [h]; simp)]
    rw [getL_append, e, List.append_nil]
  · rfl
theorem get_turn3 {m : List UInt8} (h : sameL codeC m = false) (fs : List (List UInt8 × List UInt8)) (kd : Nat) : getL (turn3 fs kd) m = getL fs m := by
  unfold turn3; split
  · exact getL_set_other h _ _
  · rfl
theorem get_turn2 {m : List UInt8} (h : sameL etagC m = false) (fs : List (List UInt8 × List UInt8)) : getL (turn2 fs) m = getL fs m := by
  unfold turn2; split
  · exact getL_set_other h _ _
  · rfl
theorem get_turn1 {m : List UInt8} (h : ∀ n ∈ [codeC, lenC, md5C, rangesC], sameL m n = false) (fs : List (List UInt8 × List UInt8)) : getL (turn1 fs) m = getL fs m := by rw [turn1_drops]; exact getL_stays h fs
theorem get_stay {m : List UInt8} (h : staysB m = true) (fs : List (List UInt8 × List UInt8)) : getL (withoutL fs) m = getL fs m := getL_stays (fun n hn => stay_not h (names_go _ n hn)) fs
section
variable (fs : List (List UInt8 × List UInt8)) (kd : Nat) (kind minor : Int) (keep : Bool)
theorem get_resp {m : List UInt8} (h1 : sameL teC m = false) (h2 : sameL connC m = false) : getL (respF fs false kd kind minor keep) m = getL (turnedL (withoutL fs) kd) m := by
  have e1 : getL [chunkF] m = [] := by
    have : getL [chunkF] m = if sameL teC m then [chunkedL] else [] := by rw [getL_cons]; rfl
    rw [this, if_neg (by rw [h1]; simp)]
  have e2 : getL [closeF] m = [] := by
    have : getL [closeF] m = if sameL connC m then [closeF.2] else [] := by rw [getL_cons]; rfl
    rw [this, if_neg (by rw [h2]; simp)]
  unfold respF
  rw [getL_append, getL_append]
  have a : getL (if ¬ (kind = 0 ∨ false = true ∧ kind = 1) ∧ minor = 1 then [chunkF] else []) m = [] := by split; exact e1; rfl
  have b : getL (if keep = false ∨ respK false kind minor = 3 then [closeF] else []) m = [] := by split; exact e2; rfl
  rw [a, b, List.append_nil, List.append_nil]; rfl
theorem resp_len_nil : getL (respF fs false kd kind minor keep) lenC = [] := by
  rw [get_resp fs kd kind minor keep (by decide) (by decide)]
  unfold turnedL
  rw [get_turn4 (by decide), get_turn3 (by decide), get_turn2 (by decide), turn1_drops]
  exact getL_drops (n := lenC) (by decide) rfl _
theorem resp_te : getL (respF fs false kd kind minor keep) teC = if ¬ kind = 0 ∧ minor = 1 then [chunkedL] else [] := by
  have h0 : getL (turnedL (withoutL fs) kd) teC = [] := by
    unfold turnedL
    rw [get_turn4 (by decide), get_turn3 (by decide), get_turn2 (by decide), get_turn1 (by decide)]
    exact get_hop (n := nameTE) (by decide) (by decide) fs
  have b : getL (if keep = false ∨ respK false kind minor = 3 then [closeF] else []) teC = [] := by split; decide; rfl
  unfold respF
  rw [getL_append, getL_append, b, List.append_nil, if_neg (by simp), h0, List.nil_append]
  by_cases hc : ¬ kind = 0 ∧ minor = 1
  · rw [if_pos hc, if_pos ⟨fun h => h.elim hc.1 (fun h => by simp at h), hc.2⟩]; decide
  · rw [if_neg hc, if_neg (fun h => hc ⟨fun e => h.1 (.inl e), h.2⟩)]; rfl
theorem resp_tag : getL (respF fs false kd kind minor keep) etagC = if 0 < (getL fs etagC).length then [weakL ((getL fs etagC).headD [])] else [] := by
  have h0 : getL (turn1 (withoutL fs)) etagC = getL fs etagC := by rw [get_turn1 (by decide), get_stay (by decide)]
  rw [get_resp fs kd kind minor keep (by decide) (by decide)]
  unfold turnedL
  rw [get_turn4 (by decide), get_turn3 (by decide)]
  unfold turn2
  rw [h0]
  split
  · exact getL_set _ _ _
  · rename_i h
    have : (getL fs etagC).length = 0 := by omega
    rw [h0]; exact List.eq_nil_of_length_eq_zero this
theorem split_name {x : List UInt8} (h : goodNameL x = true) : splitL x = [x] := by
  have := split_join [32] [32] (by decide) (.inl (by decide)) [x] [] rfl (by intro y hy; rw [List.mem_singleton.1 hy]; exact memb_name h)
  simpa [joinL] using this
theorem has_of {fs : List (List UInt8 × List UInt8)} {n x : List UInt8} (h : x ∈ getL fs n) (hg : goodNameL x = true) : hasL fs n x = true := by
  unfold hasL hasV
  rw [List.any_eq_true]
  refine ⟨x, h, ?_⟩
  unfold hasM
  rw [split_name hg, List.any_cons, sameL_refl]; rfl
theorem resp_vary : hasL (respF fs false kd kind minor keep) varyC aeC = true ∨ hasL (respF fs false kd kind minor keep) varyC [42] = true := by
  have e : getL (respF fs false kd kind minor keep) varyC = getL (turnedL (withoutL fs) kd) varyC := get_resp fs kd kind minor keep (by decide) (by decide)
  unfold hasL
  rw [e]
  unfold turnedL
  obtain ⟨g, hg⟩ : ∃ g, g = turn3 (turn2 (turn1 (withoutL fs))) kd := ⟨_, rfl⟩
  rw [← hg]
  unfold turn4
  by_cases h : hasL g varyC aeC = false ∧ hasL g varyC [42] = false
  · rw [if_pos h]
    left
    refine has_of (fs := g ++ [varyF]) ?_ (by decide)
    rw [getL_append]
    exact List.mem_append_right _ (by decide)
  · rw [if_neg h]
    rcases h1 : hasL g varyC aeC with _ | _
    · rcases h2 : hasL g varyC [42] with _ | _
      · exact absurd ⟨h1, h2⟩ h
      · exact .inr h2
    · exact .inl h1
theorem resp_code : allL (respF fs false kd kind minor keep) codeL = if kd = 0 then [] else splitL (cnameL kd) := by
  have e : getL (respF fs false kd kind minor keep) codeL = getL (turnedL (withoutL fs) kd) codeL := get_resp fs kd kind minor keep (by decide) (by decide)
  unfold allL
  rw [e]
  unfold turnedL
  rw [get_turn4 (by decide)]
  unfold turn3
  by_cases h : kd = 0
  · rw [if_neg (by simpa using h), if_pos h, get_turn2 (by decide), turn1_drops, getL_drops (n := codeC) (by decide) (by decide)]; rfl
  · rw [if_pos h, if_neg h]
    have : getL (setL (turn2 (turn1 (withoutL fs))) codeC (cnameL kd)) codeL = [cnameL kd] := by rw [getL_congr (b := codeL) (c := codeC) (by decide)]; exact getL_set _ _ _
    rw [this]; simp [allV]
theorem resp_close (h : keep = false ∨ respK false kind minor = 3) : hasL (respF fs false kd kind minor keep) connC [99, 108, 111, 115, 101] = true := by
  refine has_of ?_ (by decide)
  unfold respF
  rw [if_pos h, getL_append]
  exact List.mem_append_right _ (by decide)
end
def codingL (l : List (List UInt8)) : Nat := match l with
  | [] => 0
  | [x] => if lowL x = cnameL 0 then 0 else if lowL x = cnameL 1 ∨ lowL x = [120, 45, 103, 122, 105, 112] then 1 else if lowL x = cnameL 2 then 2 else 3
  | _ => 3
theorem resp_coding (fs : List (List UInt8 × List UInt8)) (kd : Nat) (kind minor : Int) (keep : Bool) (h : kd ≤ 2) : codingL (allL (respF fs false kd kind minor keep) codeL) = kd := by
  rw [resp_code]
  have : kd = 0 ∨ kd = 1 ∨ kd = 2 := by omega
  rcases this with rfl | rfl | rfl
  · rfl
  · rw [if_neg (by decide), split_name (by decide)]; decide
  · rw [if_neg (by decide), split_name (by decide)]; decide
theorem told_kind (T L : List (List UInt8)) (minor : Int) (h : (toldL T L minor 3).2.2 = 0) : (toldL T L minor 3).1 ≠ 0 := by
  unfold toldL at h ⊢
  split
  · split
    · simp
    · rename_i h1 h2; rw [if_pos h1, if_neg h2] at h; cases h
  · split
    · split
      · simp
      · rename_i h1 h2 h3; rw [if_neg h1, if_pos h2, if_neg h3] at h; cases h
    · simp
theorem resp_frame (m : ByteArray) (fs : List (List UInt8 × List UInt8)) (rminor status : Int) (kd : Nat) (minor : Int) (keep : Bool) (h0 : (frResp m fs rminor status).2.2 = 0) :
    frResp m (respF fs false kd (frResp m fs rminor status).1 minor keep) 1 status = ((respK false (frResp m fs rminor status).1 minor).toNat, 0, 0) := by
  unfold frResp at h0 ⊢
  by_cases he : emptyB m status = true
  · rw [if_pos he, if_pos he]
    simp [respK]
  · rw [if_neg he] at h0 ⊢
    rw [if_neg he]
    have hk : (frOf fs rminor 3).1 ≠ 0 := told_kind _ _ _ h0
    obtain ⟨kind, hkd⟩ : ∃ k, k = (frOf fs rminor 3).1 := ⟨_, rfl⟩
    rw [← hkd] at hk ⊢
    have hki : ¬ ((kind : Int) = 0) := by omega
    have hT : getL (respF fs false kd kind minor keep) nameTE = if ¬ (kind : Int) = 0 ∧ minor = 1 then [chunkedL] else [] := by rw [getL_congr (b := nameTE) (c := teC) (by decide)]; exact resp_te fs kd kind minor keep
    have hL : getL (respF fs false kd kind minor keep) nameCL = [] := by rw [getL_congr (b := nameCL) (c := lenC) (by decide)]; exact resp_len_nil fs kd kind minor keep
    unfold frOf
    rw [hT, hL]
    unfold respK
    rw [if_neg (c := (kind : Int) = 0 ∨ false = true ∧ (kind : Int) = 1) (fun h => h.elim hki (fun h => by simp at h))]
    by_cases hm : minor = 1
    · rw [if_pos ⟨hki, hm⟩, if_pos hm]; decide
    · rw [if_neg (fun h => hm h.2), if_neg hm]; rfl
theorem weakL_pre (t : List UInt8) : (weakL t).take 2 = [87, 47] := by
  unfold weakL; split
  · rename_i h; exact h
  · rfl
end Go.Proofs.YtgdjlmpfjmakkaaGreatDoor
