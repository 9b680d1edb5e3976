/- Which fields are of one link alone; fields without them: plain lists. -/
import Derived.Test.YtgdjlmpfjmakkaaGreatDoorDropFld
import Derived.Test.YtgdjlmpfjmakkaaGreatDoorTold
namespace Go.Proofs.YtgdjlmpfjmakkaaGreatDoor

def connL : List UInt8 := [99, 111, 110, 110, 101, 99, 116, 105, 111, 110]
def hopL : List (List UInt8) := [connL, [107, 101, 101, 112, 45, 97, 108, 105, 118, 101], [112, 114, 111, 120, 121, 45, 99, 111, 110, 110, 101, 99, 116, 105, 111, 110], [116, 101], [116, 114, 97, 105, 108, 101, 114], nameTE, [117, 112, 103, 114, 97, 100, 101]]
def hopC : List (List UInt8) := [[67, 111, 110, 110, 101, 99, 116, 105, 111, 110], [75, 101, 101, 112, 45, 65, 108, 105, 118, 101], [80, 114, 111, 120, 121, 45, 67, 111, 110, 110, 101, 99, 116, 105, 111, 110], [84, 69], [84, 114, 97, 105, 108, 101, 114], [84, 114, 97, 110, 115, 102, 101, 114, 45, 69, 110, 99, 111, 100, 105, 110, 103], [85, 112, 103, 114, 97, 100, 101]]
def codeL : List UInt8 := [99, 111, 110, 116, 101, 110, 116, 45, 101, 110, 99, 111, 100, 105, 110, 103]
def hostL : List UInt8 := [104, 111, 115, 116]
def varyL : List UInt8 := [118, 97, 114, 121]
def etagL : List UInt8 := [101, 116, 97, 103]
def stayL : List (List UInt8) := [nameCL, codeL, hostL, varyL, etagL]
def staysB (n : List UInt8) : Bool := stayL.any fun s => sameL s n
def goesB (n : List UInt8) : Bool := !staysB n
/-- Without the fields of all the names. -/
def dropsL (fs : List (List UInt8 × List UInt8)) (names : List (List UInt8)) : List (List UInt8 × List UInt8) := names.foldl dropL fs
def namesL (fs : List (List UInt8 × List UInt8)) : List (List UInt8) := (allL fs connL).filter goesB
def withoutL (fs : List (List UInt8 × List UInt8)) : List (List UInt8 × List UInt8) := dropsL fs (hopL ++ namesL fs)
theorem sameL_iff {a b : List UInt8} : sameL a b = true ↔ lowL a = lowL b := by unfold sameL; simp
theorem sameL_low (a b : List UInt8) : sameL a (lowL b) = sameL a b := by unfold sameL; rw [lowL_idem]
theorem sameL_congr {b c : List UInt8} (h : lowL b = lowL c) (a : List UInt8) : sameL a b = sameL a c := by unfold sameL; rw [h]
theorem dropL_congr {b c : List UInt8} (h : lowL b = lowL c) (fs : List (List UInt8 × List UInt8)) : dropL fs b = dropL fs c := by unfold dropL; simp only [sameL_congr h]
theorem getL_congr {b c : List UInt8} (h : lowL b = lowL c) (fs : List (List UInt8 × List UInt8)) : getL fs b = getL fs c := by unfold getL; simp only [sameL_congr h]
theorem dropsL_filter : ∀ (names : List (List UInt8)) (fs : List (List UInt8 × List UInt8)), dropsL fs names = fs.filter fun f => !names.any fun n => sameL f.1 n
  | [], fs => (List.filter_eq_self.2 fun _ _ => rfl).symm
  | n :: names, fs => by
    have e : dropsL fs (n :: names) = dropsL (dropL fs n) names := rfl
    rw [e, dropsL_filter names]
    unfold dropL
    rw [List.filter_filter]
    congr 1
    funext f
    simp [Bool.and_comm]
theorem dropsL_append (fs : List (List UInt8 × List UInt8)) (a b : List (List UInt8)) : dropsL fs (a ++ b) = dropsL (dropsL fs a) b := by unfold dropsL; rw [List.foldl_append]
theorem dropsL_snoc (fs : List (List UInt8 × List UInt8)) (l : List (List UInt8)) (k : Nat) (h : k < l.length) : dropsL fs (l.take (k + 1)) = dropL (dropsL fs (l.take k)) l[k] := by
  rw [list_take_snoc l k h, dropsL_append]; rfl
theorem dropsL_len (names : List (List UInt8)) (fs : List (List UInt8 × List UInt8)) : (dropsL fs names).length ≤ fs.length := by rw [dropsL_filter]; exact List.length_filter_le _ _
theorem fsOk_drops {fs : List (List UInt8 × List UInt8)} (h : fsOk fs) (names : List (List UInt8)) : fsOk (dropsL fs names) := by
  intro f hf; rw [dropsL_filter] at hf; exact h f (List.mem_filter.1 hf).1
theorem hop_same (fs : List (List UInt8 × List UInt8)) : dropsL fs hopC = dropsL fs hopL := by
  rw [dropsL_filter, dropsL_filter]
  have : ∀ x : List UInt8, (hopC.any fun n => sameL x n) = (hopL.any fun n => sameL x n) := fun x => by
    have h : hopL = hopC.map lowL := by decide
    rw [h, List.any_map]
    exact congrArg (fun f => hopC.any f) (funext fun n => (sameL_low x n).symm)
  simp only [this]
/-- The program's: the names written as they are in heads. -/
theorem withoutL_C (fs : List (List UInt8 × List UInt8)) : dropsL fs (hopC ++ namesL fs) = withoutL fs := by unfold withoutL; rw [dropsL_append, dropsL_append, hop_same]
/-- The reference's: a name that stays is passed over. -/
def skipL (fs : List (List UInt8 × List UInt8)) (names : List (List UInt8)) : List (List UInt8 × List UInt8) := dropsL fs (names.filter goesB)
theorem skipL_snoc (fs : List (List UInt8 × List UInt8)) (l : List (List UInt8)) (k : Nat) (h : k < l.length) : skipL fs (l.take (k + 1)) = if staysB l[k] = true then skipL fs (l.take k) else dropL (skipL fs (l.take k)) l[k] := by
  unfold skipL
  rw [list_take_snoc l k h, List.filter_append, dropsL_append]
  by_cases hs : staysB l[k] = true
  · rw [if_pos hs, List.filter_cons_of_neg (by simp [goesB, hs])]; rfl
  · rw [if_neg hs, List.filter_cons_of_pos (by simp [goesB, hs])]; rfl
theorem withoutL_R (fs : List (List UInt8 × List UInt8)) : skipL fs (hopL ++ allL fs connL) = withoutL fs := by
  unfold skipL withoutL
  rw [List.filter_append]
  have : hopL.filter goesB = hopL := by decide
  rw [this]; rfl
/-- The switch of the reference: five names in small letters. -/
theorem stays_low (n : List UInt8) : staysB n = decide (lowL n ∈ stayL) := by
  rw [Bool.eq_iff_iff, decide_eq_true_iff]
  unfold staysB
  rw [List.any_eq_true]
  have hl : ∀ s ∈ stayL, lowL s = s := by decide
  constructor
  · rintro ⟨s, hs, h⟩
    rw [sameL_iff, hl s hs] at h
    rw [← h]; exact hs
  · intro h
    exact ⟨_, h, by rw [sameL_iff, lowL_idem]⟩
theorem namesL_len (fs : List (List UInt8 × List UInt8)) (h : fsOk fs) : (namesL fs).length ≤ fs.length * 1000001 := by
  have h1 := allV_len _ (getL_mem h connL)
  have h2 := getL_len fs connL
  have h3 : (namesL fs).length ≤ (allL fs connL).length := List.length_filter_le _ _
  have h4 : (allL fs connL).length ≤ (getL fs connL).length * 1000001 := h1
  exact Nat.le_trans h3 (Nat.le_trans h4 (Nat.mul_le_mul_right _ h2))
theorem namesL_mem (fs : List (List UInt8 × List UInt8)) (h : fsOk fs) : ∀ x ∈ namesL fs, x.length ≤ 1000000 := fun x hx => allV_mem _ (getL_mem h connL) x (List.mem_filter.1 hx).1
/-- What is left has none of the names. -/
theorem getL_drops {names : List (List UInt8)} {n m : List UInt8} (hn : n ∈ names) (hm : lowL m = lowL n) (fs : List (List UInt8 × List UInt8)) : getL (dropsL fs names) m = [] := by
  rw [dropsL_filter]
  unfold getL
  rw [List.filter_filter]
  have : (fs.filter fun f => sameL f.1 m && !names.any fun n => sameL f.1 n) = [] := by
    rw [List.filter_eq_nil_iff]
    intro f _ h
    simp only [Bool.and_eq_true, Bool.not_eq_true', List.any_eq_false] at h
    have := h.2 n hn
    rw [sameL_congr hm] at h
    exact this h.1
  rw [this]; rfl
theorem getL_append (a b : List (List UInt8 × List UInt8)) (n : List UInt8) : getL (a ++ b) n = getL a n ++ getL b n := by unfold getL; rw [List.filter_append, List.map_append]
/-- Fields of names that stay are left. -/
theorem getL_stays {names : List (List UInt8)} {m : List UInt8} (hm : ∀ n ∈ names, sameL m n = false) (fs : List (List UInt8 × List UInt8)) : getL (dropsL fs names) m = getL fs m := by
  rw [dropsL_filter]
  unfold getL
  rw [List.filter_filter]
  congr 1
  refine List.filter_congr fun f _ => ?_
  rcases hs : sameL f.1 m with _ | _
  · rfl
  · have : (names.any fun n => sameL f.1 n) = false := by
      rw [List.any_eq_false]
      intro n hn h
      have h1 := hm n hn
      have e1 := sameL_iff.1 hs
      have e2 := sameL_iff.1 h
      have : sameL m n = true := sameL_iff.2 (e1.symm.trans e2)
      rw [h1] at this; cases this
    rw [this]; rfl
end Go.Proofs.YtgdjlmpfjmakkaaGreatDoor

/- Heads that go on: plain lists. -/
namespace Go.Proofs.YtgdjlmpfjmakkaaGreatDoor

def teC : List UInt8 := [84, 114, 97, 110, 115, 102, 101, 114, 45, 69, 110, 99, 111, 100, 105, 110, 103]
def chunkF : List UInt8 × List UInt8 := (teC, chunkedL)
def connC : List UInt8 := [67, 111, 110, 110, 101, 99, 116, 105, 111, 110]
def closeF : List UInt8 × List UInt8 := (connC, [99, 108, 111, 115, 101])
def md5C : List UInt8 := [67, 111, 110, 116, 101, 110, 116, 45, 77, 68, 53]
def rangesC : List UInt8 := [65, 99, 99, 101, 112, 116, 45, 82, 97, 110, 103, 101, 115]
def codeC : List UInt8 := [67, 111, 110, 116, 101, 110, 116, 45, 69, 110, 99, 111, 100, 105, 110, 103]
def lenC : List UInt8 := [67, 111, 110, 116, 101, 110, 116, 45, 76, 101, 110, 103, 116, 104]
def etagC : List UInt8 := [69, 84, 97, 103]
def varyC : List UInt8 := [86, 97, 114, 121]
def aeC : List UInt8 := [65, 99, 99, 101, 112, 116, 45, 69, 110, 99, 111, 100, 105, 110, 103]
def varyF : List UInt8 × List UInt8 := (varyC, aeC)
def requestF (fs : List (List UInt8 × List UInt8)) (kind : Int) : List (List UInt8 × List UInt8) := if kind = 2 then withoutL fs ++ [chunkF] else withoutL fs
theorem requestF_len (fs : List (List UInt8 × List UInt8)) (kind : Int) : (requestF fs kind).length ≤ fs.length + 1 := by
  have : (withoutL fs).length ≤ fs.length := dropsL_len _ _
  unfold requestF; split <;> simp <;> omega
theorem fsOk_append {a b : List (List UInt8 × List UInt8)} (ha : fsOk a) (hb : fsOk b) : fsOk (a ++ b) := by
  intro f hf
  rcases List.mem_append.1 hf with h | h
  · exact ha f h
  · exact hb f h
theorem fsOk_without {fs : List (List UInt8 × List UInt8)} (h : fsOk fs) : fsOk (withoutL fs) := fsOk_drops h _
theorem fsOk_chunk : fsOk [chunkF] := by intro f hf; rw [List.mem_singleton.1 hf]; decide
theorem requestF_ok {fs : List (List UInt8 × List UInt8)} (h : fsOk fs) (kind : Int) : fsOk (requestF fs kind) := by
  unfold requestF; split
  · exact fsOk_append (fsOk_without h) fsOk_chunk
  · exact fsOk_without h
theorem get_hop {n m : List UInt8} (hn : n ∈ hopL) (hm : lowL m = lowL n) (fs : List (List UInt8 × List UInt8)) : getL (withoutL fs) m = [] := getL_drops (List.mem_append_left _ hn) hm fs
theorem request_conn (fs : List (List UInt8 × List UInt8)) (kind : Int) : getL (requestF fs kind) connC = [] := by
  have h1 : getL (withoutL fs) connC = [] := get_hop (n := connL) (by decide) (by decide) fs
  unfold requestF; split
  · rw [getL_append, h1]; decide
  · exact h1
theorem request_te (fs : List (List UInt8 × List UInt8)) (kind : Int) : getL (requestF fs kind) [84, 69] = [] := by
  have h1 : getL (withoutL fs) [84, 69] = [] := get_hop (n := [116, 101]) (by decide) (by decide) fs
  unfold requestF; split
  · rw [getL_append, h1]; decide
  · exact h1
theorem request_tr (fs : List (List UInt8 × List UInt8)) (kind : Int) : getL (requestF fs kind) teC = if kind = 2 then [chunkedL] else [] := by
  have h1 : getL (withoutL fs) teC = [] := get_hop (n := nameTE) (by decide) (by decide) fs
  unfold requestF; split
  · rw [getL_append, h1]; decide
  · exact h1
/-- Once more. -/
theorem allL_nil {fs : List (List UInt8 × List UInt8)} {n : List UInt8} (h : getL fs n = []) : allL fs n = [] := by unfold allL allV; rw [h]; rfl
theorem drops_same {fs : List (List UInt8 × List UInt8)} {names : List (List UInt8)} (h : ∀ f ∈ fs, ∀ n ∈ names, sameL f.1 n = false) : dropsL fs names = fs := by
  rw [dropsL_filter, List.filter_eq_self]
  intro f hf
  have : (names.any fun n => sameL f.1 n) = false := by
    rw [List.any_eq_false]; intro n hn h1; rw [h f hf n hn] at h1; cases h1
  rw [this]; rfl
theorem without_clean (fs : List (List UInt8 × List UInt8)) : ∀ f ∈ withoutL fs, ∀ n ∈ hopL, sameL f.1 n = false := by
  intro f hf n hn
  unfold withoutL at hf
  rw [dropsL_filter] at hf
  have := (List.mem_filter.1 hf).2
  simp only [Bool.not_eq_true', List.any_eq_false] at this
  have h2 := this n (List.mem_append_left _ hn)
  simpa using h2
theorem without_names {fs : List (List UInt8 × List UInt8)} (h : getL fs connL = []) : withoutL fs = dropsL fs hopL := by
  unfold withoutL namesL; rw [allL_nil h]; simp
theorem without_hops {fs : List (List UInt8 × List UInt8)} (l : List (List UInt8 × List UInt8)) (hc : ∀ f ∈ fs, ∀ n ∈ hopL, sameL f.1 n = false) (hl : dropsL l hopL = []) (hg : getL l connL = []) : withoutL (fs ++ l) = fs := by
  have h0 : getL fs connL = [] := by
    unfold getL
    rw [List.map_eq_nil_iff, List.filter_eq_nil_iff]
    intro f hf h
    rw [hc f hf connL (by decide)] at h; cases h
  rw [without_names (by rw [getL_append, h0, hg]; rfl), dropsL_filter, List.filter_append, ← dropsL_filter, ← dropsL_filter, drops_same hc, hl, List.append_nil]
theorem request_twice (fs : List (List UInt8 × List UInt8)) (kind : Int) : requestF (requestF fs kind) kind = requestF fs kind := by
  have hc := without_clean fs
  have h0 : withoutL (withoutL fs) = withoutL fs := by have := without_hops [] hc rfl rfl; simpa using this
  have h1 : withoutL (withoutL fs ++ [chunkF]) = withoutL fs := without_hops _ hc (by decide) (by decide)
  unfold requestF
  by_cases hk : kind = 2
  · simp only [if_pos hk]; rw [h1]
  · simp only [if_neg hk]; exact h0
end Go.Proofs.YtgdjlmpfjmakkaaGreatDoor

/- Responses that go on: plain lists. -/
namespace Go.Proofs.YtgdjlmpfjmakkaaGreatDoor

def weakL (t : List UInt8) : List UInt8 := if t.take 2 = [87, 47] then t else 87 :: 47 :: t
def cnameL : Nat → List UInt8
  | 0 => [105, 100, 101, 110, 116, 105, 116, 121]
  | 1 => [103, 122, 105, 112]
  | 2 => [100, 101, 102, 108, 97, 116, 101]
  | _ => []
def turn1 (fs : List (List UInt8 × List UInt8)) : List (List UInt8 × List UInt8) := dropL (dropL (dropL (dropL fs codeC) lenC) md5C) rangesC
def turn2 (fs : List (List UInt8 × List UInt8)) : List (List UInt8 × List UInt8) := if 0 < (getL fs etagC).length then setL fs etagC (weakL ((getL fs etagC).headD [])) else fs
def turn3 (fs : List (List UInt8 × List UInt8)) (to : Nat) : List (List UInt8 × List UInt8) := if to ≠ 0 then setL fs codeC (cnameL to) else fs
def turn4 (fs : List (List UInt8 × List UInt8)) : List (List UInt8 × List UInt8) := if hasL fs varyC aeC = false ∧ hasL fs varyC [42] = false then fs ++ [varyF] else fs
def turnedL (fs : List (List UInt8 × List UInt8)) (to : Nat) : List (List UInt8 × List UInt8) := turn4 (turn3 (turn2 (turn1 fs)) to)
def respK (pass : Bool) (kind minor : Int) : Int := if kind = 0 ∨ pass = true ∧ kind = 1 then kind else if minor = 1 then 2 else 3
def respN (pass : Bool) (kind len : Int) : Int := if kind = 0 ∨ pass = true ∧ kind = 1 then len else 0
def respF (fs : List (List UInt8 × List UInt8)) (pass : Bool) (to : Nat) (kind minor : Int) (keep : Bool) : List (List UInt8 × List UInt8) :=
  (if pass then withoutL fs else turnedL (withoutL fs) to) ++ (if ¬ (kind = 0 ∨ pass = true ∧ kind = 1) ∧ minor = 1 then [chunkF] else []) ++ (if keep = false ∨ respK pass kind minor = 3 then [closeF] else [])

theorem turn1_drops (fs : List (List UInt8 × List UInt8)) : turn1 fs = dropsL fs [codeC, lenC, md5C, rangesC] := rfl
theorem fsOk_turn1 {fs : List (List UInt8 × List UInt8)} (h : fsOk fs) : fsOk (turn1 fs) := by rw [turn1_drops]; exact fsOk_drops h _
theorem weakL_len (t : List UInt8) : (weakL t).length ≤ t.length + 2 := by unfold weakL; split <;> simp
theorem getL_set_other {n m : List UInt8} (h : sameL n m = false) (v : List UInt8) (fs : List (List UInt8 × List UInt8)) : getL (setL fs n v) m = getL fs m := by
  have hne : ¬ lowL n = lowL m := fun e => by rw [sameL_iff.2 e] at h; cases h
  rw [setL_R]
  have hd : getL (dropL fs n) m = getL fs m := by
    have := getL_stays (names := [n]) (m := m) (by intro x hx; rw [List.mem_singleton.1 hx]; rcases hs : sameL m n with _ | _; rfl; exact absurd (sameL_iff.1 hs).symm hne) fs
    exact this
  clear hd
  induction fs with
  | nil => rw [setR, getL_cons, if_neg (by rw [h]; simp)]
  | cons f fs ih =>
    have hd : getL (dropL fs n) m = getL fs m := by
      have := getL_stays (names := [n]) (m := m) (by intro x hx; rw [List.mem_singleton.1 hx]; rcases hs : sameL m n with _ | _; rfl; exact absurd (sameL_iff.1 hs).symm hne) fs
      exact this
    rw [setR]
    by_cases hf : sameL f.1 n = true
    · rw [if_pos hf, getL_cons, getL_cons, hd]
      have : ¬ sameL f.1 m = true := fun e => hne ((sameL_iff.1 hf).symm.trans (sameL_iff.1 e))
      rw [if_neg this, if_neg this]
    · rw [if_neg hf, getL_cons, getL_cons, ih]
theorem turn2_len (fs : List (List UInt8 × List UInt8)) : (turn2 fs).length ≤ fs.length + 1 := by
  unfold turn2; split
  · exact setL_len _ _ _
  · omega
theorem head_le {fs : List (List UInt8 × List UInt8)} {b : Nat} (hok : ∀ f ∈ fs, f.2.length ≤ b) (n : List UInt8) : ((getL fs n).headD []).length ≤ b := by
  cases hg : getL fs n with
  | nil => simp
  | cons t l =>
    have : t ∈ getL fs n := by rw [hg]; simp
    obtain ⟨f, hf, rfl⟩ := List.mem_map.1 this
    exact hok f (List.mem_filter.1 hf).1
end Go.Proofs.YtgdjlmpfjmakkaaGreatDoor
