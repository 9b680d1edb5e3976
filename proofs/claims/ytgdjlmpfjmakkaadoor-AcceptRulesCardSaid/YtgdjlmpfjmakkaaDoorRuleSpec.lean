/- AcceptRules' list of weights, and what it says of two codings: plain lists. -/
import Derived.Test.YtgdjlmpfjmakkaaDoorCaseSpec
import Derived.Test.YtgdjlmpfjmakkaaDoorQ
namespace Go.Proofs.YtgdjlmpfjmakkaaDoor
open Go.RowKit

def nameR : Nat → List UInt8
  | 0 => gzipL
  | 1 => [100, 101, 102, 108, 97, 116, 101]
  | 2 => identL
  | _ => [98, 114]
def ruleL (k q : Nat) : List UInt8 := nameR (k % 4) ++ [59, 113, 61] ++ wtxt q
def starL (q : Nat) : List UInt8 := [42, 59, 113, 61] ++ wtxt q
def rulesL (qs : List Nat) : List (List UInt8) := qs.mapIdx ruleL
def itemsR (qs : List Nat) : List (List UInt8 × Nat) := qs.mapIdx fun k q => (nameR (k % 4), q)
def catR (xs : List (List UInt8)) : List UInt8 := xs.flatMap fun x => 44 :: 32 :: x
def listR (qs : List Nat) (has : Bool) (s : Nat) : List UInt8 := (if has then starL s else []) ++ catR (rulesL qs)
theorem nameR_facts : ∀ k, k < 4 → (∀ c ∈ nameR k, c ≠ 59 ∧ c ≠ 34 ∧ c ≠ 44) ∧ lowL (trimL (nameR k)) = nameR k ∧ goodNameL (nameR k) = true ∧ nameR k ≠ xgzipL ∧ (nameR k).length ≤ 8 := by decide
theorem nameR_head : ∀ k, k < 4 → ∃ h : nameR k ≠ [], blankB ((nameR k).head h) = false := by
  intro k hk
  rcases k with _ | _ | _ | _ | k
  · exact ⟨by decide, by decide⟩
  · exact ⟨by decide, by decide⟩
  · exact ⟨by decide, by decide⟩
  · exact ⟨by decide, by decide⟩
  · omega
theorem member_rule (k q : Nat) (hq : q ≤ 1000) : memberL (ruleL k q) = ((nameR (k % 4), q), true) := by
  obtain ⟨f1, f2, f3, f4, _⟩ := nameR_facts (k % 4) (by omega)
  have e : ruleL k q = nameR (k % 4) ++ 59 :: ([] ++ ([113, 61] ++ wtxt q)) := by unfold ruleL; simp
  rw [e, memberL_of _ _ _ [113, 61] _ (fun c hc => (f1 c hc).1) f2 f3 (tail_trim _ hq [] _ rfl (.inl rfl)) rfl (by decide) hq, if_neg f4]
theorem member_star (q : Nat) (hq : q ≤ 1000) : memberL (starL q) = (([42], q), true) := by
  have e : starL q = [42] ++ 59 :: ([] ++ ([113, 61] ++ wtxt q)) := by unfold starL; simp
  rw [e, memberL_of _ _ _ [113, 61] _ (by decide) rfl (by decide) (tail_trim _ hq [] _ rfl (.inl rfl)) rfl (by decide) hq]
  rfl
theorem memb_rule (k q : Nat) (hq : q ≤ 1000) : Memb (ruleL k q) :=
  memb_of3 _ _ _ (nameR_head (k % 4) (by omega)) (wtxt_last _ hq) (fun c hc => ((nameR_facts (k % 4) (by omega)).1 c hc).2) (by decide) (plain_w _ hq)
theorem memb_star (q : Nat) (hq : q ≤ 1000) : Memb (starL q) := by
  have := memb_of3 [42] [59, 113, 61] _ ⟨by decide, by decide⟩ (wtxt_last _ hq) (by decide) (by decide) (plain_w _ hq)
  exact this
theorem rules_mem {qs : List Nat} (hq : ∀ q ∈ qs, q ≤ 1000) : ∀ x ∈ rulesL qs, Memb x := by
  intro x hx
  unfold rulesL at hx
  obtain ⟨k, hk, rfl⟩ := List.mem_mapIdx.1 hx
  exact memb_rule _ _ (hq _ (List.getElem_mem _))
theorem memL_mapIdx (g : Nat → Nat → List UInt8) (m : Nat → Nat → List UInt8 × Nat) : ∀ (qs : List Nat) (d : Nat), (∀ k, ∀ q ∈ qs, memberL (g k q) = (m k q, true)) → memL (qs.mapIdx fun k q => g (k + d) q) = qs.mapIdx fun k q => m (k + d) q
  | [], _, _ => rfl
  | q :: qs, d, h => by
    rw [List.mapIdx_cons, List.mapIdx_cons]
    have e : ∀ l, memL (g (0 + d) q :: l) = (if (memberL (g (0 + d) q)).2 = true then [(memberL (g (0 + d) q)).1] else []) ++ memL l := fun _ => rfl
    rw [e, h _ q (by simp), if_pos rfl]
    have := memL_mapIdx g m qs (d + 1) (fun k x hx => h k x (by simp [hx]))
    simp only [show ∀ k, k + 1 + d = k + (d + 1) from fun k => by omega]
    rw [this]; rfl
theorem mem_rules {qs : List Nat} (hq : ∀ q ∈ qs, q ≤ 1000) : memL (rulesL qs) = itemsR qs := by
  have := memL_mapIdx ruleL (fun k q => (nameR (k % 4), q)) qs 0 (fun k q h => member_rule k q (hq q h))
  exact this
theorem cat_join : ∀ (x : List UInt8) (xs : List (List UInt8)), catR (x :: xs) = 44 :: 32 :: joinL [44, 32] (x :: xs)
  | x, [] => by simp [catR, joinL]
  | x, y :: l => by
    have := cat_join y l
    have e : catR (x :: y :: l) = 44 :: 32 :: x ++ catR (y :: l) := by simp [catR]
    rw [e, this]; simp [joinL]
theorem star_join (s : List UInt8) (xs : List (List UInt8)) : s ++ catR xs = joinL [44, 32] (s :: xs) := by
  cases xs with
  | nil => simp [catR, joinL]
  | cons x xs => rw [cat_join]; simp [joinL]
theorem split_listR {qs : List Nat} (hq : ∀ q ∈ qs, q ≤ 1000) (has : Bool) (s : Nat) (hs : s ≤ 1000) : splitL (listR qs has s) = (if has then [starL s] else []) ++ rulesL qs := by
  have hm := rules_mem hq
  unfold listR
  cases has
  · simp only [Bool.false_eq_true, if_false, List.nil_append]
    cases hr : rulesL qs with
    | nil =>
      have := split_join [] [32] rfl (.inl (by decide)) [] [] rfl (by simp)
      exact this
    | cons x xs =>
      rw [hr] at hm
      have h1 := split_at [] (32 :: joinL [44, 32] (x :: xs)) (fun r => by simp)
      have h2 := split_join [] [32] rfl (.inl (by decide)) (x :: xs) [32] (by decide) hm
      have h0 : trimL [] = [] := by have := trim_mid [] [] [] rfl rfl (.inl rfl) (.inl rfl); simpa using this
      have h1' : splitL (44 :: 32 :: joinL [44, 32] (x :: xs)) = pieceL [] ++ splitL (32 :: joinL [44, 32] (x :: xs)) := h1
      have h2' : splitL (32 :: joinL [44, 32] (x :: xs)) = x :: xs := h2
      rw [cat_join, h1', h2']
      simp [pieceL, h0]
  · simp only [if_true]
    rw [star_join]
    have := split_join [] [32] rfl (.inl (by decide)) (starL s :: rulesL qs) [] rfl (by
      intro x hx
      rcases List.mem_cons.1 hx with rfl | hx
      · exact memb_star s hs
      · exact hm x hx)
    exact this
theorem members_listR {qs : List Nat} (hq : ∀ q ∈ qs, q ≤ 1000) (has : Bool) (s : Nat) (hs : s ≤ 1000) : membersL [listR qs has s] = (if has then [([42], s)] else []) ++ itemsR qs := by
  have e : membersL [listR qs has s] = memL (splitL (listR qs has s)) := by simp [membersL, allV]
  rw [e, split_listR hq has s hs, memL_append, mem_rules hq]
  cases has
  · rfl
  · have : memL [starL s] = [([42], s)] := by
      have e : memL [starL s] = (if (memberL (starL s)).2 = true then [(memberL (starL s)).1] else []) ++ [] := rfl
      rw [e, member_star s hs]; rfl
    simp only [if_true]; rw [this]
def gzI : List Nat → Int
  | [] => -1
  | q :: _ => q
def idI : List Nat → Int
  | _ :: _ :: q :: _ => q
  | _ => -1
def wantG (qs : List Nat) (has : Bool) (s : Nat) : Nat := match qs with
  | [] => if has then s else 0
  | q :: _ => q
def wantI (qs : List Nat) (has : Bool) (s : Nat) : Nat := match qs with
  | _ :: _ :: q :: _ => q
  | _ => if has then s else 1000
theorem q_gz {qs : List Nat} (hq : ∀ q ∈ qs, q ≤ 1000) (has : Bool) (s : Nat) (hs : s ≤ 1000) : qL [listR qs has s] gzipL = wantG qs has s := by
  unfold qL
  rw [if_neg (by simp), members_listR hq has s hs]
  cases has <;> rcases qs with _ | ⟨a, l⟩ <;> simp [itemsR, lookI, wantG, nameR, gzipL, identL, List.mapIdx_cons]
theorem q_id {qs : List Nat} (hq : ∀ q ∈ qs, q ≤ 1000) (has : Bool) (s : Nat) (hs : s ≤ 1000) : qL [listR qs has s] identL = wantI qs has s := by
  unfold qL
  rw [if_neg (by simp), members_listR hq has s hs]
  cases has <;> rcases qs with _ | ⟨a, _ | ⟨b, _ | ⟨c, l⟩⟩⟩ <;> simp [itemsR, lookI, wantI, nameR, gzipL, identL, List.mapIdx_cons]
theorem gz_snoc (qs : List Nat) (k : Nat) (h : k < qs.length) : gzI (qs.take (k + 1)) = if k = 0 then (qs[k] : Int) else gzI (qs.take k) := by
  rcases qs with _ | ⟨a, l⟩
  · simp at h
  · rcases k with _ | k
    · simp [gzI]
    · simp [gzI]
theorem id_snoc (qs : List Nat) (k : Nat) (h : k < qs.length) : idI (qs.take (k + 1)) = if k = 2 then (qs[k] : Int) else idI (qs.take k) := by
  rcases qs with _ | ⟨a, _ | ⟨b, _ | ⟨c, l⟩⟩⟩
  · simp at h
  · rcases k with _ | k
    · simp [idI]
    · simp at h
  · rcases k with _ | _ | k
    · simp [idI]
    · simp [idI]
    · have h2 : k + 1 + 1 < 2 := h
      omega
  · rcases k with _ | _ | _ | k
    · simp [idI]
    · simp [idI]
    · simp [idI]
    · simp [idI]
theorem gz_sign (qs : List Nat) (k : Nat) (h : k ≤ qs.length) : (k = 0 → gzI (qs.take k) = -1) ∧ (0 < k → 0 ≤ gzI (qs.take k)) := by
  rcases qs with _ | ⟨a, l⟩
  · obtain rfl : k = 0 := by simpa using h
    simp [gzI]
  · rcases k with _ | k
    · simp [gzI]
    · simp [gzI]
theorem id_sign (qs : List Nat) (k : Nat) (h : k ≤ qs.length) : (k ≤ 2 → idI (qs.take k) = -1) ∧ (2 < k → 0 ≤ idI (qs.take k)) := by
  rcases qs with _ | ⟨a, _ | ⟨b, _ | ⟨c, l⟩⟩⟩
  · obtain rfl : k = 0 := by simpa using h
    simp [idI]
  · rcases k with _ | _ | k
    · simp [idI]
    · simp [idI]
    · simp at h
  · rcases k with _ | _ | _ | k
    · simp [idI]
    · simp [idI]
    · simp [idI]
    · simp at h
  · rcases k with _ | _ | _ | k
    · simp [idI]
    · simp [idI]
    · simp [idI]
    · simp [idI]
theorem rules_snoc (qs : List Nat) (k : Nat) (h : k < qs.length) : catR (rulesL (qs.take (k + 1))) = catR (rulesL (qs.take k)) ++ (44 :: 32 :: ruleL k qs[k]) := by
  have e : rulesL (qs.take (k + 1)) = rulesL (qs.take k) ++ [ruleL k qs[k]] := by
    unfold rulesL
    rw [list_take_snoc qs k h, List.mapIdx_append]
    simp [List.length_take, Nat.min_eq_left (Nat.le_of_lt h)]
  rw [e]; unfold catR; rw [List.flatMap_append]; simp
theorem rules_len : ∀ (xs : List (List UInt8)), (∀ x ∈ xs, x.length ≤ 16) → (catR xs).length ≤ xs.length * 18
  | [], _ => by simp [catR]
  | x :: xs, h => by
    have h1 := h x (by simp)
    have h2 := rules_len xs fun y hy => h y (by simp [hy])
    have e : catR (x :: xs) = 44 :: 32 :: x ++ catR xs := by simp [catR]
    rw [e, List.length_append, List.length_cons, List.length_cons, List.length_cons]; omega
theorem ruleL_len (k q : Nat) (hq : q ≤ 1000) : (ruleL k q).length ≤ 16 := by
  have h1 := (nameR_facts (k % 4) (by omega)).2.2.2.2
  have h2 := (wtxt_plain q hq).2
  unfold ruleL; simp [h2]; omega
theorem catR_le (qs : List Nat) (hq : ∀ q ∈ qs, q ≤ 1000) : (catR (rulesL qs)).length ≤ qs.length * 18 := by
  have := rules_len (rulesL qs) (by
    intro x hx
    unfold rulesL at hx
    obtain ⟨k, hk, rfl⟩ := List.mem_mapIdx.1 hx
    exact ruleL_len _ _ (hq _ (List.getElem_mem _)))
  simpa [rulesL] using this
end Go.Proofs.YtgdjlmpfjmakkaaDoor
