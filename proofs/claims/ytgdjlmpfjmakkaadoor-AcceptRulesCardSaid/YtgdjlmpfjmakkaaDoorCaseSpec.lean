/- AcceptCase's texts: the same members, however they are written. -/
import Derived.Test.YtgdjlmpfjmakkaaDoorMemT
import Derived.Test.YtgdjlmpfjmakkaaDoorItems
namespace Go.Proofs.YtgdjlmpfjmakkaaDoor
open Go.RowKit

def nameC : Nat → List UInt8
  | 0 => [103, 122, 105, 112]
  | 1 => [100, 101, 102, 108, 97, 116, 101]
  | 2 => [105, 100, 101, 110, 116, 105, 116, 121]
  | 3 => [120, 45, 103, 122, 105, 112]
  | _ => [42]
def upC : Nat → List UInt8
  | 0 => [71, 90, 73, 80]
  | 1 => [68, 101, 102, 108, 97, 116, 101]
  | 2 => [73, 68, 69, 78, 84, 73, 84, 89]
  | 3 => [88, 45, 71, 122, 105, 112]
  | _ => [42]
def midC (bl : Bool) : List UInt8 := if bl then [9, 59, 9, 113, 61] else [32, 59, 32, 81, 61]
def itemA (v : Nat) : List UInt8 := nameC (v % 5) ++ [59, 113, 61] ++ wtxt (v / 5 % 1001)
def itemB (bl : Bool) (v : Nat) : List UInt8 := upC (v % 5) ++ midC bl ++ wtxt (v / 5 % 1001)
def itemM (v : Nat) : List UInt8 × Nat := (if nameC (v % 5) = xgzipL then gzipL else nameC (v % 5), v / 5 % 1001)
theorem last_app (a : List UInt8) {b : List UInt8} (hb : b ≠ []) (h : a ++ b ≠ []) : (a ++ b).getLast h = b.getLast hb := by rw [List.getLast_append_of_ne_nil]
theorem wtxt_last (q : Nat) (h : q ≤ 1000) : ∃ hne : wtxt q ≠ [], blankB ((wtxt q).getLast hne) = false := by
  obtain ⟨h1, h2⟩ := wtxt_plain q h
  have hne : wtxt q ≠ [] := by intro e; rw [e] at h2; simp at h2
  exact ⟨hne, (plain_not (List.all_eq_true.1 h1 _ (List.getLast_mem hne))).2.2⟩
theorem trim_same {x : List UInt8} (hne : x ≠ []) (hf : blankB (x.head hne) = false) (hl : blankB (x.getLast hne) = false) (p : List UInt8) (hp : p.all blankB = true) : trimL (p ++ x) = x := by
  have := trim_mid p x [] hp rfl (.inr ⟨x.head hne, List.head?_eq_some_head hne, hf⟩) (.inr ⟨x.getLast hne, List.getLast?_eq_some_getLast hne, hl⟩)
  simpa using this
theorem up_facts : ∀ k, k < 5 → (∀ c ∈ nameC k, c ≠ 59 ∧ c ≠ 34 ∧ c ≠ 44) ∧ (∀ c ∈ upC k, c ≠ 59 ∧ c ≠ 34 ∧ c ≠ 44) ∧ lowL (trimL (nameC k)) = nameC k ∧ lowL (trimL (upC k ++ [32])) = nameC k ∧ lowL (trimL (upC k ++ [9])) = nameC k ∧ goodNameL (nameC k) = true := by decide
theorem tail_trim (q : Nat) (hq : q ≤ 1000) (p qq : List UInt8) (hp : p.all blankB = true) (hqq : qq = [113, 61] ∨ qq = [81, 61]) : trimL (p ++ (qq ++ wtxt q)) = qq ++ wtxt q := by
  obtain ⟨hne, hl⟩ := wtxt_last q hq
  have hn2 : qq ++ wtxt q ≠ [] := by simp [hne]
  refine trim_same hn2 ?_ ?_ p hp
  · rcases hqq with rfl | rfl <;> rfl
  · rw [last_app qq hne]; exact hl
theorem memberA (v : Nat) : memberL (itemA v) = (itemM v, true) := by
  have hq : v / 5 % 1001 ≤ 1000 := by omega
  obtain ⟨f1, _, f3, _, _, f6⟩ := up_facts (v % 5) (by omega)
  have e : itemA v = nameC (v % 5) ++ 59 :: ([] ++ ([113, 61] ++ wtxt (v / 5 % 1001))) := by unfold itemA; simp
  rw [e]
  exact memberL_of _ _ _ [113, 61] _ (fun c hc => (f1 c hc).1) f3 f6 (tail_trim _ hq [] _ rfl (.inl rfl)) rfl (by decide) hq
theorem memberB (bl : Bool) (v : Nat) : memberL (itemB bl v) = (itemM v, true) := by
  have hq : v / 5 % 1001 ≤ 1000 := by omega
  obtain ⟨_, f2, _, f4, f5, f6⟩ := up_facts (v % 5) (by omega)
  cases bl
  · have e : itemB false v = (upC (v % 5) ++ [32]) ++ 59 :: ([32] ++ ([81, 61] ++ wtxt (v / 5 % 1001))) := by unfold itemB midC; simp
    rw [e]
    refine memberL_of _ _ _ [81, 61] _ (fun c hc => ?_) f4 f6 (tail_trim _ hq [32] _ (by decide) (.inr rfl)) rfl (by decide) hq
    rcases List.mem_append.1 hc with h | h
    · exact (f2 c h).1
    · rw [List.mem_singleton.1 h]; decide
  · have e : itemB true v = (upC (v % 5) ++ [9]) ++ 59 :: ([9] ++ ([113, 61] ++ wtxt (v / 5 % 1001))) := by unfold itemB midC; simp
    rw [e]
    refine memberL_of _ _ _ [113, 61] _ (fun c hc => ?_) f5 f6 (tail_trim _ hq [9] _ (by decide) (.inl rfl)) rfl (by decide) hq
    rcases List.mem_append.1 hc with h | h
    · exact (f2 c h).1
    · rw [List.mem_singleton.1 h]; decide
theorem plain_w (q : Nat) (hq : q ≤ 1000) : ∀ c ∈ wtxt q, c ≠ 34 ∧ c ≠ 44 := fun c hc => by
  have := plain_not (List.all_eq_true.1 (wtxt_plain q hq).1 c hc)
  exact ⟨this.1, this.2.1⟩
theorem head_facts : ∀ k, k < 5 → (∃ h : nameC k ≠ [], blankB ((nameC k).head h) = false) ∧ (∃ h : upC k ≠ [], blankB ((upC k).head h) = false) := by
  intro k hk
  rcases k with _ | _ | _ | _ | _ | k
  · exact ⟨⟨by decide, by decide⟩, ⟨by decide, by decide⟩⟩
  · exact ⟨⟨by decide, by decide⟩, ⟨by decide, by decide⟩⟩
  · exact ⟨⟨by decide, by decide⟩, ⟨by decide, by decide⟩⟩
  · exact ⟨⟨by decide, by decide⟩, ⟨by decide, by decide⟩⟩
  · exact ⟨⟨by decide, by decide⟩, ⟨by decide, by decide⟩⟩
  · omega
theorem memb_of3 (a m b : List UInt8) (ha : ∃ h : a ≠ [], blankB (a.head h) = false) (hb : ∃ h : b ≠ [], blankB (b.getLast h) = false) (h1 : ∀ c ∈ a, c ≠ 34 ∧ c ≠ 44) (h2 : ∀ c ∈ m, c ≠ 34 ∧ c ≠ 44) (h3 : ∀ c ∈ b, c ≠ 34 ∧ c ≠ 44) : Memb (a ++ m ++ b) := by
  obtain ⟨ha, hf⟩ := ha
  obtain ⟨hb, hl⟩ := hb
  have hne : a ++ m ++ b ≠ [] := by simp [ha]
  refine memb_plain hne (fun c hc => ?_) ?_ ?_
  · rcases List.mem_append.1 hc with h | h
    · rcases List.mem_append.1 h with h | h
      · exact h1 c h
      · exact h2 c h
    · exact h3 c h
  · have : (a ++ m ++ b).head hne = a.head ha := by
      cases a with
      | nil => exact absurd rfl ha
      | cons x a => rfl
    rw [this]; exact hf
  · rw [last_app (a ++ m) hb]; exact hl
theorem membA (v : Nat) : Memb (itemA v) := by
  have hq : v / 5 % 1001 ≤ 1000 := by omega
  exact memb_of3 _ _ _ (head_facts (v % 5) (by omega)).1 (wtxt_last _ hq) (fun c hc => ((up_facts (v % 5) (by omega)).1 c hc).2) (by decide) (plain_w _ hq)
theorem membB (bl : Bool) (v : Nat) : Memb (itemB bl v) := by
  have hq : v / 5 % 1001 ≤ 1000 := by omega
  exact memb_of3 _ _ _ (head_facts (v % 5) (by omega)).2 (wtxt_last _ hq) (fun c hc => ((up_facts (v % 5) (by omega)).2.1 c hc).2) (by cases bl <;> decide) (plain_w _ hq)
theorem memL_map (f : Nat → List UInt8) (hf : ∀ v, memberL (f v) = (itemM v, true)) : ∀ vs : List Nat, memL (vs.map f) = vs.map itemM
  | [] => rfl
  | v :: vs => by
    have e : memL (f v :: vs.map f) = (if (memberL (f v)).2 = true then [(memberL (f v)).1] else []) ++ memL (vs.map f) := rfl
    rw [List.map_cons, e, hf v, if_pos rfl, memL_map f hf vs]; rfl
theorem splitA (vs : List Nat) : splitL (joinL [44] (vs.map itemA)) = vs.map itemA := by
  have := split_join [] [] rfl (.inl rfl) (vs.map itemA) [] rfl (by intro x hx; obtain ⟨v, _, rfl⟩ := List.mem_map.1 hx; exact membA v)
  simpa using this
theorem splitB (bl : Bool) (vs : List Nat) : splitL (joinL [32, 44, 32] (vs.map (itemB bl))) = vs.map (itemB bl) := by
  have := split_join [32] [32] (by decide) (.inl (by decide)) (vs.map (itemB bl)) [] rfl (by intro x hx; obtain ⟨v, _, rfl⟩ := List.mem_map.1 hx; exact membB bl v)
  simpa using this
theorem split_one (bl : Bool) (v : Nat) : splitL (itemB bl v) = [itemB bl v] := by
  have := splitB bl [v]
  simpa [joinL] using this
theorem membersA (vs : List Nat) : membersL [joinL [44] (vs.map itemA)] = vs.map itemM := by
  have e : membersL [joinL [44] (vs.map itemA)] = memL (splitL (joinL [44] (vs.map itemA))) := by simp [membersL, allV]
  rw [e, splitA, memL_map _ memberA]
theorem membersB (bl : Bool) (vs : List Nat) : membersL [joinL [32, 44, 32] (vs.map (itemB bl))] = vs.map itemM := by
  have e : membersL [joinL [32, 44, 32] (vs.map (itemB bl))] = memL (splitL (joinL [32, 44, 32] (vs.map (itemB bl)))) := by simp [membersL, allV]
  rw [e, splitB, memL_map _ (memberB bl)]
theorem membersP (bl : Bool) (vs : List Nat) : membersL (vs.map (itemB bl)) = vs.map itemM := by
  have e : allV (vs.map (itemB bl)) = vs.map (itemB bl) := by
    unfold allV
    induction vs with
    | nil => rfl
    | cons v vs ih => rw [List.map_cons, List.flatMap_cons, ih, split_one]; rfl
  unfold membersL
  rw [e, memL_map _ (memberB bl)]
end Go.Proofs.YtgdjlmpfjmakkaaDoor
