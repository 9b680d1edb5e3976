/- FieldSplits returns true for any string. -/
import Derived.Test.YtfifoimnebbflaaGreatDoorSplit
import Derived.Test.YtfifoimnebbflaaGreatDoorTexts
import Derived.Test.YtfifoimnebbflaaGreatDoorGets
namespace Go.Proofs.YtfifoimnebbflaaGreatDoor.FieldSplitsP
open Go.RowKit

theorem dropWhile_first {p : UInt8 → Bool} : ∀ l : List UInt8, l.dropWhile p = [] ∨ ∃ a, (l.dropWhile p).head? = some a ∧ p a = false
  | [] => .inl rfl
  | x :: l => by
    rw [List.dropWhile_cons]
    by_cases h : p x = true
    · rw [if_pos h]; exact dropWhile_first l
    · rw [if_neg h]; exact .inr ⟨x, rfl, by simpa using h⟩
theorem dropWhile_last {p : UInt8 → Bool} : ∀ l : List UInt8, l.dropWhile p = [] ∨ (l.dropWhile p).getLast? = l.getLast?
  | [] => .inl rfl
  | x :: l => by
    rw [List.dropWhile_cons]
    by_cases h : p x = true
    · rw [if_pos h]
      rcases dropWhile_last (p := p) l with h1 | h1
      · exact .inl h1
      · by_cases h2 : l.dropWhile p = []
        · exact .inl h2
        · right
          rw [h1]
          cases l with
          | nil => simp at h2
          | cons y l => simp [List.getLast?_cons]
    · rw [if_neg h]; exact .inr rfl
theorem trim_idem (y : List UInt8) : trimL (trimL y) = trimL y := by
  have h1 : trimL y = [] ∨ ∃ a, (trimL y).head? = some a ∧ blankB a = false := dropWhile_first (p := blankB) _
  have h2 : trimL y = [] ∨ ∃ a, (trimL y).getLast? = some a ∧ blankB a = false := by
    rcases dropWhile_last (p := blankB) (Lib.trimRightS y [32, 9]) with h | h
    · exact .inl h
    · rcases dropWhile_first (p := blankB) y.reverse with h3 | ⟨a, h3, h4⟩
      · left
        have : Lib.trimRightS y [32, 9] = [] := by show (y.reverse.dropWhile blankB).reverse = []; rw [h3]; rfl
        show (Lib.trimRightS y [32, 9]).dropWhile blankB = []
        rw [this]; rfl
      · right
        refine ⟨a, ?_, h4⟩
        show ((Lib.trimRightS y [32, 9]).dropWhile blankB).getLast? = some a
        rw [h]
        show ((y.reverse.dropWhile blankB).reverse).getLast? = some a
        rw [List.getLast?_reverse, h3]
  have := trim_mid [] (trimL y) [] rfl rfl h1 h2
  simpa using this
theorem trimL_length (l : List UInt8) : (trimL l).length ≤ l.length := by
  show ((Lib.trimRightS l [32, 9]).dropWhile blankB).length ≤ _
  have h1 : ∀ (p : UInt8 → Bool) (m : List UInt8), (m.dropWhile p).length ≤ m.length := fun p m => (List.dropWhile_suffix p).length_le
  refine Nat.le_trans (h1 _ _) ?_
  show ((l.reverse.dropWhile blankB).reverse).length ≤ _
  rw [List.length_reverse]
  refine Nat.le_trans (h1 _ _) ?_
  simp
theorem piece_mem {l x : List UInt8} (h : x ∈ pieceL l) : x.length ≤ l.length := by
  unfold pieceL at h
  split at h
  · simp at h
  · simp at h; subst h; exact trimL_length l
theorem split_mem : ∀ (n : Nat) (l : List UInt8), l.length ≤ n → ∀ x ∈ splitL l, x.length ≤ l.length
  | n, l, h, x, hx => by
    by_cases hc : cutL false l < l.length
    · rw [splitL_step l hc, List.mem_append] at hx
      rcases hx with hx | hx
      · exact Nat.le_trans (piece_mem hx) (by simp; omega)
      · match n with
        | 0 => omega
        | n + 1 => exact Nat.le_trans (split_mem n _ (by simp; omega) x hx) (by simp)
    · rw [splitL_last l hc] at hx; exact piece_mem hx

end Go.Proofs.YtfifoimnebbflaaGreatDoor.FieldSplitsP

/- The reference's All; Has of both. -/
namespace Go.Proofs.YtfifoimnebbflaaGreatDoor
open Go.RowKit

def hasM (ss : List (List UInt8)) (m : List UInt8) : Bool := ss.any fun s => sameL s m
def hasV (vs : List (List UInt8)) (m : List UInt8) : Bool := vs.any fun v => hasM (splitL v) m
def hasL (fs : List (List UInt8 × List UInt8)) (name m : List UInt8) : Bool := hasV (getL fs name) m
def allV (vs : List (List UInt8)) : List (List UInt8) := vs.flatMap splitL
def allL (fs : List (List UInt8 × List UInt8)) (name : List UInt8) : List (List UInt8) := allV (getL fs name)
theorem hasM_snoc (ss : List (List UInt8)) (m : List UInt8) (k : Nat) (h : k < ss.length) : hasM (ss.take (k + 1)) m = (hasM (ss.take k) m || sameL ss[k] m) := by
  unfold hasM; rw [list_take_snoc ss k h, List.any_append, List.any_cons, List.any_nil, Bool.or_false]
theorem hasM_of (ss : List (List UInt8)) (m : List UInt8) (k : Nat) (h : k < ss.length) (hs : sameL ss[k] m = true) : hasM ss m = true := by
  unfold hasM; rw [List.any_eq_true]; exact ⟨_, List.getElem_mem h, hs⟩
theorem hasV_snoc (ss : List (List UInt8)) (m : List UInt8) (k : Nat) (h : k < ss.length) : hasV (ss.take (k + 1)) m = (hasV (ss.take k) m || hasM (splitL ss[k]) m) := by
  unfold hasV; rw [list_take_snoc ss k h, List.any_append, List.any_cons, List.any_nil, Bool.or_false]
theorem hasV_of (ss : List (List UInt8)) (m : List UInt8) (k : Nat) (h : k < ss.length) (hs : hasM (splitL ss[k]) m = true) : hasV ss m = true := by
  unfold hasV; rw [List.any_eq_true]; exact ⟨_, List.getElem_mem h, hs⟩
theorem hasM_all (vs : List (List UInt8)) (m : List UInt8) : hasM (allV vs) m = hasV vs m := by
  unfold hasM allV hasV; rw [List.any_flatMap]; rfl
theorem allV_snoc (vs : List (List UInt8)) (k : Nat) (h : k < vs.length) : allV (vs.take (k + 1)) = allV (vs.take k) ++ splitL vs[k] := by
  unfold allV; rw [list_take_snoc vs k h, List.flatMap_append, List.flatMap_cons, List.flatMap_nil, List.append_nil]
theorem allV_len : ∀ (vs : List (List UInt8)), (∀ v ∈ vs, v.length ≤ 1000000) → (allV vs).length ≤ vs.length * 1000001
  | [], _ => by simp [allV]
  | v :: vs, h => by
    have h1 := split_length v
    have h2 := h v (by simp)
    have h3 := allV_len vs fun x hx => h x (by simp [hx])
    have : allV (v :: vs) = splitL v ++ allV vs := by simp [allV]
    rw [this, List.length_append, List.length_cons]; omega
theorem allV_mem (vs : List (List UInt8)) (h : ∀ v ∈ vs, v.length ≤ 1000000) : ∀ x ∈ allV vs, x.length ≤ 1000000 := by
  intro x hx
  obtain ⟨v, hv, hxv⟩ := List.mem_flatMap.1 hx
  exact Nat.le_trans (FieldSplitsP.split_mem _ _ (Nat.le_refl _) x hxv) (h v hv)
theorem getL_mem {fs : List (List UInt8 × List UInt8)} (h : fsOk fs) (name : List UInt8) : ∀ v ∈ getL fs name, v.length ≤ 1000000 := by
  intro v hv
  unfold getL at hv
  obtain ⟨f, hf, rfl⟩ := List.mem_map.1 hv
  exact (h f (List.mem_filter.1 hf).1).2

end Go.Proofs.YtfifoimnebbflaaGreatDoor

/- concertinalaw16.light: are fields not too many, and not too long? -/
namespace Go.Proofs.YtfifoimnebbflaaGreatDoor
open Go.RowKit

def okF (f : List UInt8 × List UInt8) : Bool := decide (f.1.length ≤ 600) && decide (f.2.length ≤ 6000)
def lightB (fs : List (List UInt8 × List UInt8)) : Bool := fs.all okF
def lightL (fs : List (List UInt8 × List UInt8)) : Bool := lightB fs && decide (fs.length ≤ 100)
theorem lightB_snoc (fs : List (List UInt8 × List UInt8)) (k : Nat) (h : k < fs.length) : lightB (fs.take (k + 1)) = (lightB (fs.take k) && okF fs[k]) := by
  unfold lightB; rw [list_take_snoc fs k h, List.all_append, List.all_cons, List.all_nil, Bool.and_true]
theorem lightL_of (fs : List (List UInt8 × List UInt8)) (k : Nat) (h : k < fs.length) (hs : okF fs[k] = false) : lightL fs = false := by
  unfold lightL lightB
  rw [Bool.and_eq_false_iff]
  left
  rw [List.all_eq_false]
  exact ⟨_, List.getElem_mem h, by rw [hs]; simp⟩
theorem lightL_ok {fs : List (List UInt8 × List UInt8)} (h : lightL fs = true) : fsOk fs ∧ fs.length ≤ 100 ∧ ∀ f ∈ fs, f.1.length ≤ 600 ∧ f.2.length ≤ 6000 := by
  unfold lightL lightB at h
  simp only [Bool.and_eq_true, decide_eq_true_eq, List.all_eq_true, okF] at h
  refine ⟨fun f hf => ?_, h.2, h.1⟩
  have := h.1 f hf
  omega

end Go.Proofs.YtfifoimnebbflaaGreatDoor
