/- FieldSplits returns true for any string. -/
import Derived.Test.YtmijkefdnfmpiaaDoorAns16
import Derived.Test.YtmijkefdnfmpiaaDoorRefSplit
import Derived.Test.YtmijkefdnfmpiaaDoorTexts
namespace Go.Proofs.YtmijkefdnfmpiaaDoor.FieldSplitsP
open Go.RowKit

theorem dropWhile_first {p : UInt8 → Bool} : ∀ l : List UInt8, l.dropWhile p = [] ∨ ∃ a, (l.dropWhile p).head? = some a ∧ p a = false
  | [] => .inl rfl
  | x :: l => by
    rw [List.dropWhile_cons]
    by_cases h : p x = true
    · rw [if_pos h]; exact dropWhile_first l
    · rw [if_neg h]; exact .inr ⟨x, rfl, by simpa using h⟩
theorem dropWhile_last {p : UInt8 → Bool} : ∀ l : List UInt8, l.dropWhile p = [] ∨ (l.dropWhile p).getLast? = l.getLast?
  | [] => .inl rfl
  | x :: l => by
    rw [List.dropWhile_cons]
    by_cases h : p x = true
    · rw [if_pos h]
      rcases dropWhile_last (p := p) l with h1 | h1
      · exact .inl h1
      · by_cases h2 : l.dropWhile p = []
        · exact .inl h2
        · right
          rw [h1]
          cases l with
          | nil => simp at h2
          | cons y l => simp [List.getLast?_cons]
    · rw [if_neg h]; exact .inr rfl
theorem trim_idem (y : List UInt8) : trimL (trimL y) = trimL y := by
  have h1 : trimL y = [] ∨ ∃ a, (trimL y).head? = some a ∧ blankB a = false := dropWhile_first (p := blankB) _
  have h2 : trimL y = [] ∨ ∃ a, (trimL y).getLast? = some a ∧ blankB a = false := by
    rcases dropWhile_last (p := blankB) (Lib.trimRightS y [32, 9]) with h | h
    · exact .inl h
    · rcases dropWhile_first (p := blankB) y.reverse with h3 | ⟨a, h3, h4⟩
      · left
        have : Lib.trimRightS y [32, 9] = [] := by show (y.reverse.dropWhile blankB).reverse = []; rw [h3]; rfl
        show (Lib.trimRightS y [32, 9]).dropWhile blankB = []
        rw [this]; rfl
      · right
        refine ⟨a, ?_, h4⟩
        show ((Lib.trimRightS y [32, 9]).dropWhile blankB).getLast? = some a
        rw [h]
        show ((y.reverse.dropWhile blankB).reverse).getLast? = some a
        rw [List.getLast?_reverse, h3]
  have := trim_mid [] (trimL y) [] rfl rfl h1 h2
  simpa using this
theorem trimL_length (l : List UInt8) : (trimL l).length ≤ l.length := by
  show ((Lib.trimRightS l [32, 9]).dropWhile blankB).length ≤ _
  have h1 : ∀ (p : UInt8 → Bool) (m : List UInt8), (m.dropWhile p).length ≤ m.length := fun p m => (List.dropWhile_suffix p).length_le
  refine Nat.le_trans (h1 _ _) ?_
  show ((l.reverse.dropWhile blankB).reverse).length ≤ _
  rw [List.length_reverse]
  refine Nat.le_trans (h1 _ _) ?_
  simp
theorem piece_mem {l x : List UInt8} (h : x ∈ pieceL l) : x.length ≤ l.length := by
  unfold pieceL at h
  split at h
  · simp at h
  · simp at h; subst h; exact trimL_length l
theorem split_mem : ∀ (n : Nat) (l : List UInt8), l.length ≤ n → ∀ x ∈ splitL l, x.length ≤ l.length
  | n, l, h, x, hx => by
    by_cases hc : cutL false l < l.length
    · rw [splitL_step l hc, List.mem_append] at hx
      rcases hx with hx | hx
      · exact Nat.le_trans (piece_mem hx) (by simp; omega)
      · match n with
        | 0 => omega
        | n + 1 => exact Nat.le_trans (split_mem n _ (by simp; omega) x hx) (by simp)
    · rw [splitL_last l hc] at hx; exact piece_mem hx

set_option maxRecDepth 100000 in
set_option maxHeartbeats 3200000 in
theorem walk (s : ByteArray) (w : World) (hs : s.size ≤ 9223372036854775807) :
    Calls Tryd.prog 3 #[.string s] w fun e w' => e = .returned (.bool true) ∧ Below w.heap.size w w' := by
  by_cases hbig : s.size ≤ 6000
  · have g1 := split_any s
    have g2 := refsplit_any s
    have hlen := split_length s.data.toList
    rw [← size_of] at hlen
    have hmem : ∀ x ∈ splitL s.data.toList, x ≠ [] ∧ trimL x = x ∧ x.length ≤ 6000 := fun x hx => by
      obtain ⟨h1, y, h2⟩ := splitL_ne _ _ (Nat.le_refl _) x hx
      refine ⟨h1, by rw [h2]; exact trim_idem y, ?_⟩
      have := split_mem _ _ (Nat.le_refl _) x hx
      rw [← size_of] at this; omega
    obtain ⟨ls, hls⟩ : ∃ ls, ls = splitL s.data.toList := ⟨_, rfl⟩
    rw [← hls] at g1 g2 hlen hmem
    have HM := hide hmem
    have hbig' : s.size ≤ 1048576 := by omega
    clear hls hmem
    go_enter Tryd.func3, Tryd.ntmps3
    go_wp2_with fail
    refine (g1 _ hbig').mono ?_
    rintro e w1 ⟨A, c, rfl, o1, hc1, b1⟩
    go_wp2_with fail
    refine (ans16_any _).mono ?_
    rintro e w2 ⟨rfl, b2⟩
    go_wp2_with fail
    refine (g2 _ hbig').mono ?_
    rintro e w3 ⟨A', c', rfl, o3, hc3, b3⟩
    have t2 := b1.trans (b2.mono b1.size)
    have t3 := t2.trans (b3.mono t2.size)
    have r1 := (Rd.of_own o1).below (b2.trans (b3.mono b2.size))
    have r3 := Rd.of_own o3
    go_wp2_with fail
    refine (texts_any _ _ _ _ _ _ _ _ _ _ _ r1 r3 (by omega) (by omega)).mono ?_
    rintro e w4 ⟨rfl, kq, rfl⟩
    have hee : (ls == ls) = true := by simp
    rw [hee]
    clear o1 o3 b1 b2 b3 r3 t2 g1 g2 hee
    go_wp2_with fail
    go_loopw [4] (fun i wr => ∃ k : Nat, k ≤ ls.length ∧ i = .int .i64 k ∧ Rd wr w1.heap.size 1 A ls.length (scells ls) ∧ Below w.heap.size w wr) (fun i _ => ls.length - (intOf i).toNat)
    case atStart => exact ⟨0, Nat.zero_le _, rfl, r1.drewN _, below_drewN t3⟩
    case round =>
      clear r1 t3
      obtain ⟨k, hk, rfl, rr, tr⟩ := hrel
      by_cases hlt : k < ls.length
      · obtain ⟨a, rfl, -, hcell⟩ := rr.text hlt hlt
        obtain ⟨h1, h2, h3⟩ := HM.out ls[k] (List.getElem_mem hlt)
        obtain ⟨x, hx⟩ : ∃ x, x = ls[k] := ⟨_, rfl⟩
        rw [← hx] at hcell h1 h2 h3
        have ht := reftrim_any ⟨x.toArray⟩
        have hsz : (⟨x.toArray⟩ : ByteArray).size ≤ 140737488355328 := by rw [size_of]; simp; omega
        have hl : (⟨x.toArray⟩ : ByteArray).data.toList = x := by simp
        rw [hl, h2] at ht
        have hne : (⟨x.toArray⟩ : ByteArray).toList.isEmpty = false := by rw [isEmpty_mk]; simpa using h1
        obtain ⟨sx, hsx⟩ : ∃ sx : ByteArray, sx = ⟨x.toArray⟩ := ⟨_, rfl⟩
        rw [← hsx] at ht hsz hcell hne
        have hk0 : (0 : Int) ≤ (k : Int) := by omega
        have hk1 : (k : Int) < (ls.length : Int) := by omega
        clear hx h1 h2 h3 hl hsx
        go_wp2_with fail
        go_quiet ((go_at_call 19; exact Calls.quiet_of_same ((ht _ hsz).mono fun _ _ h => ⟨h.1, h.2.symm⟩)))
        go_wp2
        go_roundw
        case rel => exact ⟨k + 1, by omega, by go_num, rr.drewN _, below_drewN tr⟩
        case measure => simp [intOf]; omega
      · go_wp2
        go_ret
        exact ⟨rfl, tr⟩
  · go_enter Tryd.func3, Tryd.ntmps3
    go_wp2_with (go_at_call 15; refine (ans16_any _).mono ?_; rintro e w' ⟨rfl, hB⟩)
    go_ret
    exact ⟨rfl, hB⟩
end Go.Proofs.YtmijkefdnfmpiaaDoor.FieldSplitsP
