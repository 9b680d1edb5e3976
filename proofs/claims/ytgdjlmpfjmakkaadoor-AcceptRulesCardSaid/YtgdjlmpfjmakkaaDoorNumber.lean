/- frame.number and the reference's length: a text as a length. -/
import Derived.Test.YtgdjlmpfjmakkaaDoorTrim
namespace Go.Proofs.YtgdjlmpfjmakkaaDoor
open Go.RowKit

/-- The ten digits. -/
def digs : List UInt8 := [48, 49, 50, 51, 52, 53, 54, 55, 56, 57]
def digB (c : UInt8) : Bool := digs.contains c
theorem digB_iff (c : UInt8) : digB c = true ↔ 48 ≤ c.toNat ∧ c.toNat ≤ 57 := by
  have h : ∀ n, n < 256 → digs.contains (UInt8.ofNat n) = decide (48 ≤ n ∧ n ≤ 57) := by decide +kernel
  have := h c.toNat c.toNat_lt
  rw [UInt8.ofNat_toNat] at this
  unfold digB
  rw [this]; simp
/-- What digits say. -/
def decV (l : List UInt8) : Nat := l.foldl (fun n c => 10 * n + (c.toNat - 48)) 0
theorem decV_snoc (l : List UInt8) (c : UInt8) : decV (l ++ [c]) = 10 * decV l + (c.toNat - 48) := by unfold decV; rw [List.foldl_append]; rfl
theorem decV_take (l : List UInt8) (k : Nat) (h : k < l.length) : decV (l.take (k + 1)) = 10 * decV (l.take k) + (l[k].toNat - 48) := by rw [list_take_snoc l k h, decV_snoc]
theorem decV_lt (l : List UInt8) (h : l.all digB = true) : ∀ k, k ≤ l.length → decV (l.take k) < 10 ^ k
  | 0, _ => by simp [decV]
  | k + 1, hk => by
    have ih := decV_lt l h k (by omega)
    have h2 : digB l[k] = true := List.all_eq_true.1 h _ (List.getElem_mem (by omega))
    rw [digB_iff] at h2
    rw [decV_take l k (by omega), Nat.pow_succ]
    omega
theorem dw_nil (p : UInt8 → Bool) : ∀ l : List UInt8, l.dropWhile p = [] ↔ ∀ x ∈ l, p x = true
  | [] => by simp
  | a :: l => by
    rw [List.dropWhile_cons]
    by_cases h : p a = true
    · rw [if_pos h, dw_nil p l]; simp [h]
    · rw [if_neg h]; simp [h]
/-- A text as a length: its number, and whether it is one. -/
def numL (l : List UInt8) : Nat × Bool := if 1 ≤ l.length ∧ l.length ≤ 15 ∧ l.all digB = true then (decV l, decide (decV l ≤ 1099511627776)) else (0, false)
theorem trim_nil (l : List UInt8) : Lib.trimS l digs = [] ↔ l.all digB = true := by
  constructor
  · intro h
    have h1 : (Lib.trimRightS l digs) = [] := by
      rcases hr : Lib.trimRightS l digs with _ | ⟨a, r⟩
      · rfl
      · exfalso
        have h2 : (l.reverse.dropWhile digB) = (a :: r).reverse := by
          have : (l.reverse.dropWhile digB).reverse = a :: r := hr
          rw [← this, List.reverse_reverse]
        have h3 : (a :: r).dropWhile digB = [] := by
          have : Lib.trimLeftS (Lib.trimRightS l digs) digs = [] := h
          rw [hr] at this; exact this
        have h4 : ∀ x ∈ (a :: r), digB x = true := by
          intro x hx
          have := (dw_nil digB _).1 h3 x hx
          exact this
        rcases hd : (a :: r).reverse with _ | ⟨b, t⟩
        · simp at hd
        · rw [hd] at h2
          have hb : digB b = true := h4 b (by rw [← List.mem_reverse, hd]; simp)
          have := List.head?_dropWhile_not digB l.reverse
          rw [h2] at this
          simp [hb] at this
    have h2 : l.reverse.dropWhile digB = [] := by
      have : (l.reverse.dropWhile digB).reverse = [] := h1
      simpa using this
    rw [List.all_eq_true]
    intro x hx
    exact (dw_nil digB _).1 h2 x (by simpa using hx)
  · intro h
    have h2 : l.reverse.dropWhile digB = [] := (dw_nil digB _).2 fun x hx => List.all_eq_true.1 h x (by simpa using hx)
    show Lib.trimLeftS ((l.reverse.dropWhile digB).reverse) digs = []
    rw [h2]; rfl
theorem decV_small (l : List UInt8) (k : Nat) (h : l.all digB = true) (hk : k ≤ l.length) (hl : l.length ≤ 15) : decV (l.take k) < 1000000000000000 := by
  have h2 := decV_lt l h k hk
  have h3 : 10 ^ k ≤ 10 ^ 15 := Nat.pow_le_pow_right (by decide) (by omega)
  omega
theorem digs_list : (⟨#[48, 49, 50, 51, 52, 53, 54, 55, 56, 57]⟩ : ByteArray).data.toList = digs := rfl

set_option maxRecDepth 100000 in
set_option maxHeartbeats 3200000 in
theorem reflength_any (s : ByteArray) (w : World) :
    Calls Tryd.prog 88 #[.string s] w fun e w' => e = .returned (.tuple #[.int .i64 (numL s.data.toList).1, .bool (numL s.data.toList).2]) ∧ w = w' := by
  have HZ := hide (size_of s)
  go_enter Tryd.func88, Tryd.ntmps88
  go_wp2_with fail
  go_loop [4, 5] (fun v i => ∃ k : Nat, k ≤ s.size ∧ k ≤ 15 ∧ i = .int .i64 k ∧ v = .int .i64 (decV (s.data.toList.take k)) ∧ (s.data.toList.take k).all digB = true) (fun _ i => s.size - (intOf i).toNat)
  case atStart => exact ⟨0, Nat.zero_le _, by omega, rfl, rfl, rfl⟩
  case round =>
    obtain ⟨k, hk, hk15, rfl, rfl, hall⟩ := hrel
    have hsm := decV_lt (s.data.toList.take k) hall k (by have := HZ.out; rw [List.length_take]; omega)
    rw [List.take_take, Nat.min_self] at hsm
    have hp : 10 ^ k ≤ 10 ^ 15 := Nat.pow_le_pow_right (by decide) hk15
    have hq15 : decV (s.data.toList.take k) < 1000000000000000 := by omega
    have hq15' : decV (s.data.toList.take k) < 1000000000000000 := by omega
    clear hsm hp
    by_cases hlt : k < s.size
    · have hkl : k < s.data.toList.length := by have := HZ.out; omega
      have hdv := decV_take s.data.toList k hkl
      have hal : (s.data.toList.take (k + 1)).all digB = (digB s.data.toList[k]) := by rw [list_take_snoc _ _ hkl, List.all_append, hall]; simp
      have hgl : s.data.toList[k] = s[k] := by
        have := get_toList s k hlt
        rw [List.getElem?_eq_getElem hkl] at this
        exact Option.some.inj this
      have hno : digB s.data.toList[k] = false ∨ 15 ≤ k → numL s.data.toList = (0, false) := by
        intro h
        unfold numL
        rw [if_neg]
        rintro ⟨_, h2, h3⟩
        rcases h with h | h
        · have := List.all_eq_true.1 h3 _ (List.getElem_mem hkl); rw [h] at this; cases this
        · have := HZ.out; omega
      rw [hgl] at hdv hal hno
      obtain ⟨b, hbb⟩ : ∃ b, s[k] = b := ⟨_, rfl⟩
      rw [hbb] at hdv hal hno
      obtain ⟨q, hq⟩ : ∃ q, q = decV (s.data.toList.take k) := ⟨_, rfl⟩
      rw [← hq] at hdv hq15 ⊢
      have HV := hide hdv
      have HA := hide hal
      have HN := hide hno
      clear hdv hal hno hq hgl hq15' hall
      have hb256 := b.toNat_lt
      by_cases h1 : b.toNat < 48
      · have hfin : numL s.data.toList = (0, false) := HN.out (.inl (by rcases hd : digB b with _ | _; rfl; rw [digB_iff] at hd; omega))
        have HF := hide hfin
        clear hfin
        go_wp2
        go_ret2
        rw [HF.out]; exact ⟨rfl, rfl⟩
      · by_cases h2 : 57 < b.toNat
        · have hfin : numL s.data.toList = (0, false) := HN.out (.inl (by rcases hd : digB b with _ | _; rfl; rw [digB_iff] at hd; omega))
          have HF := hide hfin
          clear hfin
          go_wp2
          go_ret2
          rw [HF.out]; exact ⟨rfl, rfl⟩
        · by_cases h3 : 15 ≤ k
          · have hfin : numL s.data.toList = (0, false) := HN.out (.inr h3)
            have HF := hide hfin
            clear hfin
            go_wp2
            go_ret2
            rw [HF.out]; exact ⟨rfl, rfl⟩
          · have hd : digB b = true := (digB_iff b).2 ⟨by omega, by omega⟩
            go_wp2
            go_round
            case rel => exact ⟨k + 1, by omega, by omega, by go_num, by rw [HV.out]; exact congrArg (Value.int .i64) (by omega), by rw [HA.out]; exact hd⟩
            case measure => simp [intOf]; omega
    · have hkz : k = s.size := by omega
      have hfin : s.data.toList.take k = s.data.toList := List.take_of_length_le (by have := HZ.out; omega)
      rw [hfin] at hall hq15 hq15' ⊢
      have hz := HZ.out
      by_cases h1 : 1 ≤ s.size
      · have hnum : numL s.data.toList = (decV s.data.toList, decide (decV s.data.toList ≤ 1099511627776)) := by unfold numL; rw [if_pos ⟨by omega, by omega, hall⟩]
        have HN := hide hnum
        clear hnum hall hfin hz
        go_wp2
        go_ret2
        rw [HN.out]; exact ⟨by simp; omega, rfl⟩
      · have hnil : s.data.toList = [] := List.eq_nil_of_length_eq_zero (by omega)
        have hnum : numL s.data.toList = (0, false) := by rw [hnil]; rfl
        have hd0 : decV s.data.toList = 0 := by rw [hnil]; rfl
        rw [hd0]
        have HN := hide hnum
        clear hnum hall hfin hz hnil hd0 hq15 hq15'
        go_wp2
        go_ret2
        rw [HN.out]; exact ⟨rfl, rfl⟩
end Go.Proofs.YtgdjlmpfjmakkaaDoor
