/- field.Trim and the reference's: without blanks at both ends. -/
import Derived.Test.YtgdjlmpfjmakkaaDoorGood
namespace Go.Proofs.YtgdjlmpfjmakkaaDoor
open Go.RowKit

/-- A blank? -/
def blankB (c : UInt8) : Bool := [32, 9].contains c
def trimL (l : List UInt8) : List UInt8 := Lib.trimS l [32, 9]
theorem blank_cases (b : UInt8) (h : blankB b = true) : b.toNat = 32 ∨ (¬ b.toNat = 32 ∧ b.toNat = 9) := by
  simp [blankB] at h
  rcases h with rfl | rfl <;> decide
theorem blank_not (b : UInt8) (h : ¬ blankB b = true) : ¬ b.toNat = 32 ∧ ¬ b.toNat = 9 := by
  constructor
  · intro e; obtain rfl : b = 32 := UInt8.toNat_inj.1 (by simpa using e); exact h (by decide)
  · intro e; obtain rfl : b = 9 := UInt8.toNat_inj.1 (by simpa using e); exact h (by decide)
theorem dropWhile_all {p : UInt8 → Bool} : ∀ (l r : List UInt8), l.all p = true → (l ++ r).dropWhile p = r.dropWhile p
  | [], r, _ => rfl
  | a :: l, r, h => by
    simp only [List.all_cons, Bool.and_eq_true] at h
    rw [List.cons_append, List.dropWhile_cons, if_pos h.1]
    exact dropWhile_all l r h.2
theorem dropWhile_head {p : UInt8 → Bool} (m : List UInt8) (h : m = [] ∨ ∃ a, m.head? = some a ∧ p a = false) : m.dropWhile p = m := by
  rcases h with rfl | ⟨a, ha, hp⟩
  · rfl
  · cases m with
    | nil => rfl
    | cons x m => simp at ha; subst ha; rw [List.dropWhile_cons, if_neg (by simp [hp])]
/-- Blanks, what is in the midst, blanks. -/
theorem trim_mid (pre m suf : List UInt8) (hp : pre.all blankB = true) (hs : suf.all blankB = true) (h1 : m = [] ∨ ∃ a, m.head? = some a ∧ blankB a = false) (h2 : m = [] ∨ ∃ a, m.getLast? = some a ∧ blankB a = false) :
    trimL (pre ++ m ++ suf) = m := by
  have hr : ∀ l : List UInt8, l.all blankB = true → l.reverse.all blankB = true := fun l h => by rw [List.all_reverse]; exact h
  have e1 : Lib.trimRightS (pre ++ m ++ suf) [32, 9] = if m = [] then [] else pre ++ m := by
    show ((pre ++ m ++ suf).reverse.dropWhile blankB).reverse = _
    rw [List.reverse_append, dropWhile_all _ _ (hr _ hs)]
    by_cases hm : m = []
    · subst hm
      have := dropWhile_all (p := blankB) pre.reverse [] (hr _ hp)
      simp only [List.append_nil] at this ⊢
      rw [this]; simp
    · rw [if_neg hm, dropWhile_head]
      · simp
      · right
        obtain ⟨a, ha, hb⟩ := h2.resolve_left hm
        refine ⟨a, ?_, hb⟩
        rw [List.head?_reverse, List.getLast?_append, ha]; rfl
  show Lib.trimLeftS (Lib.trimRightS (pre ++ m ++ suf) [32, 9]) [32, 9] = m
  rw [e1]
  by_cases hm : m = []
  · subst hm; rfl
  · rw [if_neg hm]
    show (pre ++ m).dropWhile blankB = m
    rw [dropWhile_all _ _ hp, dropWhile_head _ h1]

theorem nil_of_size {u : ByteArray} (h : u.size = 0) : u.data.toList = [] := List.eq_nil_of_length_eq_zero (by rw [← size_of]; exact h)
theorem head_get (u : ByteArray) (h : 0 < u.size) : u.data.toList.head? = some u[0] := by
  rw [List.head?_eq_getElem?, get_toList u 0 h]
theorem last_get (u : ByteArray) (h : 0 < u.size) : u.data.toList.getLast? = some u[u.size - 1] := by
  rw [List.getLast?_eq_getElem?, ← size_of, get_toList u (u.size - 1) (by omega)]
theorem trim_end {l pre t u suf : List UInt8} (hl : l = pre ++ t ∧ pre.all blankB = true) (hu : t = u ++ suf) (hs : suf.all blankB = true) (ht : t = [] ∨ ∃ a, t.head? = some a ∧ blankB a = false) (h : u = [] ∨ ∃ b, u.getLast? = some b ∧ blankB b = false) : trimL l = u := by
  obtain ⟨rfl, hp⟩ := hl
  subst hu
  rw [← List.append_assoc]
  refine trim_mid pre u suf hp hs ?_ h
  rcases h with h | ⟨b, hb, _⟩
  · exact .inl h
  · right
    have hne : u ≠ [] := by rintro rfl; simp at hb
    rcases ht with h0 | ⟨a, ha, hb'⟩
    · exact absurd (List.append_eq_nil_iff.1 h0).1 hne
    · refine ⟨a, ?_, hb'⟩
      cases u with
      | nil => exact absurd rfl hne
      | cons x u => simpa using ha
theorem trim_snoc {t suf : List UInt8} {u : ByteArray} {b : UInt8} (hu : t = u.data.toList ++ suf) (hs : suf.all blankB = true) (hl : u.data.toList.getLast? = some b) (hb : blankB b = true) :
    t = (u.extract 0 (u.size - 1)).data.toList ++ (b :: suf) ∧ (b :: suf).all blankB = true := by
  refine ⟨?_, by simp [hb, hs]⟩
  have e : (u.extract 0 (u.size - 1)).data.toList = u.data.toList.dropLast := by
    rw [extract_list, List.drop_zero, List.dropLast_eq_take, size_of]
  have hne : u.data.toList ≠ [] := by intro h; rw [h] at hl; simp at hl
  have h2 := List.dropLast_concat_getLast hne
  rw [List.getLast?_eq_some_getLast hne] at hl
  rw [hu, e]
  conv => lhs; rw [← h2]
  simp only [Option.some.injEq] at hl
  rw [hl]; simp
theorem trim_front {l pre : List UInt8} {t : ByteArray} {b : UInt8} (hl : l = pre ++ t.data.toList ∧ pre.all blankB = true) (hp : 0 < t.size) (ht : t[0] = b) (hb : blankB b = true) :
    l = (pre ++ [b]) ++ (t.extract 1 t.size).data.toList ∧ (pre ++ [b]).all blankB = true := by
  refine ⟨?_, by rw [List.all_append, hl.2]; simp [hb]⟩
  rw [hl.1, extract_list, List.append_assoc, take_all t t.size (Nat.le_refl _)]
  have := drop_cons t 0 hp
  rw [List.drop_zero, ht] at this
  rw [this]; rfl
/-- For a measure: a string's length. -/
def strLen : Value → Nat | .string s => s.size | _ => 0

set_option maxRecDepth 100000 in
set_option maxHeartbeats 800000 in
theorem trim_any (s : ByteArray) (w : World) (hs : s.size ≤ 140737488355328) :
    Calls Tryd.prog 75 #[.string s] w fun e w' => e = .returned (.string ⟨(trimL s.data.toList).toArray⟩) ∧ Below w.heap.size w w' := by
  have hcon := Tryd.strings_Trim_ascii s ⟨#[32, 9]⟩ w (by omega) (by decide) (fun j b h => by
    have hb : b ∈ ([32, 9] : List UInt8) := List.mem_of_getElem? h
    simp at hb; rcases hb with rfl | rfl <;> decide)
  change Calls Tryd.prog 89 _ _ (fun e w' => e = .returned (.string ⟨(trimL s.data.toList).toArray⟩) ∧ Below w.heap.size w w') at hcon
  generalize (⟨(trimL s.data.toList).toArray⟩ : ByteArray) = r at hcon ⊢
  go_enter Tryd.func75, Tryd.ntmps75
  go_wp2_with (go_at_call 89; refine hcon.mono ?_; rintro e w' ⟨rfl, hB⟩)
  go_ret
  exact ⟨rfl, hB⟩

set_option maxRecDepth 100000 in
set_option maxHeartbeats 3200000 in
theorem reftrim_any (s : ByteArray) (w : World) (hs : s.size ≤ 140737488355328) :
    Calls Tryd.prog 76 #[.string s] w fun e w' => e = .returned (.string ⟨(trimL s.data.toList).toArray⟩) ∧ w = w' := by
  go_enter Tryd.func76, Tryd.ntmps76
  go_wp2_with fail
  go_loop [0] (fun v => ∃ (t : ByteArray) (pre : List UInt8), v = .string t ∧ t.size ≤ s.size ∧ (s.data.toList = pre ++ t.data.toList ∧ pre.all blankB = true)) (fun v => strLen v)
  case atStart => exact ⟨s, [], rfl, Nat.le_refl _, rfl, rfl⟩
  case round =>
    obtain ⟨t, pre, rfl, ht, hpre⟩ := hrel
    have HPRE := hide hpre
    clear hpre
    by_cases hz : t.size = 0
    · have hz1 : ¬ ((0 : Int) < (t.size : Int)) := by omega
      have HT : Hid (t.data.toList = [] ∨ ∃ a, t.data.toList.head? = some a ∧ blankB a = false) := .inl (nil_of_size hz)
      clear hz
      go_wp2_with fail
      go_loop [0] (fun v => ∃ (u : ByteArray) (suf : List UInt8), v = .string u ∧ u.size ≤ t.size ∧ t.data.toList = u.data.toList ++ suf ∧ suf.all blankB = true) (fun v => strLen v)
      case atStart => exact ⟨t, [], rfl, Nat.le_refl _, by simp, rfl⟩
      case round =>
        obtain ⟨u, suf, rfl, hu, hus, hsuf⟩ := hrel
        have HUS := hide hus
        have HSUF := hide hsuf
        clear hus hsuf
        by_cases hz : u.size = 0
        · have hz1 : ¬ ((0 : Int) < (u.size : Int)) := by omega
          have hend := trim_end HPRE.out HUS.out HSUF.out HT.out (.inl (nil_of_size hz))
          have HEND := hide hend
          clear hend hz
          go_wp2
          go_ret
          exact ⟨ret_string (by rw [HEND.out]), rfl⟩
        · have hp : 0 < u.size := by omega
          have hlast := last_get u hp
          have hlt : u.size - 1 < u.size := by omega
          obtain ⟨b, hb⟩ : ∃ b, u[u.size - 1] = b := ⟨_, rfl⟩
          rw [hb] at hlast
          have e1 : (u.size : Int) - 1 = ((u.size - 1 : Nat) : Int) := by omega
          by_cases hbl : blankB b = true
          · have hsn := trim_snoc HUS.out HSUF.out hlast hbl
            have HSN := hide hsn
            have hor : b.toNat = 32 ∨ (¬ b.toNat = 32 ∧ b.toNat = 9) := blank_cases b hbl
            clear hlast hbl hsn
            rcases hor with hx | ⟨hx1, hx⟩
            · have hx' : ((b.toNat : Int) == 32) = true := by simp; omega
              clear hx
              go_wp2
              go_round
              case rel => exact ⟨u.extract 0 (u.size - 1), _, congrArg Value.string (by first | rfl | (congr 1; omega)), by rw [size_of, extract_list]; simp; omega, HSN.out.1, HSN.out.2⟩
              case measure => simp [strLen]; omega
            · have hx' : ((b.toNat : Int) == 32) = false := by simp; omega
              have hx2 : ((b.toNat : Int) == 9) = true := by simp; omega
              clear hx hx1
              go_wp2
              go_round
              case rel => exact ⟨u.extract 0 (u.size - 1), _, congrArg Value.string (by first | rfl | (congr 1; omega)), by rw [size_of, extract_list]; simp; omega, HSN.out.1, HSN.out.2⟩
              case measure => simp [strLen]; omega
          · have hend := trim_end HPRE.out HUS.out HSUF.out HT.out (.inr ⟨b, hlast, by simpa using hbl⟩)
            have HEND := hide hend
            have hx := blank_not b hbl
            have hx1 : ((b.toNat : Int) == 32) = false := by simp; omega
            have hx2 : ((b.toNat : Int) == 9) = false := by simp; omega
            clear hend hx hlast hbl
            go_wp2
            go_ret
            exact ⟨ret_string (by rw [HEND.out]), rfl⟩
    · have hp : 0 < t.size := by omega
      have hhead := head_get t hp
      obtain ⟨b, hb⟩ : ∃ b, t[0] = b := ⟨_, rfl⟩
      rw [hb] at hhead
      by_cases hbl : blankB b = true
      · have hsn := trim_front HPRE.out hp hb hbl
        have HSN := hide hsn
        have hor : b.toNat = 32 ∨ (¬ b.toNat = 32 ∧ b.toNat = 9) := blank_cases b hbl
        have h1s : (1 : Int) ≤ (t.size : Int) := by omega
        clear hhead hbl hsn
        rcases hor with hx | ⟨hx1, hx⟩
        · have hx' : ((b.toNat : Int) == 32) = true := by simp; omega
          clear hx
          go_wp2
          go_round
          case rel => exact ⟨t.extract 1 t.size, _, rfl, by rw [size_of, extract_list]; simp; omega, HSN.out⟩
          case measure => simp [strLen]; omega
        · have hx' : ((b.toNat : Int) == 32) = false := by simp; omega
          have hx2 : ((b.toNat : Int) == 9) = true := by simp; omega
          clear hx hx1
          go_wp2
          go_round
          case rel => exact ⟨t.extract 1 t.size, _, rfl, by rw [size_of, extract_list]; simp; omega, HSN.out⟩
          case measure => simp [strLen]; omega
      · have HT : Hid (t.data.toList = [] ∨ ∃ a, t.data.toList.head? = some a ∧ blankB a = false) := .inr ⟨b, hhead, by simpa using hbl⟩
        have hx := blank_not b hbl
        have hx1 : ((b.toNat : Int) == 32) = false := by simp; omega
        have hx2 : ((b.toNat : Int) == 9) = false := by simp; omega
        clear hx hhead hbl
        go_wp2_with fail
        go_loop [0] (fun v => ∃ (u : ByteArray) (suf : List UInt8), v = .string u ∧ u.size ≤ t.size ∧ t.data.toList = u.data.toList ++ suf ∧ suf.all blankB = true) (fun v => strLen v)
        case atStart => exact ⟨t, [], rfl, Nat.le_refl _, by simp, rfl⟩
        case round =>
          obtain ⟨u, suf, rfl, hu, hus, hsuf⟩ := hrel
          have HUS := hide hus
          have HSUF := hide hsuf
          clear hus hsuf
          by_cases hz : u.size = 0
          · have hz1 : ¬ ((0 : Int) < (u.size : Int)) := by omega
            have hend := trim_end HPRE.out HUS.out HSUF.out HT.out (.inl (nil_of_size hz))
            have HEND := hide hend
            clear hend hz
            go_wp2
            go_ret
            exact ⟨ret_string (by rw [HEND.out]), rfl⟩
          · have hp : 0 < u.size := by omega
            have hlast := last_get u hp
            have hlt : u.size - 1 < u.size := by omega
            obtain ⟨b, hb⟩ : ∃ b, u[u.size - 1] = b := ⟨_, rfl⟩
            rw [hb] at hlast
            have e1 : (u.size : Int) - 1 = ((u.size - 1 : Nat) : Int) := by omega
            by_cases hbl : blankB b = true
            · have hsn := trim_snoc HUS.out HSUF.out hlast hbl
              have HSN := hide hsn
              have hor : b.toNat = 32 ∨ (¬ b.toNat = 32 ∧ b.toNat = 9) := blank_cases b hbl
              clear hlast hbl hsn
              rcases hor with hx | ⟨hx1, hx⟩
              · have hx' : ((b.toNat : Int) == 32) = true := by simp; omega
                clear hx
                go_wp2
                go_round
                case rel => exact ⟨u.extract 0 (u.size - 1), _, congrArg Value.string (by first | rfl | (congr 1; omega)), by rw [size_of, extract_list]; simp; omega, HSN.out.1, HSN.out.2⟩
                case measure => simp [strLen]; omega
              · have hx' : ((b.toNat : Int) == 32) = false := by simp; omega
                have hx2 : ((b.toNat : Int) == 9) = true := by simp; omega
                clear hx hx1
                go_wp2
                go_round
                case rel => exact ⟨u.extract 0 (u.size - 1), _, congrArg Value.string (by first | rfl | (congr 1; omega)), by rw [size_of, extract_list]; simp; omega, HSN.out.1, HSN.out.2⟩
                case measure => simp [strLen]; omega
            · have hend := trim_end HPRE.out HUS.out HSUF.out HT.out (.inr ⟨b, hlast, by simpa using hbl⟩)
              have HEND := hide hend
              have hx := blank_not b hbl
              have hx1 : ((b.toNat : Int) == 32) = false := by simp; omega
              have hx2 : ((b.toNat : Int) == 9) = false := by simp; omega
              clear hend hx hlast hbl
              go_wp2
              go_ret
              exact ⟨ret_string (by rw [HEND.out]), rfl⟩
end Go.Proofs.YtgdjlmpfjmakkaaDoor
