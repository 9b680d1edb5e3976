/- field.Lower, concertinaref16.Lower, field.Same: texts with small letters. -/
import Derived.Test.YtijlaclngibekaaGreatDoorProg
import Derived.Test.YtijlaclngibekaaGreatDoorKBase
import Derived.Test.YtijlaclngibekaaGreatDoorKShelves
import Derived.Lib.Split
import Derived.Lib.IndexMore
import Derived.Lib.SlBytesConst
import Derived.Deep.LoopGhost
namespace Go.Proofs.YtijlaclngibekaaGreatDoor
open Go.RowKit

/-- A letter that is small. -/
def lowB (c : UInt8) : UInt8 := if 65 ≤ c.toNat ∧ c.toNat ≤ 90 then c + 32 else c
def lowL (l : List UInt8) : List UInt8 := l.map lowB
theorem lowL_length (l : List UInt8) : (lowL l).length = l.length := by simp [lowL]
theorem lowB_hit (c : UInt8) (h : 65 ≤ c.toNat ∧ c.toNat ≤ 90) : ((lowB c).toNat : Int) = c.toNat + 32 := by
  unfold lowB; rw [if_pos h, UInt8.toNat_add]; have : (32 : UInt8).toNat = 32 := rfl; omega
theorem lowB_miss (c : UInt8) (h : ¬ (65 ≤ c.toNat ∧ c.toNat ≤ 90)) : lowB c = c := by unfold lowB; rw [if_neg h]

set_option maxHeartbeats 400000 in
theorem small_any (c : UInt8) (w : World) :
    Calls Tryz.prog 174 #[.int .u8 c.toNat] w fun e w' => e = .returned (.int .u8 (lowB c).toNat) ∧ w = w' := by
  have hc : c.toNat < 256 := c.toNat_lt
  by_cases h1 : 65 ≤ c.toNat
  · by_cases h2 : c.toNat ≤ 90
    · have h := lowB_hit c ⟨h1, h2⟩
      have H := hide h
      clear h
      go_enter Tryz.func174, Tryz.ntmps174
      go_wp2
      go_ret
      exact ⟨ret_int (by rw [H.out]; omega), rfl⟩
    · have h := lowB_miss c (by omega)
      have H := hide h
      clear h
      go_enter Tryz.func174, Tryz.ntmps174
      go_wp2
      go_ret
      exact ⟨ret_int (by rw [H.out]), rfl⟩
  · have h := lowB_miss c (by omega)
    have H := hide h
    clear h
    go_enter Tryz.func174, Tryz.ntmps174
    go_wp2
    go_ret
    exact ⟨ret_int (by rw [H.out]), rfl⟩
theorem lowL_step (l : List UInt8) (k : Nat) (h : k < l.length) : (lowL (l.take k) ++ l.drop k).set k (lowB l[k]) = lowL (l.take (k + 1)) ++ l.drop (k + 1) := by
  have hk : (lowL (l.take k)).length = k := by rw [lowL_length, List.length_take]; omega
  have h1 : l.drop k = l[k] :: l.drop (k + 1) := List.drop_eq_getElem_cons h
  have h2 : lowL (l.take (k + 1)) = lowL (l.take k) ++ [lowB l[k]] := by rw [list_take_snoc l k h]; simp only [lowL, List.map_append, List.map_cons, List.map_nil]
  rw [List.set_append_right _ _ (by omega), hk, Nat.sub_self, h1, h2, List.set_cons_zero, List.append_assoc]
  rfl
theorem bcells_set (l : List UInt8) (k : Nat) (c : UInt8) : (bcells l).set k (.int .u8 c.toNat) = bcells (l.set k c) := by simp [bcells, List.map_set]

set_option maxHeartbeats 800000 in
theorem lower_any (s : ByteArray) (w : World) (hs : s.size ≤ 140737488355328) :
    Calls Tryz.prog 143 #[.string s] w fun e w' => e = .returned (.string ⟨(lowL s.data.toList).toArray⟩) ∧ Below w.heap.size w w' := by
  have hcv := fun w => run_bytes_of_string (P := Tryz.prog) w 9 35 5 s Tryz.underlying9 Tryz.underlying35 Tryz.underlying5
  obtain ⟨c, hc⟩ : ∃ c, c = grownCap w s.size 0 5 := ⟨_, rfl⟩
  have hc1 : s.size ≤ c := by rw [hc]; exact grownCap_ge _ _ _ _
  have hc2 : c ≤ maxLen := by rw [hc]; exact grownCap_le_maxLen _ _ _ _ (by simp [maxLen]; omega)
  have hcv1 := hcv w
  rw [← hc] at hcv1
  have ho := ow_of_string w 5 s c hc1 hc2
  clear hcv hc
  have HL := hide (size_of s)
  go_enter Tryz.func143, Tryz.ntmps143
  go_wp2_with fail
  go_loopw [10] (fun i wr => ∃ k : Nat, k ≤ s.size ∧ i = .int .i64 k ∧ Ow wr w.heap.size 1 (.slice (some ⟨w.heap.size, 0, none⟩) s.size c) s.size (bcells (lowL (s.data.toList.take k) ++ s.data.toList.drop k)) ∧ Below w.heap.size w wr) (fun i _ => s.size - (intOf i).toNat)
  case atStart => exact ⟨0, Nat.zero_le _, rfl, ho, (Below.refl _ _).drew.alloc (Nat.le_refl _) _⟩
  case round =>
    clear ho hcv1
    obtain ⟨k, hk, rfl, ho, hb⟩ := hrel
    by_cases hlt : k < s.size
    · obtain ⟨g, off, hA, -, hg2, hcell, hfr⟩ := ho.at_ (j := k) (by omega)
      cases hA
      have hl := HL.out
      have hkl : k < s.data.toList.length := by omega
      have hkk : (lowL (s.data.toList.take k)).length = k := by rw [lowL_length, List.length_take]; omega
      have hget : (bcells (lowL (s.data.toList.take k) ++ s.data.toList.drop k))[k]? = some (.int .u8 s.data.toList[k].toNat) := by
        rw [bcells_get _ k (by rw [List.length_append, hkk, List.length_drop]; omega)]
        simp [hkk]
      rw [hget] at hcell
      have hst := ho.store (j := k) (by omega) (.int .u8 (lowB s.data.toList[k]).toNat)
      rw [bcells_set, lowL_step _ k hkl] at hst
      obtain ⟨b, hbb⟩ : ∃ b, b = s.data.toList[k] := ⟨_, rfl⟩
      rw [← hbb] at hcell hst
      simp only [Nat.zero_add] at hcell hfr hst
      clear hbb hget hl hkl hkk ho
      go_wp2_with (go_at_call 174; refine (small_any b _).mono ?_; rintro e w' ⟨rfl, rfl⟩)
      go_roundw
      case rel => exact ⟨k + 1, by omega, by go_num, hst, hb.setCell (Nat.le_refl _) _⟩
      case measure => simp [intOf]; omega
    · have hrs := run_string_of (P := Tryz.prog) 35 9 5 Tryz.underlying35 Tryz.underlying5 Tryz.underlying9 wr _ s.size c _ _ ho.rd
      have hfin : lowL (s.data.toList.take k) ++ s.data.toList.drop k = lowL s.data.toList := by
        have hl := HL.out
        rw [List.take_of_length_le (by omega), List.drop_eq_nil_of_le (by omega), List.append_nil]
      rw [hfin] at hrs
      clear hfin ho
      go_wp2_with fail
      go_ret
      exact ⟨rfl, hb⟩
theorem infoU8 : (Tryz.prog.info? 5).map (fun i => (i.zero, i.size, i.bytes)) = some (some (.int .u8 0), 1, 1) := by kernel_rfl
theorem own_snoc_byte {w : World} {base e n : Nat} {v : Value} {l : List UInt8} {x : Int} {b : UInt8} (h : w.ownsRow base e 1 v (n + 1) (bcells l ++ (#[Value.int .u8 x]).toList)) (hx : x = b.toNat) : w.ownsRow base e 1 v (n + 1) (bcells (l ++ [b])) := by
  subst hx; simpa [bcells] using h

set_option maxRecDepth 100000 in
set_option maxHeartbeats 800000 in
theorem reflower_any (s : ByteArray) (w : World) (hs : s.size ≤ 140737488351232) :
    Calls Tryz.prog 63 #[.string s] w fun e w' => e = .returned (.string ⟨(lowL s.data.toList).toArray⟩) ∧ Below w.heap.size w w' := by
  obtain ⟨i0, hi0, hz0, hz1, hz2⟩ := info_parts infoU8
  go_enter Tryz.func63, Tryz.ntmps63
  go_wp2_with fail
  go_loopw [3, 4] (fun v i wr => ∃ k : Nat, k ≤ s.size ∧ i = .int .i64 k ∧ wr.ownsRow w.heap.size 5 1 v k (bcells (lowL (s.data.toList.take k))) ∧ Below w.heap.size w wr) (fun _ i _ => s.size - (intOf i).toNat)
  case atStart => exact ⟨0, Nat.zero_le _, rfl, World.ownsRow_nil _ _ _ _, Below.refl _ _⟩
  case round =>
    obtain ⟨k, hk, rfl, ho, hb⟩ := hrel
    by_cases hlt : k < s.size
    · have hts : lowL (s.data.toList.take (k + 1)) = lowL (s.data.toList.take k) ++ [lowB s[k]] := by rw [take_snoc s k hlt]; simp only [lowL, List.map_append, List.map_cons, List.map_nil]
      have HT := hide hts
      have hbz := hb.size
      clear hts
      obtain ⟨b, hbb⟩ : ∃ b, s[k] = b := ⟨_, rfl⟩
      rw [hbb] at HT
      have hb256 := b.toNat_lt
      have hin : ((65 : Int) ≤ (b.toNat : Int) ∧ (b.toNat : Int) ≤ 90 ∧ ((lowB b).toNat : Int) = b.toNat + 32) ∨ ((b.toNat : Int) < 65 ∧ lowB b = b) ∨ ((65 : Int) ≤ (b.toNat : Int) ∧ (90 : Int) < (b.toNat : Int) ∧ lowB b = b) := by
        by_cases h : 65 ≤ b.toNat ∧ b.toNat ≤ 90
        · exact .inl ⟨by omega, by omega, lowB_hit b h⟩
        · by_cases h1 : 65 ≤ b.toNat
          · exact .inr (.inr ⟨by omega, by omega, lowB_miss b h⟩)
          · exact .inr (.inl ⟨by omega, lowB_miss b h⟩)
      rcases hin with ⟨h1, h2, h3⟩ | ⟨h1, h3⟩ | ⟨h1, h2, h3⟩
      all_goals
        have H3 := hide h3
        clear h3
        go_wp2_with (at_builtin; refine wpl_push rfl _ _ _ rfl w.heap.size i0 _ 1 1 Tryz.underlying35 hi0 hz0 hz1 hz2 rfl (by omega) _ _ _ rfl _ rfl ho rfl (by simp [Value.oneCell']) (by simp [maxLen]; omega) (by omega) hbz ?_; intro v1 w1 hown1 hbel1 _)
        go_roundw
        case rel => exact ⟨k + 1, by omega, by go_num, by rw [HT.out]; exact own_snoc_byte hown1 (by rw [H3.out]), hb.trans hbel1⟩
        case measure => simp [intOf]; omega
    · obtain ⟨A, c, rfl, -⟩ := own_shape ho
      have hrs := run_string_of (P := Tryz.prog) 35 9 5 Tryz.underlying35 Tryz.underlying5 Tryz.underlying9 wr _ k c _ _ (Rd.of_own ho)
      rw [take_all s k (by omega)] at hrs
      clear ho
      go_wp2_with fail
      go_ret
      exact ⟨rfl, hb⟩
/-- Without regard to case. -/
def sameL (a b : List UInt8) : Bool := lowL a == lowL b
set_option maxHeartbeats 400000 in
theorem fieldsame_any (a b : ByteArray) (w : World) (ha : a.size ≤ 140737488355328) (hb : b.size ≤ 140737488355328) :
    Calls Tryz.prog 140 #[.string a, .string b] w fun e w' => e = .returned (.bool (sameL a.data.toList b.data.toList)) ∧ Below w.heap.size w w' := by
  go_enter Tryz.func140, Tryz.ntmps140
  go_wp2_with fail
  refine (lower_any a _ ha).mono ?_
  rintro e w1 ⟨rfl, hb1⟩
  go_wp2_with fail
  refine (lower_any b _ hb).mono ?_
  rintro e w2 ⟨rfl, hb2⟩
  go_wp2
  go_ret
  exact ⟨ret_bool (by simp [sameL]), hb1.trans (hb2.mono hb1.size)⟩
end Go.Proofs.YtijlaclngibekaaGreatDoor

/- Which bytes, names and values are good: field's and the reference's. -/
namespace Go.Proofs.YtijlaclngibekaaGreatDoor
open Go.RowKit

def marksL : List UInt8 := [33, 35, 36, 37, 38, 39, 42, 43, 45, 46, 94, 95, 96, 124, 126]
/-- May a byte be in a name? -/
def nameB (c : UInt8) : Bool := decide (48 ≤ c.toNat ∧ c.toNat ≤ 57) || decide (97 ≤ c.toNat ∧ c.toNat ≤ 122) || decide (65 ≤ c.toNat ∧ c.toNat ≤ 90) || marksL.contains c
def goodNameL (l : List UInt8) : Bool := l.all nameB && decide (1 ≤ l.length) && decide (l.length ≤ 256)
/-- May a byte be in a value? -/
def valueB (c : UInt8) : Bool := decide (c.toNat = 9) || (decide (32 ≤ c.toNat) && decide (c.toNat ≠ 127))

theorem index_nonneg (l : List UInt8) (c : UInt8) : (0 : Int) ≤ Lib.indexByte l c ↔ l.contains c = true := by
  induction l with
  | nil => simp [Lib.indexByte]
  | cons b l ih =>
    simp only [Lib.indexByte, List.contains_cons]
    by_cases h : b = c
    · subst h; simp
    · have h1 : (b == c) = false := by simpa using h
      have h2 : (c == b) = false := by simpa using fun e => h e.symm
      rw [h1, h2]
      by_cases h3 : Lib.indexByte l c = -1
      · simp only [h3] at ih ⊢; simp at ih ⊢; exact ih
      · have h4 : (Lib.indexByte l c == -1) = false := by simpa using h3
        rw [h4]
        have h5 : (-1 : Int) ≤ Lib.indexByte l c := by
          clear ih h3 h4
          induction l with
          | nil => simp [Lib.indexByte]
          | cons x l ih2 => simp only [Lib.indexByte]; split; omega; split <;> omega
        simp only [Bool.false_or, Bool.false_eq_true, if_false]
        rw [← ih]; omega
theorem toUInt8_back (c : UInt8) : ((c.toNat : Int)).toNat.toUInt8 = c := by simp

set_option maxRecDepth 100000 in
set_option maxHeartbeats 800000 in
theorem nameByte_any (c : UInt8) (w : World) :
    Calls Tryz.prog 133 #[.int .u8 c.toNat] w fun e w' => e = .returned (.bool (nameB c)) ∧ w = w' := by
  have hc : c.toNat < 256 := c.toNat_lt
  have hsm := small_any c
  by_cases h1 : 48 ≤ c.toNat ∧ c.toNat ≤ 57
  · have hr : nameB c = true := by simp [nameB, h1]
    have HR := hide hr
    obtain ⟨h1, h2⟩ := h1
    clear hr
    go_enter Tryz.func133, Tryz.ntmps133
    go_wp2_with (go_at_call 174; refine (hsm _).mono ?_; rintro e w' ⟨rfl, rfl⟩)
    go_ret
    exact ⟨ret_bool HR.out.symm, rfl⟩
  · by_cases h2 : 97 ≤ c.toNat ∧ c.toNat ≤ 122
    · have hr : nameB c = true := by simp [nameB, h2]
      have HR := hide hr
      have hl := lowB_miss c (by omega)
      rw [hl] at hsm
      obtain ⟨h2, h3⟩ := h2
      clear hr hl h1
      go_enter Tryz.func133, Tryz.ntmps133
      go_wp2_with (go_at_call 174; refine (hsm _).mono ?_; rintro e w' ⟨rfl, rfl⟩)
      go_ret
      exact ⟨ret_bool HR.out.symm, rfl⟩
    · by_cases h3 : 65 ≤ c.toNat ∧ c.toNat ≤ 90
      · have hr : nameB c = true := by simp [nameB, h3]
        have HR := hide hr
        have hl := lowB_hit c h3
        obtain ⟨d, hd⟩ : ∃ d, d = lowB c := ⟨_, rfl⟩
        rw [← hd] at hsm hl
        have hl1 : (97 : Int) ≤ (d.toNat : Int) := by omega
        have hl2 : (d.toNat : Int) ≤ 122 := by omega
        obtain ⟨h3, h4⟩ := h3
        clear hr hl h1 h2 hd
        go_enter Tryz.func133, Tryz.ntmps133
        go_wp2_with (go_at_call 174; refine (hsm _).mono ?_; rintro e w' ⟨rfl, rfl⟩)
        all_goals go_ret
        all_goals exact ⟨ret_bool HR.out.symm, rfl⟩
      · have hl := lowB_miss c (by omega)
        rw [hl] at hsm
        have hr : nameB c = marksL.contains c := by simp [nameB, h1, h2, h3]
        have hix := fun w => Tryz.strings_IndexByte ⟨#[33, 35, 36, 37, 38, 39, 42, 43, 45, 46, 94, 95, 96, 124, 126]⟩ c.toNat w
        rw [toUInt8_back] at hix
        have hin := index_nonneg marksL c
        obtain ⟨ix, hixe⟩ : ∃ ix, ix = Lib.indexByte marksL c := ⟨_, rfl⟩
        have hix' : ∀ w, Calls Tryz.prog 175 #[.string ⟨#[33, 35, 36, 37, 38, 39, 42, 43, 45, 46, 94, 95, 96, 124, 126]⟩, .int .u8 c.toNat] w fun e w' => e = .returned (.int .i64 ix) ∧ w' = w := by rw [hixe]; exact hix
        rw [← hixe] at hin
        have h0 : c.toNat = 0 → marksL.contains c = false := fun h => by
          have : c = 0 := UInt8.toNat_inj.1 (by simpa using h)
          subst this; decide
        have hn : (48 : Int) ≤ (c.toNat : Int) → (57 : Int) < (c.toNat : Int) := by omega
        have hn2 : (97 : Int) ≤ (c.toNat : Int) → (122 : Int) < (c.toNat : Int) := by omega
        have HIN := hide hin
        have HR := hide hr
        have H0 := hide h0
        have H1 := hide h1
        have H2 := hide h2
        have HN := hide hn
        have HN2 := hide hn2
        have HIX := hide hix'
        have HS := hide hsm
        clear hin hr hix hixe h0 h1 h2 h3 hl hn hn2 hix' hsm
        by_cases hz : c.toNat = 0
        · obtain rfl : c = 0 := UInt8.toNat_inj.1 (by simpa using hz)
          clear hz
          go_enter Tryz.func133, Tryz.ntmps133
          go_wp2_with (go_at_call 174; refine (HS.out _).mono ?_; rintro e w' ⟨rfl, rfl⟩)
          go_ret
          exact ⟨ret_bool (by rw [HR.out]; decide), rfl⟩
        · have hz' : ((c.toNat : Int) != 0) = true := by simp; omega
          have HZ := hide hz
          clear hz
          rcases Nat.lt_or_ge c.toNat 48 with hA | hA
          · by_cases hpos : 0 ≤ ix
            all_goals
              go_enter Tryz.func133, Tryz.ntmps133
              go_wp2_with (first | (go_at_call 174; refine (HS.out _).mono ?_; rintro e w' ⟨rfl, rfl⟩) | (go_at_call 175; refine (HIX.out _).mono ?_; rintro e w' ⟨rfl, rfl⟩))
              go_ret
              exact ⟨ret_bool (by rw [HR.out, Bool.eq_iff_iff, ← HIN.out]; simp [hpos] <;> omega), rfl⟩
          · have hB : (57 : Int) < (c.toNat : Int) := HN.out (by omega)
            rcases Nat.lt_or_ge c.toNat 97 with hC | hC
            · by_cases hpos : 0 ≤ ix
              all_goals
                go_enter Tryz.func133, Tryz.ntmps133
                go_wp2_with (first | (go_at_call 174; refine (HS.out _).mono ?_; rintro e w' ⟨rfl, rfl⟩) | (go_at_call 175; refine (HIX.out _).mono ?_; rintro e w' ⟨rfl, rfl⟩))
                go_ret
                exact ⟨ret_bool (by rw [HR.out, Bool.eq_iff_iff, ← HIN.out]; simp [hpos] <;> omega), rfl⟩
            · have hD : (122 : Int) < (c.toNat : Int) := HN2.out (by omega)
              by_cases hpos : 0 ≤ ix
              all_goals
                go_enter Tryz.func133, Tryz.ntmps133
                go_wp2_with (first | (go_at_call 174; refine (HS.out _).mono ?_; rintro e w' ⟨rfl, rfl⟩) | (go_at_call 175; refine (HIX.out _).mono ?_; rintro e w' ⟨rfl, rfl⟩))
                go_ret
                exact ⟨ret_bool (by rw [HR.out, Bool.eq_iff_iff, ← HIN.out]; simp [hpos] <;> omega), rfl⟩

theorem all_take_snoc {p : UInt8 → Bool} (s : ByteArray) (k : Nat) (h : k < s.size) : (s.data.toList.take (k + 1)).all p = ((s.data.toList.take k).all p && p s[k]) := by rw [take_snoc s k h, List.all_append]; simp
theorem all_false {p : UInt8 → Bool} (s : ByteArray) (k : Nat) (h : k < s.size) (hp : p s[k] = false) : s.data.toList.all p = false := by
  rw [← List.take_append_drop (k + 1) s.data.toList, List.all_append, all_take_snoc s k h, hp]; simp

set_option maxRecDepth 100000 in
set_option maxHeartbeats 800000 in
theorem goodName_any (s : ByteArray) (w : World) (hs : s.size ≤ 140737488355328) :
    Calls Tryz.prog 99 #[.string s] w fun e w' => e = .returned (.bool (goodNameL s.data.toList)) ∧ w = w' := by
  have HL := hide (size_of s)
  go_enter Tryz.func99, Tryz.ntmps99
  go_wp2_with fail
  go_loop [6] (fun i => ∃ k : Nat, k ≤ s.size ∧ i = .int .i64 k ∧ (s.data.toList.take k).all nameB = true) (fun i => s.size - (intOf i).toNat)
  case atStart => exact ⟨0, Nat.zero_le _, rfl, rfl⟩
  case round =>
    obtain ⟨k, hk, rfl, ha⟩ := hrel
    have HA := hide ha
    clear ha
    by_cases hlt : k < s.size
    · have hn := nameByte_any s[k] w
      have hts := all_take_snoc (p := nameB) s k hlt
      rcases hb : nameB s[k] with _ | _
      · rw [hb] at hn
        have hfa := all_false (p := nameB) s k hlt hb
        have HF := hide hfa
        clear hb hts hfa
        go_wp2_with (go_at_call 133; refine hn.mono ?_; rintro e w' ⟨rfl, rfl⟩)
        go_ret
        exact ⟨ret_bool (by rw [goodNameL, HF.out]; rfl), rfl⟩
      · rw [hb] at hn
        have HB := hide hb
        have HT := hide hts
        clear hb hts
        go_wp2_with (go_at_call 133; refine hn.mono ?_; rintro e w' ⟨rfl, rfl⟩)
        go_round
        case rel => exact ⟨k + 1, by omega, by go_num, by rw [HT.out, HA.out, HB.out]; rfl⟩
        case measure => simp [intOf]; omega
    · have hfin : s.data.toList.all nameB = true := by have := HA.out; rwa [take_all s k (by omega)] at this
      have HF := hide hfin
      clear hfin
      go_wp2
      all_goals go_ret
      all_goals
        refine ⟨ret_bool ?_, rfl⟩
        have hl := HL.out
        simp only [goodNameL, HF.out, Bool.true_and]
        rw [← hl, Bool.eq_iff_iff]
        simp
        omega
end Go.Proofs.YtijlaclngibekaaGreatDoor

/- field.Trim and the reference's: without blanks at both ends. -/
namespace Go.Proofs.YtijlaclngibekaaGreatDoor
open Go.RowKit

/-- A blank? -/
def blankB (c : UInt8) : Bool := [32, 9].contains c
def trimL (l : List UInt8) : List UInt8 := Lib.trimS l [32, 9]
theorem blank_cases (b : UInt8) (h : blankB b = true) : b.toNat = 32 ∨ (¬ b.toNat = 32 ∧ b.toNat = 9) := by
  simp [blankB] at h
  rcases h with rfl | rfl <;> decide
theorem blank_not (b : UInt8) (h : ¬ blankB b = true) : ¬ b.toNat = 32 ∧ ¬ b.toNat = 9 := by
  constructor
  · intro e; obtain rfl : b = 32 := UInt8.toNat_inj.1 (by simpa using e); exact h (by decide)
  · intro e; obtain rfl : b = 9 := UInt8.toNat_inj.1 (by simpa using e); exact h (by decide)
theorem dropWhile_all {p : UInt8 → Bool} : ∀ (l r : List UInt8), l.all p = true → (l ++ r).dropWhile p = r.dropWhile p
  | [], r, _ => rfl
  | a :: l, r, h => by
    simp only [List.all_cons, Bool.and_eq_true] at h
    rw [List.cons_append, List.dropWhile_cons, if_pos h.1]
    exact dropWhile_all l r h.2
theorem dropWhile_head {p : UInt8 → Bool} (m : List UInt8) (h : m = [] ∨ ∃ a, m.head? = some a ∧ p a = false) : m.dropWhile p = m := by
  rcases h with rfl | ⟨a, ha, hp⟩
  · rfl
  · cases m with
    | nil => rfl
    | cons x m => simp at ha; subst ha; rw [List.dropWhile_cons, if_neg (by simp [hp])]
/-- Blanks, what is in the midst, blanks. -/
theorem trim_mid (pre m suf : List UInt8) (hp : pre.all blankB = true) (hs : suf.all blankB = true) (h1 : m = [] ∨ ∃ a, m.head? = some a ∧ blankB a = false) (h2 : m = [] ∨ ∃ a, m.getLast? = some a ∧ blankB a = false) :
    trimL (pre ++ m ++ suf) = m := by
  have hr : ∀ l : List UInt8, l.all blankB = true → l.reverse.all blankB = true := fun l h => by rw [List.all_reverse]; exact h
  have e1 : Lib.trimRightS (pre ++ m ++ suf) [32, 9] = if m = [] then [] else pre ++ m := by
    show ((pre ++ m ++ suf).reverse.dropWhile blankB).reverse = _
    rw [List.reverse_append, dropWhile_all _ _ (hr _ hs)]
    by_cases hm : m = []
    · subst hm
      have := dropWhile_all (p := blankB) pre.reverse [] (hr _ hp)
      simp only [List.append_nil] at this ⊢
      rw [this]; simp
    · rw [if_neg hm, dropWhile_head]
      · simp
      · right
        obtain ⟨a, ha, hb⟩ := h2.resolve_left hm
        refine ⟨a, ?_, hb⟩
        rw [List.head?_reverse, List.getLast?_append, ha]; rfl
  show Lib.trimLeftS (Lib.trimRightS (pre ++ m ++ suf) [32, 9]) [32, 9] = m
  rw [e1]
  by_cases hm : m = []
  · subst hm; rfl
  · rw [if_neg hm]
    show (pre ++ m).dropWhile blankB = m
    rw [dropWhile_all _ _ hp, dropWhile_head _ h1]

theorem nil_of_size {u : ByteArray} (h : u.size = 0) : u.data.toList = [] := List.eq_nil_of_length_eq_zero (by rw [← size_of]; exact h)
theorem head_get (u : ByteArray) (h : 0 < u.size) : u.data.toList.head? = some u[0] := by
  rw [List.head?_eq_getElem?, get_toList u 0 h]
theorem last_get (u : ByteArray) (h : 0 < u.size) : u.data.toList.getLast? = some u[u.size - 1] := by
  rw [List.getLast?_eq_getElem?, ← size_of, get_toList u (u.size - 1) (by omega)]
theorem trim_end {l pre t u suf : List UInt8} (hl : l = pre ++ t ∧ pre.all blankB = true) (hu : t = u ++ suf) (hs : suf.all blankB = true) (ht : t = [] ∨ ∃ a, t.head? = some a ∧ blankB a = false) (h : u = [] ∨ ∃ b, u.getLast? = some b ∧ blankB b = false) : trimL l = u := by
  obtain ⟨rfl, hp⟩ := hl
  subst hu
  rw [← List.append_assoc]
  refine trim_mid pre u suf hp hs ?_ h
  rcases h with h | ⟨b, hb, _⟩
  · exact .inl h
  · right
    have hne : u ≠ [] := by rintro rfl; simp at hb
    rcases ht with h0 | ⟨a, ha, hb'⟩
    · exact absurd (List.append_eq_nil_iff.1 h0).1 hne
    · refine ⟨a, ?_, hb'⟩
      cases u with
      | nil => exact absurd rfl hne
      | cons x u => simpa using ha
theorem trim_snoc {t suf : List UInt8} {u : ByteArray} {b : UInt8} (hu : t = u.data.toList ++ suf) (hs : suf.all blankB = true) (hl : u.data.toList.getLast? = some b) (hb : blankB b = true) :
    t = (u.extract 0 (u.size - 1)).data.toList ++ (b :: suf) ∧ (b :: suf).all blankB = true := by
  refine ⟨?_, by simp [hb, hs]⟩
  have e : (u.extract 0 (u.size - 1)).data.toList = u.data.toList.dropLast := by
    rw [extract_list, List.drop_zero, List.dropLast_eq_take, size_of]
  have hne : u.data.toList ≠ [] := by intro h; rw [h] at hl; simp at hl
  have h2 := List.dropLast_concat_getLast hne
  rw [List.getLast?_eq_some_getLast hne] at hl
  rw [hu, e]
  conv => lhs; rw [← h2]
  simp only [Option.some.injEq] at hl
  rw [hl]; simp
theorem trim_front {l pre : List UInt8} {t : ByteArray} {b : UInt8} (hl : l = pre ++ t.data.toList ∧ pre.all blankB = true) (hp : 0 < t.size) (ht : t[0] = b) (hb : blankB b = true) :
    l = (pre ++ [b]) ++ (t.extract 1 t.size).data.toList ∧ (pre ++ [b]).all blankB = true := by
  refine ⟨?_, by rw [List.all_append, hl.2]; simp [hb]⟩
  rw [hl.1, extract_list, List.append_assoc, take_all t t.size (Nat.le_refl _)]
  have := drop_cons t 0 hp
  rw [List.drop_zero, ht] at this
  rw [this]; rfl
/-- For a measure: a string's length. -/
def strLen : Value → Nat | .string s => s.size | _ => 0

set_option maxRecDepth 100000 in
set_option maxHeartbeats 800000 in
theorem trim_any (s : ByteArray) (w : World) (hs : s.size ≤ 140737488355328) :
    Calls Tryz.prog 130 #[.string s] w fun e w' => e = .returned (.string ⟨(trimL s.data.toList).toArray⟩) ∧ Below w.heap.size w w' := by
  have hcon := Tryz.strings_Trim_ascii s ⟨#[32, 9]⟩ w (by omega) (by decide) (fun j b h => by
    have hb : b ∈ ([32, 9] : List UInt8) := List.mem_of_getElem? h
    simp at hb; rcases hb with rfl | rfl <;> decide)
  change Calls Tryz.prog 171 _ _ (fun e w' => e = .returned (.string ⟨(trimL s.data.toList).toArray⟩) ∧ Below w.heap.size w w') at hcon
  generalize (⟨(trimL s.data.toList).toArray⟩ : ByteArray) = r at hcon ⊢
  go_enter Tryz.func130, Tryz.ntmps130
  go_wp2_with (go_at_call 171; refine hcon.mono ?_; rintro e w' ⟨rfl, hB⟩)
  go_ret
  exact ⟨rfl, hB⟩

set_option maxRecDepth 100000 in
set_option maxHeartbeats 3200000 in
theorem reftrim_any (s : ByteArray) (w : World) (hs : s.size ≤ 140737488355328) :
    Calls Tryz.prog 58 #[.string s] w fun e w' => e = .returned (.string ⟨(trimL s.data.toList).toArray⟩) ∧ w = w' := by
  go_enter Tryz.func58, Tryz.ntmps58
  go_wp2_with fail
  go_loop [0] (fun v => ∃ (t : ByteArray) (pre : List UInt8), v = .string t ∧ t.size ≤ s.size ∧ (s.data.toList = pre ++ t.data.toList ∧ pre.all blankB = true)) (fun v => strLen v)
  case atStart => exact ⟨s, [], rfl, Nat.le_refl _, rfl, rfl⟩
  case round =>
    obtain ⟨t, pre, rfl, ht, hpre⟩ := hrel
    have HPRE := hide hpre
    clear hpre
    by_cases hz : t.size = 0
    · have hz1 : ¬ ((0 : Int) < (t.size : Int)) := by omega
      have HT : Hid (t.data.toList = [] ∨ ∃ a, t.data.toList.head? = some a ∧ blankB a = false) := .inl (nil_of_size hz)
      clear hz
      go_wp2_with fail
      go_loop [0] (fun v => ∃ (u : ByteArray) (suf : List UInt8), v = .string u ∧ u.size ≤ t.size ∧ t.data.toList = u.data.toList ++ suf ∧ suf.all blankB = true) (fun v => strLen v)
      case atStart => exact ⟨t, [], rfl, Nat.le_refl _, by simp, rfl⟩
      case round =>
        obtain ⟨u, suf, rfl, hu, hus, hsuf⟩ := hrel
        have HUS := hide hus
        have HSUF := hide hsuf
        clear hus hsuf
        by_cases hz : u.size = 0
        · have hz1 : ¬ ((0 : Int) < (u.size : Int)) := by omega
          have hend := trim_end HPRE.out HUS.out HSUF.out HT.out (.inl (nil_of_size hz))
          have HEND := hide hend
          clear hend hz
          go_wp2
          go_ret
          exact ⟨ret_string (by rw [HEND.out]), rfl⟩
        · have hp : 0 < u.size := by omega
          have hlast := last_get u hp
          have hlt : u.size - 1 < u.size := by omega
          obtain ⟨b, hb⟩ : ∃ b, u[u.size - 1] = b := ⟨_, rfl⟩
          rw [hb] at hlast
          have e1 : (u.size : Int) - 1 = ((u.size - 1 : Nat) : Int) := by omega
          by_cases hbl : blankB b = true
          · have hsn := trim_snoc HUS.out HSUF.out hlast hbl
            have HSN := hide hsn
            have hor : b.toNat = 32 ∨ (¬ b.toNat = 32 ∧ b.toNat = 9) := blank_cases b hbl
            clear hlast hbl hsn
            rcases hor with hx | ⟨hx1, hx⟩
            · have hx' : ((b.toNat : Int) == 32) = true := by simp; omega
              clear hx
              go_wp2
              go_round
              case rel => exact ⟨u.extract 0 (u.size - 1), _, congrArg Value.string (by first | rfl | (congr 1; omega)), by rw [size_of, extract_list]; simp; omega, HSN.out.1, HSN.out.2⟩
              case measure => simp [strLen]; omega
            · have hx' : ((b.toNat : Int) == 32) = false := by simp; omega
              have hx2 : ((b.toNat : Int) == 9) = true := by simp; omega
              clear hx hx1
              go_wp2
              go_round
              case rel => exact ⟨u.extract 0 (u.size - 1), _, congrArg Value.string (by first | rfl | (congr 1; omega)), by rw [size_of, extract_list]; simp; omega, HSN.out.1, HSN.out.2⟩
              case measure => simp [strLen]; omega
          · have hend := trim_end HPRE.out HUS.out HSUF.out HT.out (.inr ⟨b, hlast, by simpa using hbl⟩)
            have HEND := hide hend
            have hx := blank_not b hbl
            have hx1 : ((b.toNat : Int) == 32) = false := by simp; omega
            have hx2 : ((b.toNat : Int) == 9) = false := by simp; omega
            clear hend hx hlast hbl
            go_wp2
            go_ret
            exact ⟨ret_string (by rw [HEND.out]), rfl⟩
    · have hp : 0 < t.size := by omega
      have hhead := head_get t hp
      obtain ⟨b, hb⟩ : ∃ b, t[0] = b := ⟨_, rfl⟩
      rw [hb] at hhead
      by_cases hbl : blankB b = true
      · have hsn := trim_front HPRE.out hp hb hbl
        have HSN := hide hsn
        have hor : b.toNat = 32 ∨ (¬ b.toNat = 32 ∧ b.toNat = 9) := blank_cases b hbl
        have h1s : (1 : Int) ≤ (t.size : Int) := by omega
        clear hhead hbl hsn
        rcases hor with hx | ⟨hx1, hx⟩
        · have hx' : ((b.toNat : Int) == 32) = true := by simp; omega
          clear hx
          go_wp2
          go_round
          case rel => exact ⟨t.extract 1 t.size, _, rfl, by rw [size_of, extract_list]; simp; omega, HSN.out⟩
          case measure => simp [strLen]; omega
        · have hx' : ((b.toNat : Int) == 32) = false := by simp; omega
          have hx2 : ((b.toNat : Int) == 9) = true := by simp; omega
          clear hx hx1
          go_wp2
          go_round
          case rel => exact ⟨t.extract 1 t.size, _, rfl, by rw [size_of, extract_list]; simp; omega, HSN.out⟩
          case measure => simp [strLen]; omega
      · have HT : Hid (t.data.toList = [] ∨ ∃ a, t.data.toList.head? = some a ∧ blankB a = false) := .inr ⟨b, hhead, by simpa using hbl⟩
        have hx := blank_not b hbl
        have hx1 : ((b.toNat : Int) == 32) = false := by simp; omega
        have hx2 : ((b.toNat : Int) == 9) = false := by simp; omega
        clear hx hhead hbl
        go_wp2_with fail
        go_loop [0] (fun v => ∃ (u : ByteArray) (suf : List UInt8), v = .string u ∧ u.size ≤ t.size ∧ t.data.toList = u.data.toList ++ suf ∧ suf.all blankB = true) (fun v => strLen v)
        case atStart => exact ⟨t, [], rfl, Nat.le_refl _, by simp, rfl⟩
        case round =>
          obtain ⟨u, suf, rfl, hu, hus, hsuf⟩ := hrel
          have HUS := hide hus
          have HSUF := hide hsuf
          clear hus hsuf
          by_cases hz : u.size = 0
          · have hz1 : ¬ ((0 : Int) < (u.size : Int)) := by omega
            have hend := trim_end HPRE.out HUS.out HSUF.out HT.out (.inl (nil_of_size hz))
            have HEND := hide hend
            clear hend hz
            go_wp2
            go_ret
            exact ⟨ret_string (by rw [HEND.out]), rfl⟩
          · have hp : 0 < u.size := by omega
            have hlast := last_get u hp
            have hlt : u.size - 1 < u.size := by omega
            obtain ⟨b, hb⟩ : ∃ b, u[u.size - 1] = b := ⟨_, rfl⟩
            rw [hb] at hlast
            have e1 : (u.size : Int) - 1 = ((u.size - 1 : Nat) : Int) := by omega
            by_cases hbl : blankB b = true
            · have hsn := trim_snoc HUS.out HSUF.out hlast hbl
              have HSN := hide hsn
              have hor : b.toNat = 32 ∨ (¬ b.toNat = 32 ∧ b.toNat = 9) := blank_cases b hbl
              clear hlast hbl hsn
              rcases hor with hx | ⟨hx1, hx⟩
              · have hx' : ((b.toNat : Int) == 32) = true := by simp; omega
                clear hx
                go_wp2
                go_round
                case rel => exact ⟨u.extract 0 (u.size - 1), _, congrArg Value.string (by first | rfl | (congr 1; omega)), by rw [size_of, extract_list]; simp; omega, HSN.out.1, HSN.out.2⟩
                case measure => simp [strLen]; omega
              · have hx' : ((b.toNat : Int) == 32) = false := by simp; omega
                have hx2 : ((b.toNat : Int) == 9) = true := by simp; omega
                clear hx hx1
                go_wp2
                go_round
                case rel => exact ⟨u.extract 0 (u.size - 1), _, congrArg Value.string (by first | rfl | (congr 1; omega)), by rw [size_of, extract_list]; simp; omega, HSN.out.1, HSN.out.2⟩
                case measure => simp [strLen]; omega
            · have hend := trim_end HPRE.out HUS.out HSUF.out HT.out (.inr ⟨b, hlast, by simpa using hbl⟩)
              have HEND := hide hend
              have hx := blank_not b hbl
              have hx1 : ((b.toNat : Int) == 32) = false := by simp; omega
              have hx2 : ((b.toNat : Int) == 9) = false := by simp; omega
              clear hend hx hlast hbl
              go_wp2
              go_ret
              exact ⟨ret_string (by rw [HEND.out]), rfl⟩
end Go.Proofs.YtijlaclngibekaaGreatDoor

/- Good values, and the reference's names and values. -/
namespace Go.Proofs.YtijlaclngibekaaGreatDoor
open Go.RowKit

def goodValueL (l : List UInt8) : Bool := l.all valueB && decide (l.length ≤ 4096) && (trimL l == l)

set_option maxRecDepth 100000 in
set_option maxHeartbeats 800000 in
theorem valueByte_any (c : UInt8) (w : World) :
    Calls Tryz.prog 129 #[.int .u8 c.toNat] w fun e w' => e = .returned (.bool (valueB c)) ∧ w = w' := by
  have hc : c.toNat < 256 := c.toNat_lt
  go_enter Tryz.func129, Tryz.ntmps129
  go_wp2
  all_goals go_ret
  all_goals
    refine ⟨ret_bool ?_, rfl⟩
    rw [Bool.eq_iff_iff]
    simp [valueB]
    omega

def plainL (l : List UInt8) : Bool := l.all valueB
theorem plainL_of {l : List UInt8} {b : Bool} (h : l.all valueB = b) : plainL l = b := h
set_option maxRecDepth 100000 in
set_option maxHeartbeats 800000 in
theorem plain_any (s : ByteArray) (w : World) (hs : s.size ≤ 9223372036854775807) :
    Calls Tryz.prog 61 #[.string s] w fun e w' => e = .returned (.bool (plainL s.data.toList)) ∧ w = w' := by
  go_enter Tryz.func61, Tryz.ntmps61
  go_wp2_with fail
  go_loop [3] (fun i => ∃ k : Nat, k ≤ s.size ∧ i = .int .i64 k ∧ (s.data.toList.take k).all valueB = true) (fun i => s.size - (intOf i).toNat)
  case atStart => exact ⟨0, Nat.zero_le _, rfl, rfl⟩
  case round =>
    obtain ⟨k, hk, rfl, ha⟩ := hrel
    have HA := hide ha
    clear ha
    by_cases hlt : k < s.size
    · have hts := all_take_snoc (p := valueB) s k hlt
      have HT := hide hts
      clear hts
      have hfa : valueB s[k] = false → s.data.toList.all valueB = false := all_false (p := valueB) s k hlt
      have HF := hide hfa
      clear hfa
      obtain ⟨b, hb⟩ : ∃ b, s[k] = b := ⟨_, rfl⟩
      rw [hb] at HT HF
      rcases hv : valueB b with _ | _
      · have h1 : ((b.toNat : Int) != 9) = true ∧ ((b.toNat : Int) < 32 ∨ (¬ (b.toNat : Int) < 32 ∧ ((b.toNat : Int) == 127) = true)) := by
          simp [valueB] at hv ⊢; omega
        obtain ⟨h1, h2⟩ := h1
        have HVF := hide hv
        clear hv
        rcases h2 with h2 | ⟨h2, h3⟩
        all_goals
          go_wp2
          go_ret
          refine ⟨ret_bool (by rw [plainL_of (HF.out HVF.out)]), rfl⟩
      · have h1 : (((b.toNat : Int) != 9) = false ∧ ((b.toNat : Int) == 127) = false) ∨ (((b.toNat : Int) != 9) = true ∧ ¬ (b.toNat : Int) < 32 ∧ ((b.toNat : Int) == 127) = false) := by
          simp [valueB] at hv ⊢; omega
        have HV := hide hv
        clear hv
        rcases h1 with ⟨h1, h2⟩ | ⟨h1, h2, h3⟩
        all_goals
          go_wp2
          go_round
          case rel => exact ⟨k + 1, by omega, by go_num, by rw [HT.out, HA.out, HV.out]; rfl⟩
          case measure => simp [intOf]; omega
    · have hfin : s.data.toList.all valueB = true := by have := HA.out; rwa [take_all s k (by omega)] at this
      have HF := hide hfin
      clear hfin
      go_wp2
      go_ret
      exact ⟨ret_bool (by rw [plainL_of HF.out]), rfl⟩
set_option maxRecDepth 100000 in
set_option maxHeartbeats 800000 in
theorem goodValue_any (s : ByteArray) (w : World) (hs : s.size ≤ 140737488355328) :
    Calls Tryz.prog 97 #[.string s] w fun e w' => e = .returned (.bool (goodValueL s.data.toList)) ∧ Below w.heap.size w w' := by
  have HL := hide (size_of s)
  go_enter Tryz.func97, Tryz.ntmps97
  go_wp2_with fail
  go_loop [6] (fun i => ∃ k : Nat, k ≤ s.size ∧ i = .int .i64 k ∧ (s.data.toList.take k).all valueB = true) (fun i => s.size - (intOf i).toNat)
  case atStart => exact ⟨0, Nat.zero_le _, rfl, rfl⟩
  case round =>
    obtain ⟨k, hk, rfl, ha⟩ := hrel
    have HA := hide ha
    clear ha
    by_cases hlt : k < s.size
    · have hn := valueByte_any s[k] w
      have hts := all_take_snoc (p := valueB) s k hlt
      rcases hb : valueB s[k] with _ | _
      · rw [hb] at hn
        have hfa := all_false (p := valueB) s k hlt hb
        have HF := hide hfa
        clear hb hts hfa
        go_wp2_with (go_at_call 129; refine hn.mono ?_; rintro e w' ⟨rfl, rfl⟩)
        go_ret
        exact ⟨ret_bool (by rw [goodValueL, HF.out]; rfl), Below.refl _ _⟩
      · rw [hb] at hn
        have HB := hide hb
        have HT := hide hts
        clear hb hts
        go_wp2_with (go_at_call 129; refine hn.mono ?_; rintro e w' ⟨rfl, rfl⟩)
        go_round
        case rel => exact ⟨k + 1, by omega, by go_num, by rw [HT.out, HA.out, HB.out]; rfl⟩
        case measure => simp [intOf]; omega
    · have hfin : s.data.toList.all valueB = true := by have := HA.out; rwa [take_all s k (by omega)] at this
      have HF := hide hfin
      have ht := trim_any s w hs
      clear hfin
      by_cases h4 : s.size ≤ 4096
      · go_wp2_with (go_at_call 130; refine ht.mono ?_; rintro e w' ⟨rfl, hB⟩)
        go_ret
        refine ⟨ret_bool ?_, hB⟩
        have hl := HL.out
        simp only [goodValueL, HF.out, Bool.true_and]
        rw [← hl, decide_eq_true h4, Bool.true_and, ByteArray.toList_eq]
      · go_wp2
        go_ret
        refine ⟨ret_bool ?_, Below.refl _ _⟩
        have hl := HL.out
        simp only [goodValueL, HF.out, Bool.true_and]
        rw [← hl, decide_eq_false h4]; rfl

set_option maxRecDepth 100000 in
set_option maxHeartbeats 800000 in
theorem refvalue_any (s : ByteArray) (w : World) (hs : s.size ≤ 9223372036854775807) :
    Calls Tryz.prog 60 #[.string s] w fun e w' => e = .returned (.bool (goodValueL s.data.toList)) ∧ w = w' := by
  have HL := hide (size_of s)
  have hp := plain_any s w hs
  rcases hv : s.data.toList.all valueB with _ | _
  · rw [plainL_of hv] at hp
    have HV := hide hv
    clear hv
    go_enter Tryz.func60, Tryz.ntmps60
    go_wp2_with (go_at_call 61; refine hp.mono ?_; rintro e w' ⟨rfl, rfl⟩)
    go_ret
    exact ⟨ret_bool (by rw [goodValueL, HV.out]; rfl), rfl⟩
  · rw [plainL_of hv] at hp
    have HV := hide hv
    clear hv
    by_cases h4 : s.size ≤ 4096
    · have ht := reftrim_any s w (by omega)
      go_enter Tryz.func60, Tryz.ntmps60
      go_wp2_with (first | (go_at_call 61; refine hp.mono ?_; rintro e w' ⟨rfl, rfl⟩) | (go_at_call 58; refine ht.mono ?_; rintro e w' ⟨rfl, rfl⟩))
      go_ret
      refine ⟨ret_bool ?_, rfl⟩
      have hl := HL.out
      simp only [goodValueL, HV.out, Bool.true_and]
      rw [← hl, decide_eq_true h4, Bool.true_and, ByteArray.toList_eq]
    · go_enter Tryz.func60, Tryz.ntmps60
      go_wp2_with (go_at_call 61; refine hp.mono ?_; rintro e w' ⟨rfl, rfl⟩)
      go_ret
      refine ⟨ret_bool ?_, rfl⟩
      have hl := HL.out
      simp only [goodValueL, HV.out, Bool.true_and]
      rw [← hl, decide_eq_false h4]; rfl
end Go.Proofs.YtijlaclngibekaaGreatDoor
/- Separators in plain lists. No program here. -/
namespace Go.Proofs.YtijlaclngibekaaGreatDoor
open Go.RowKit

/-! ### Cutting at a separator whose first byte stands nowhere else -/
theorem noc_at {c : UInt8} {t a b : List UInt8} (h : c ∉ a) {j : Nat} (hj : j < a.length) : Lib.occAt (a ++ b) (c :: t) j = false := by
  rcases hb : Lib.occAt (a ++ b) (c :: t) j with _ | _
  · rfl
  · exfalso
    have := Lib.occAt_head rfl hb
    rw [List.getElem?_append_left hj] at this
    exact h (List.mem_of_getElem? this)
theorem index_hit {c : UInt8} {t a b : List UInt8} (h : c ∉ a) : Lib.index (a ++ (c :: t) ++ b) (c :: t) = a.length := by
  refine Lib.index_first (by simp) ?_ fun j hj => by rw [List.append_assoc]; exact noc_at h hj
  unfold Lib.occAt
  rw [List.append_assoc, List.drop_left, List.isPrefixOf_iff_prefix]
  exact List.prefix_append _ _
theorem index_miss {c : UInt8} {t a : List UInt8} (h : c ∉ a) : Lib.index a (c :: t) = -1 := by
  refine Lib.index_none fun j hj => ?_
  rcases Nat.lt_or_ge j a.length with hl | hl
  · have := noc_at (b := []) (t := t) h hl
    rwa [List.append_nil] at this
  · unfold Lib.occAt
    rw [List.drop_eq_nil_of_le hl]; rfl
theorem splitK_none {c : UInt8} {t a : List UInt8} (h : c ∉ a) : ∀ k, Lib.splitK (c :: t) 0 k a = [a]
  | 0 => rfl
  | k + 1 => by unfold Lib.splitK; rw [index_miss h]; rfl
theorem splitK_hit {c : UInt8} {t a b : List UInt8} (h : c ∉ a) (k : Nat) : Lib.splitK (c :: t) 0 (k + 1) (a ++ (c :: t) ++ b) = a :: Lib.splitK (c :: t) 0 k b := by
  have hi := index_hit (t := t) (b := b) h
  conv => lhs; unfold Lib.splitK
  rw [hi, if_neg (by simp)]
  simp only [Int.toNat_natCast, Nat.add_zero]
  rw [List.append_assoc, List.take_left, ← List.append_assoc, show a.length + (c :: t).length = (a ++ (c :: t)).length by simp, List.drop_left]
theorem split_none {c : UInt8} {t a : List UInt8} (h : c ∉ a) : Lib.split a (c :: t) = [a] := splitK_none h _
theorem split_hit {c : UInt8} {t a b : List UInt8} (h : c ∉ a) : Lib.split (a ++ (c :: t) ++ b) (c :: t) = a :: Lib.split b (c :: t) := by
  unfold Lib.split
  rw [Lib.count_hit (by simp) (index_hit (b := b) h), show a.length + (c :: t).length = (a ++ (c :: t)).length by simp, List.drop_left, Nat.add_comm 1, splitK_hit h]
theorem splitK_ne : ∀ (k : Nat) (sep : List UInt8) (sv : Nat) (s : List UInt8), Lib.splitK sep sv k s ≠ []
  | 0, _, _, _ => by simp [Lib.splitK]
  | k + 1, sep, sv, s => by unfold Lib.splitK; split <;> simp
theorem split_pos (s sep : List UInt8) : 1 ≤ (Lib.split s sep).length := by
  rcases h : Lib.split s sep with _ | ⟨x, l⟩
  · exact absurd h (splitK_ne _ _ _ _)
  · simp
theorem splitK_mem : ∀ (k : Nat) (sep : List UInt8) (s x : List UInt8), x ∈ Lib.splitK sep 0 k s → x.length ≤ s.length
  | 0, _, s, x, h => by simp [Lib.splitK] at h; subst h; exact Nat.le_refl _
  | k + 1, sep, s, x, h => by
    unfold Lib.splitK at h
    split at h
    · simp at h; subst h; exact Nat.le_refl _
    · rcases List.mem_cons.1 h with rfl | h
      · simp; omega
      · have := splitK_mem k sep _ x h
        simp at this; omega
theorem splitK_len : ∀ (k : Nat) (sep : List UInt8) (s : List UInt8), (Lib.splitK sep 0 k s).length ≤ k + 1
  | 0, _, _ => by simp [Lib.splitK]
  | k + 1, sep, s => by
    unfold Lib.splitK
    split
    · simp
    · have := splitK_len k sep (s.drop ((Lib.index s sep).toNat + sep.length))
      simp only [List.length_cons]; omega

def crlfL : List UInt8 := [13, 10]
def endL : List UInt8 := [13, 10, 13, 10]
theorem trimSuffix_append (a b : List UInt8) : Lib.hasSuffix (a ++ b) b = true ∧ Lib.trimSuffix (a ++ b) b = a := by
  have h : Lib.hasSuffix (a ++ b) b = true := by unfold Lib.hasSuffix; rw [List.isSuffixOf_iff_suffix]; exact List.suffix_append _ _
  refine ⟨h, ?_⟩
  unfold Lib.trimSuffix
  rw [if_pos h]; simp
end Go.Proofs.YtijlaclngibekaaGreatDoor

/- Where a head ends, as plain lists. No program here. -/
namespace Go.Proofs.YtijlaclngibekaaGreatDoor
open Go.RowKit

def endI (b : List UInt8) : Int := Lib.index (b.take 16384) endL
def endE (b : List UInt8) : Nat := if 0 ≤ endI b then 0 else if 16384 ≤ b.length then 6 else 5
def endN (b : List UInt8) : Nat := if 0 ≤ endI b then (endI b).toNat + 4 else 0
theorem occ_take (l sub : List UInt8) (N j : Nat) : Lib.occAt (l.take N) sub j = true ↔ Lib.occAt l sub j = true ∧ (sub.length ≤ N - j) := by
  unfold Lib.occAt
  rw [List.isPrefixOf_iff_prefix, List.isPrefixOf_iff_prefix, List.drop_take, List.prefix_take_iff]
theorem occ_two (l : List UInt8) (i : Nat) : Lib.occAt l endL i = (Lib.occAt l crlfL i && Lib.occAt l crlfL (i + 2)) := by
  unfold Lib.occAt
  rw [← List.drop_drop]
  generalize l.drop i = m
  match m with
  | [] => rfl
  | [a] => simp [endL, crlfL, List.isPrefixOf]
  | a :: b :: m => simp [endL, crlfL, List.isPrefixOf, Bool.and_assoc]
theorem endI_hit {b : List UInt8} {k : Nat} (h4 : k + 4 ≤ 16384) (h : Lib.occAt b endL k = true) (hn : ∀ j, j < k → Lib.occAt b endL j = false) : endI b = k := by
  have hr := Lib.occAt_room h
  have hl : k + 4 ≤ b.length := by
    rcases hr with h | h
    · exact h
    · cases h
  refine Lib.index_first (by rw [List.length_take]; omega) ((occ_take _ _ _ _).2 ⟨h, by simp [endL]; omega⟩) fun j hj => ?_
  rcases hb : Lib.occAt (b.take 16384) endL j with _ | _
  · rfl
  · have := ((occ_take _ _ _ _).1 hb).1
    rw [hn j hj] at this; cases this
theorem endI_miss {b : List UInt8} {k : Nat} (hk : b.length < k + 4 ∨ 16384 < k + 4) (hn : ∀ j, j < k → Lib.occAt b endL j = false) : endI b = -1 := by
  refine Lib.index_none fun j hj => ?_
  rcases hb : Lib.occAt (b.take 16384) endL j with _ | _
  · rfl
  · obtain ⟨h1, h2⟩ := (occ_take _ _ _ _).1 hb
    rcases Lib.occAt_room h1 with h3 | h3
    · have h4 : endL.length = 4 := rfl
      rw [h4] at h2 h3
      rw [hn j (by omega)] at h1; cases h1
    · cases h3
theorem end_hit {b : List UInt8} {k : Nat} (h : endI b = k) : endE b = 0 ∧ endN b = k + 4 := by
  unfold endE endN
  rw [h, if_pos (by omega), if_pos (by omega)]
  exact ⟨rfl, by simp⟩
theorem end_miss {b : List UInt8} (h : endI b = -1) : endE b = (if 16384 ≤ b.length then 6 else 5) ∧ endN b = 0 := by
  unfold endE endN
  rw [h]
  exact ⟨if_neg (by decide), if_neg (by decide)⟩
theorem occ_step {l : List UInt8} {i : Nat} (h : i + 1 < l.length) : Lib.occAt l crlfL i = ((l[i]'(by omega)) == 13 && l[i + 1] == 10) := by
  unfold Lib.occAt
  rw [List.drop_eq_getElem_cons (show i < l.length by omega), List.drop_eq_getElem_cons h]
  generalize l[i] = x
  generalize l[i + 1] = y
  show ((13 == x) && ((10 == y) && true)) = _
  rw [Bool.and_true, Bool.beq_comm (a := (13 : UInt8)), Bool.beq_comm (a := (10 : UInt8))]
theorem occ_short {l : List UInt8} {i : Nat} (h : ¬ i + 1 < l.length) : Lib.occAt l crlfL i = false := by
  rcases hb : Lib.occAt l crlfL i with _ | _
  · rfl
  · rcases Lib.occAt_room hb with h3 | h3
    · exact absurd (show i + 1 < l.length from h3) h
    · cases h3
end Go.Proofs.YtijlaclngibekaaGreatDoor

/- head.End. -/
namespace Go.Proofs.YtijlaclngibekaaGreatDoor
open Go.RowKit

theorem bytesOf_nums (l : List UInt8) : Lib.bytesOf (l.map fun b => (b.toNat : Int)) = l := by
  unfold Lib.bytesOf
  rw [List.map_map]
  conv => rhs; rw [← List.map_id l]
  refine List.map_congr_left fun b _ => ?_
  simp
set_option maxRecDepth 100000 in
set_option maxHeartbeats 3200000 in
theorem headend_any (A : Option Addr) (n c B : Nat) (bs : List UInt8) (mx : Int) (w : World) (h : Rd w B 1 A n (bcells bs)) (hB : B ≤ w.heap.size) (hn : n ≤ 100000) (hnc : n ≤ c) (hA : A = none → c = 0) (hm : w.cell? ⟨1, 0, none⟩ = some (.int .i64 mx)) :
    Calls Tryz.prog 102 #[.slice A n c] w fun e w' => e = .returned (.tuple #[.int .i64 (endN bs), .int .i64 (endE bs)]) ∧ Below w.heap.size w w' := by
  have hlen : bs.length = n := by have := h.1; rw [bcells_length] at this; omega
  have hmb : 1 < w.heap.size := World.block_lt_of_cell? w _ hm
  have kc := fun (w : World) (C : Array Value) (n c : Nat) => Lib.run_convert_bytes_const (P := Tryz.prog) w 35 5 C n c Tryz.underlying35 Tryz.underlying5
  obtain ⟨w2, hw2⟩ : ∃ x, x = w.alloc (.cells #[.int .u8 13, .int .u8 10, .int .u8 13, .int .u8 10] 5 (4, 5)) := ⟨_, rfl⟩
  have b2 : Below w.heap.size w w2 := by rw [hw2]; exact (Below.refl _ _).alloc (Nat.le_refl _) _
  have hm2 : w2.cell? ⟨1, 0, none⟩ = some (.int .i64 mx) := (b2.cell (p := ⟨1, 0, none⟩) hmb).trans hm
  have hcy : ∀ i, i < 4 → w2.cell? ((⟨w.heap.size, 0, none⟩ : Addr).add i) = some (.int .u8 (([13, 10, 13, 10] : List Int).getD i 0)) := fun i hi => by
    rw [Addr.add_lit, hw2, cell_of_row _ w.heap.size _ _ _ (4, 5) (heap_alloc_new w _)]
    match i, hi with
    | 0, _ => rfl
    | 1, _ => rfl
    | 2, _ => rfl
    | 3, _ => rfl
  obtain ⟨m, hmn⟩ : ∃ m, m = min n 16384 := ⟨_, rfl⟩
  have hidx : ∃ r : Int, r = endI bs ∧ (Calls Tryz.prog 134 #[.slice A m c, .slice (some ⟨w.heap.size, 0, none⟩) 4 4] w2 fun e w' => e = .returned (.int .i64 r) ∧ Below w2.heap.size w2 w') := by
    rcases A with _ | a
    · have h0 : n = 0 := by
        rcases h.2 with h0 | ⟨_, h0, _⟩
        · exact h0
        · cases h0
      subst h0
      obtain rfl : c = 0 := hA rfl
      obtain rfl : m = 0 := by omega
      obtain rfl : bs = [] := List.eq_nil_of_length_eq_zero hlen
      refine ⟨_, rfl, (Tryz.bytes_Index_nil (some ⟨w.heap.size, 0, none⟩) 4 4 w2 (by omega) (by omega)).mono ?_⟩
      rintro e w' ⟨rfl, rfl⟩
      exact ⟨rfl, Below.refl _ _⟩
    · have hx := (Tryz.bytes_Index_at a ⟨w.heap.size, 0, none⟩ m c 4 4 ((bs.take m).map fun b => (b.toNat : Int)) [13, 10, 13, 10] mx w2 (by simp; omega) rfl (by intro x hx; obtain ⟨b, _, rfl⟩ := List.mem_map.1 hx; have := b.toNat_lt; omega) (by decide)
        (fun i hi => by
          obtain ⟨a', ha, hab, hc⟩ := h.at_ (k := i) (by omega)
          cases ha
          have hbi : i < bs.length := by omega
          have hbt : i < (bs.take m).length := by rw [List.length_take]; omega
          have := hc i _ (bcells_get bs i hbi)
          rw [b2.cell (by rw [addr_add_block]; omega), this, List.getD_eq_getElem?_getD, List.getElem?_map, List.getElem?_eq_getElem hbt, List.getElem_take]
          rfl) hcy (by omega) (by omega) (by omega) hm2)
      rw [bytesOf_nums] at hx
      refine ⟨_, rfl, hx.mono ?_⟩
      rintro e w' ⟨rfl, q, rfl⟩
      refine ⟨?_, below_drewN (Below.refl _ _)⟩
      have : bs.take m = bs.take 16384 := by
        rw [hmn, ← hlen]
        rcases Nat.le_total bs.length 16384 with h1 | h1
        · rw [Nat.min_eq_left h1, List.take_length, List.take_of_length_le h1]
        · rw [Nat.min_eq_right h1]
      rw [this]
      rfl
  obtain ⟨r, hr, hq⟩ := hidx
  have hm1 : min (n : Int) 16384 = (m : Int) := by omega
  have hmle : m ≤ n := by omega
  have hmc : m ≤ c := by omega
  obtain ⟨rN, hrN⟩ : ∃ x, x = endN bs := ⟨_, rfl⟩
  obtain ⟨rE, hrE⟩ : ∃ x, x = endE bs := ⟨_, rfl⟩
  rw [← hrN, ← hrE]
  have t : ∀ w', Below w2.heap.size w2 w' → Below w.heap.size w w' := fun w' bb => b2.trans (bb.mono b2.size)
  have kcw := kc w #[.int .u8 13, .int .u8 10, .int .u8 13, .int .u8 10] 4 4
  change (convert 35 35 _).run Tryz.prog _ = .ok _ (w.alloc (.cells #[.int .u8 13, .int .u8 10, .int .u8 13, .int .u8 10] 5 (4, 5))) at kcw
  rw [← hw2] at kcw
  have HW2 := hide hw2
  rcases Lib.index_spec (bs.take 16384) endL with ⟨hi, _⟩ | ⟨k, hi, hkl, hocc, _⟩
  · change endI bs = -1 at hi
    obtain ⟨e1, e2⟩ := end_miss hi
    rw [hi] at hr
    rw [← hrE, hlen] at e1
    rw [← hrN] at e2
    subst hr
    by_cases h16 : 16384 ≤ n
    · rw [if_pos h16] at e1
      subst e1 e2
      have i3 : (16384 : Int) ≤ (n : Int) := by omega
      clear hmn hw2 hcy hm2 hm hi h hlen hrN hrE kc
      go_enter Tryz.func102, Tryz.ntmps102
      go_wp2_with fail
      refine hq.mono ?_
      rintro e w3 ⟨rfl, b3⟩
      go_wp2_with fail
      go_ret2
      exact ⟨rfl, t _ b3⟩
    · rw [if_neg h16] at e1
      subst e1 e2
      have i3 : ¬ (16384 : Int) ≤ (n : Int) := by omega
      clear hmn hw2 hcy hm2 hm hi h hlen hrN hrE kc
      go_enter Tryz.func102, Tryz.ntmps102
      go_wp2_with fail
      refine hq.mono ?_
      rintro e w3 ⟨rfl, b3⟩
      go_wp2_with fail
      go_ret2
      exact ⟨rfl, t _ b3⟩
  · change endI bs = k at hi
    obtain ⟨e1, e2⟩ := end_hit hi
    rw [hi] at hr
    rw [← hrE] at e1
    rw [← hrN] at e2
    subst hr e1 e2
    have hk16 : (k : Int) ≤ 100000 := by
      have h1 : (bs.take 16384).length ≤ 16384 := by rw [List.length_take]; omega
      omega
    have i4 : (0 : Int) ≤ (k : Int) := by omega
    clear hkl
    clear hmn hw2 hcy hm2 hm hi h hlen hrN hrE kc hocc
    go_enter Tryz.func102, Tryz.ntmps102
    go_wp2_with fail
    refine hq.mono ?_
    rintro e w3 ⟨rfl, b3⟩
    go_wp2_with fail
    go_ret2
    exact ⟨by simp, t _ b3⟩
end Go.Proofs.YtijlaclngibekaaGreatDoor
/- The reference's crlf. -/
namespace Go.Proofs.YtijlaclngibekaaGreatDoor
open Go.RowKit

set_option maxRecDepth 100000 in
set_option maxHeartbeats 3200000 in
theorem crlf_any (s : ByteArray) (i : Nat) (w : World) (hi : i ≤ 1000000) :
    Calls Tryz.prog 35 #[.string s, .int .i64 i] w fun e w' => e = .returned (.bool (Lib.occAt s.data.toList crlfL i)) ∧ w = w' := by
  have hw1 : IntKind.i64.wrap ((i : Int) + 1) = (i : Int) + 1 := by simp [IntKind.wrap, IntKind.bits, IntKind.signed]; omega
  by_cases hlt : i + 1 < s.size
  · have hlt' : i + 1 < s.data.toList.length := by rw [← size_of]; exact hlt
    rw [occ_step hlt']
    have e0 : s.data.toList[i] = s[i] := rfl
    have e1 : s.data.toList[i + 1] = s[i + 1] := rfl
    rw [e0, e1]
    have hlt1 : ((i : Int) + 1) < (s.size : Int) := by omega
    obtain ⟨x, hx⟩ : ∃ x, s[i] = x := ⟨_, rfl⟩
    obtain ⟨y, hy⟩ : ∃ x, s[i + 1] = x := ⟨_, rfl⟩
    rw [hx, hy]
    have hti : ((i : Int) + 1).toNat = i + 1 := by omega
    rcases hc1 : (x == 13) with _ | _
    · have h1 : ((x.toNat : Int) == 13) = false := by
        rw [beq_eq_false_iff_ne] at hc1 ⊢
        intro h; apply hc1; apply UInt8.toNat_inj.1; simp; omega
      clear hc1
      go_enter Tryz.func35, Tryz.ntmps35
      go_wp2_with fail
      go_ret
      exact ⟨rfl, rfl⟩
    · have h1 : ((x.toNat : Int) == 13) = true := by
        have := eq_of_beq hc1; subst this; rfl
      rcases hc2 : (y == 10) with _ | _
      · have h2 : ((y.toNat : Int) == 10) = false := by
          rw [beq_eq_false_iff_ne] at hc2 ⊢
          intro h; apply hc2; apply UInt8.toNat_inj.1; simp; omega
        clear hc1 hc2
        go_enter Tryz.func35, Tryz.ntmps35
        go_wp2_with fail
        go_ret
        exact ⟨rfl, rfl⟩
      · have h2 : ((y.toNat : Int) == 10) = true := by
          have := eq_of_beq hc2; subst this; rfl
        clear hc1 hc2
        go_enter Tryz.func35, Tryz.ntmps35
        go_wp2_with fail
        go_ret
        exact ⟨rfl, rfl⟩
  · have hlt' : ¬ i + 1 < s.data.toList.length := by rw [← size_of]; exact hlt
    rw [occ_short hlt']
    have hlt1 : ¬ ((i : Int) + 1) < (s.size : Int) := by omega
    go_enter Tryz.func35, Tryz.ntmps35
    go_wp2_with fail
    go_ret
    exact ⟨rfl, rfl⟩

end Go.Proofs.YtijlaclngibekaaGreatDoor
/- What the members of a value are: plain lists. -/
namespace Go.Proofs.YtijlaclngibekaaGreatDoor

/-- How long the first member is; q: within quotes. -/
def cutL : Bool → List UInt8 → Nat
  | _, [] => 0
  | q, c :: l =>
    if q && c == 92 then
      match l with
      | [] => 1
      | _ :: l' => cutL q l' + 2
    else if c == 34 then cutL (!q) l + 1
    else if !q && c == 44 then 0
    else cutL q l + 1
theorem cutL_le : ∀ (n : Nat) (q : Bool) (l : List UInt8), l.length ≤ n → cutL q l ≤ l.length
  | _, q, [], _ => by simp [cutL]
  | 0, q, c :: l, h => by simp at h
  | n + 1, q, c :: l, h => by
    have h' : l.length ≤ n := by simpa using h
    unfold cutL
    split
    · cases l with
      | nil => simp
      | cons d l' => have := cutL_le n q l' (by simp at h'; omega); simp; omega
    · split
      · have := cutL_le n (!q) l h'; simp; omega
      · split
        · simp
        · have := cutL_le n q l h'; simp; omega
theorem cut_le (q : Bool) (l : List UInt8) : cutL q l ≤ l.length := cutL_le l.length q l (Nat.le_refl _)
/-- A member, if it is one. -/
def pieceL (l : List UInt8) : List (List UInt8) := if trimL l = [] then [] else [trimL l]
/-- The members. -/
def splitL (l : List UInt8) : List (List UInt8) :=
  if _h : cutL false l < l.length then pieceL (l.take (cutL false l)) ++ splitL (l.drop (cutL false l + 1)) else pieceL l
termination_by l.length
decreasing_by simp; omega
theorem splitL_step (l : List UInt8) (h : cutL false l < l.length) : splitL l = pieceL (l.take (cutL false l)) ++ splitL (l.drop (cutL false l + 1)) := by rw [splitL, dif_pos h]
theorem splitL_last (l : List UInt8) (h : ¬ cutL false l < l.length) : splitL l = pieceL l := by rw [splitL, dif_neg h]
theorem pieceL_length (l : List UInt8) : (pieceL l).length ≤ 1 := by unfold pieceL; split <;> simp
theorem splitL_length : ∀ (n : Nat) (l : List UInt8), l.length ≤ n → (splitL l).length ≤ l.length + 1
  | 0, l, h => by
    have : ¬ cutL false l < l.length := by omega
    rw [splitL_last l this]; have := pieceL_length l; omega
  | n + 1, l, h => by
    by_cases hc : cutL false l < l.length
    · rw [splitL_step l hc, List.length_append]
      have h1 := pieceL_length (l.take (cutL false l))
      have h2 := splitL_length n (l.drop (cutL false l + 1)) (by simp; omega)
      simp at h2; omega
    · rw [splitL_last l hc]; have := pieceL_length l; omega
theorem split_length (l : List UInt8) : (splitL l).length ≤ l.length + 1 := splitL_length l.length l (Nat.le_refl _)
/-- No member is empty. -/
theorem splitL_ne : ∀ (n : Nat) (l : List UInt8), l.length ≤ n → ∀ x ∈ splitL l, x ≠ [] ∧ ∃ y, x = trimL y
  | n, l, h, x, hx => by
    have hp : ∀ m : List UInt8, x ∈ pieceL m → x ≠ [] ∧ ∃ y, x = trimL y := fun m hm => by
      unfold pieceL at hm
      split at hm
      · simp at hm
      · rename_i hne
        simp at hm; subst hm; exact ⟨hne, m, rfl⟩
    by_cases hc : cutL false l < l.length
    · rw [splitL_step l hc, List.mem_append] at hx
      rcases hx with hx | hx
      · exact hp _ hx
      · match n with
        | 0 => omega
        | n + 1 => exact splitL_ne n _ (by simp; omega) x hx
    · rw [splitL_last l hc] at hx; exact hp _ hx

/-- The cells that hold texts. -/
def scells (ls : List (List UInt8)) : List Value := ls.map fun l => .string ⟨l.toArray⟩
theorem scells_length (ls : List (List UInt8)) : (scells ls).length = ls.length := by simp [scells]
theorem scells_append (a b : List (List UInt8)) : scells a ++ scells b = scells (a ++ b) := by simp [scells]
theorem scells_one (ls : List (List UInt8)) : ∀ u ∈ scells ls, u.oneCell' = true := by
  intro u hu
  obtain ⟨b, _, rfl⟩ := List.mem_map.1 hu
  rfl
theorem scells_take (l : List (List UInt8)) (k : Nat) : (scells l).take k = scells (l.take k) := by simp [scells, List.map_take]
theorem scells_drop (l : List (List UInt8)) (k : Nat) : (scells l).drop k = scells (l.drop k) := by simp [scells, List.map_drop]
theorem scells_get (ls : List (List UInt8)) (k : Nat) (h : k < ls.length) : (scells ls)[k]? = some (.string ⟨ls[k].toArray⟩) := by simp [scells, h]
theorem own_snoc_str {w : World} {base e n : Nat} {v : Value} {ls : List (List UInt8)} {s : ByteArray} {b : List UInt8} (h : w.ownsRow base e 1 v (n + 1) (scells ls ++ (#[Value.string s]).toList)) (hx : s.data.toList = b) : w.ownsRow base e 1 v (n + 1) (scells (ls ++ [b])) := by
  subst hx; simpa [scells, bytes_of] using h

/-- A step of the scan. -/
theorem cutL_cons (q : Bool) (c : UInt8) (l : List UInt8) : cutL q (c :: l) =
    if q && c == 92 then (match l with | [] => 1 | _ :: l' => cutL q l' + 2) else if c == 34 then cutL (!q) l + 1 else if !q && c == 44 then 0 else cutL q l + 1 := by
  conv => lhs; unfold cutL
theorem cutL_esc (c : UInt8) (l : List UInt8) (h : c = 92) : cutL true (c :: l) = match l with | [] => 1 | _ :: l' => cutL true l' + 2 := by subst h; rw [cutL_cons, if_pos (by decide)]
theorem cutL_quote (q : Bool) (c : UInt8) (l : List UInt8) (h : c = 34) : cutL q (c :: l) = cutL (!q) l + 1 := by
  subst h; rw [cutL_cons, if_neg (by cases q <;> decide), if_pos (by decide)]
theorem cutL_comma (c : UInt8) (l : List UInt8) (h : c = 44) : cutL false (c :: l) = 0 := by subst h; rw [cutL_cons, if_neg (by decide), if_neg (by decide), if_pos (by decide)]
theorem cutL_other (q : Bool) (c : UInt8) (l : List UInt8) (h1 : ¬ (q = true ∧ c = 92)) (h2 : c ≠ 34) (h3 : ¬ (q = false ∧ c = 44)) : cutL q (c :: l) = cutL q l + 1 := by
  rw [cutL_cons, if_neg (by simpa using h1), if_neg (by simpa using h2), if_neg (by simpa using h3)]
end Go.Proofs.YtijlaclngibekaaGreatDoor

/- field.cut, field.Split and the reference's Split: the members of a value. -/
namespace Go.Proofs.YtijlaclngibekaaGreatDoor
open Go.RowKit

/-- cut at a place of the scan: what a byte does. -/
theorem cut_at {s : ByteArray} {k : Nat} {q : Bool} {b : UInt8} (hk : k < s.size) (hb : s[k] = b) (h : cutL false s.data.toList = k + cutL q (s.data.toList.drop k)) :
    (q = true ∧ b = 92 → (k + 1 = s.size → cutL false s.data.toList = s.size) ∧ (k + 2 ≤ s.size → cutL false s.data.toList = (k + 2) + cutL q (s.data.toList.drop (k + 2)))) ∧
    (b = 34 → cutL false s.data.toList = (k + 1) + cutL (!q) (s.data.toList.drop (k + 1))) ∧
    (q = false ∧ b = 44 → cutL false s.data.toList = k) ∧
    (¬ (q = true ∧ b = 92) → b ≠ 34 → ¬ (q = false ∧ b = 44) → cutL false s.data.toList = (k + 1) + cutL q (s.data.toList.drop (k + 1))) := by
  have hd := drop_cons s k hk
  rw [hb] at hd
  rw [hd] at h
  refine ⟨?_, ?_, ?_, ?_⟩
  · rintro ⟨rfl, rfl⟩
    rw [cutL_esc _ _ rfl] at h
    constructor
    · intro he
      rw [drop_all s (k + 1) (by omega)] at h
      simp at h; omega
    · intro he
      rw [drop_cons s (k + 1) (by omega)] at h
      simp only [show k + 1 + 1 = k + 2 from rfl] at h
      omega
  · intro he
    rw [cutL_quote q b _ he] at h; omega
  · rintro ⟨rfl, he⟩
    rw [cutL_comma b _ he] at h; omega
  · intro h1 h2 h3
    rw [cutL_other q b _ h1 h2 h3] at h; omega
theorem byte_eq_num (b : UInt8) (n : Nat) (hn : n < 256) : (((b.toNat : Int) == (n : Int)) = true ↔ b = UInt8.ofNat n) := by
  simp only [beq_iff_eq]
  constructor
  · intro h; exact UInt8.toNat_inj.1 (by simp; omega)
  · rintro rfl; simp; omega

set_option maxRecDepth 100000 in
set_option maxHeartbeats 3200000 in
theorem cut_any (s : ByteArray) (w : World) (hs : s.size ≤ 140737488355328) :
    Calls Tryz.prog 234 #[.string s] w fun e w' => e = .returned (.int .i64 (cutL false s.data.toList)) ∧ w = w' := by
  have HL := hide (size_of s)
  go_enter Tryz.func234, Tryz.ntmps234
  go_wp2_with fail
  go_loopg [3, 4] (s.size + 1) (fun g v i w' => ∃ (k : Nat) (q : Bool), g + k = s.size + 1 ∧ i = .int .i64 k ∧ v = .bool q ∧ w' = w ∧ ((k ≤ s.size ∧ cutL false s.data.toList = k + cutL q (s.data.toList.drop k)) ∨ (k = s.size + 1 ∧ cutL false s.data.toList = s.size)))
  case atStart => exact ⟨0, false, by omega, rfl, rfl, rfl, .inl ⟨Nat.zero_le _, by simp⟩⟩
  case round =>
    obtain ⟨k, q, hk, rfl, rfl, hw, hc⟩ := hrel
    obtain rfl : w = wr := hw.symm
    by_cases hlt : k < s.size
    · have hc1 : cutL false s.data.toList = k + cutL q (s.data.toList.drop k) := by
        rcases hc with h | h
        · exact h.2
        · omega
      obtain ⟨b, hb⟩ : ∃ b, s[k] = b := ⟨_, rfl⟩
      obtain ⟨c1, c2, c3, c4⟩ := cut_at hlt hb hc1
      have C1 := hide c1
      have C2 := hide c2
      have C3 := hide c3
      have C4 := hide c4
      have e92 := byte_eq_num b 92 (by decide)
      have e34 := byte_eq_num b 34 (by decide)
      have e44 := byte_eq_num b 44 (by decide)
      have HK := hide hk
      clear hc hc1 c1 c2 c3 c4 hk
      have n92 : ∀ h : ¬ b = 92, ((b.toNat : Int) == 92) = false := fun h => by rw [Bool.eq_false_iff]; exact fun e => h (e92.1 e)
      have n34 : ∀ h : ¬ b = 34, ((b.toNat : Int) == 34) = false := fun h => by rw [Bool.eq_false_iff]; exact fun e => h (e34.1 e)
      have n44 : ∀ h : ¬ b = 44, ((b.toNat : Int) == 44) = false := fun h => by rw [Bool.eq_false_iff]; exact fun e => h (e44.1 e)
      rcases q with _ | _
      · by_cases h34 : b = 34
        · have x1 := e34.2 h34
          have hn := C2.out h34
          have HN := hide hn
          clear hn e92 e34 e44 n92 n34 n44 h34
          go_wp2
          go_roundg (s.size + 1 - (k + 1))
          case measure => have := HK.out; omega
          case rel => have := HK.out; exact ⟨k + 1, true, by omega, by go_num, rfl, rfl, .inl ⟨by omega, HN.out⟩⟩
        · have x1 := n34 h34
          by_cases h44 : b = 44
          · have x2 := e44.2 h44
            have hn := C3.out ⟨rfl, h44⟩
            have HN := hide hn
            clear hn e92 e34 e44 n92 n34 n44 h34 h44
            go_wp2
            go_ret
            exact ⟨ret_int (by rw [HN.out]), rfl⟩
          · have x2 := n44 h44
            have hn := C4.out (by simp) h34 (by simp [h44])
            have HN := hide hn
            clear hn e92 e34 e44 n92 n34 n44 h34 h44
            go_wp2
            go_roundg (s.size + 1 - (k + 1))
            case measure => have := HK.out; omega
            case rel => have := HK.out; exact ⟨k + 1, false, by omega, by go_num, rfl, rfl, .inl ⟨by omega, HN.out⟩⟩
      · by_cases h92 : b = 92
        · have x1 := e92.2 h92
          obtain ⟨hn1, hn2⟩ := C1.out ⟨rfl, h92⟩
          have HN1 := hide hn1
          have HN2 := hide hn2
          clear hn1 hn2 e92 e34 e44 n92 n34 n44 h92
          go_wp2
          go_roundg (s.size + 1 - (k + 2))
          case measure => have := HK.out; omega
          case rel =>
            have := HK.out
            refine ⟨k + 2, true, by omega, by go_num, rfl, rfl, ?_⟩
            by_cases he : k + 1 = s.size
            · exact .inr ⟨by omega, HN1.out he⟩
            · exact .inl ⟨by omega, HN2.out (by omega)⟩
        · have x1 := n92 h92
          by_cases h34 : b = 34
          · have x2 := e34.2 h34
            have hn := C2.out h34
            have HN := hide hn
            clear hn e92 e34 e44 n92 n34 n44 h34 h92
            go_wp2
            go_roundg (s.size + 1 - (k + 1))
            case measure => have := HK.out; omega
            case rel => have := HK.out; exact ⟨k + 1, false, by omega, by go_num, rfl, rfl, .inl ⟨by omega, HN.out⟩⟩
          · have x2 := n34 h34
            have hn := C4.out (by simp [h92]) h34 (by simp)
            have HN := hide hn
            clear hn e92 e34 e44 n92 n34 n44 h34 h92
            go_wp2
            go_roundg (s.size + 1 - (k + 1))
            case measure => have := HK.out; omega
            case rel => have := HK.out; exact ⟨k + 1, true, by omega, by go_num, rfl, rfl, .inl ⟨by omega, HN.out⟩⟩
    · have hfin : cutL false s.data.toList = s.size := by
        have hl := HL.out
        rcases hc with h | h
        · rw [h.2, drop_all s k (by omega)]; simp [cutL]; omega
        · exact h.2
      have HF := hide hfin
      clear hfin hc
      go_wp2
      go_ret
      exact ⟨ret_int (by rw [HF.out]), rfl⟩
theorem infoStr : (Tryz.prog.info? 9).map (fun i => (i.zero, i.size, i.bytes)) = some (some (.string ByteArray.empty), 1, 16) := by kernel_rfl
theorem isEmpty_mk (l : List UInt8) : (⟨l.toArray⟩ : ByteArray).toList.isEmpty = l.isEmpty := by rw [ByteArray.toList_eq]
theorem splitL_piece (l : List UInt8) (outs : List (List UInt8)) (L : List UInt8) (h : splitL L = outs ++ splitL l) :
    (cutL false l < l.length → splitL L = (outs ++ pieceL (l.take (cutL false l))) ++ splitL (l.drop (cutL false l + 1))) ∧ (¬ cutL false l < l.length → splitL L = outs ++ pieceL (l.take (cutL false l))) := by
  constructor
  · intro hc; rw [h, splitL_step l hc, List.append_assoc]
  · intro hc; rw [h, splitL_last l hc, List.take_of_length_le (by omega)]

set_option maxRecDepth 100000 in
set_option maxHeartbeats 3200000 in
theorem split_any (s : ByteArray) (w : World) (hs : s.size ≤ 1048576) :
    Calls Tryz.prog 187 #[.string s] w fun e w' => ∃ A c, e = .returned (.slice A (splitL s.data.toList).length c) ∧
      w'.ownsRow w.heap.size 9 1 (.slice A (splitL s.data.toList).length c) (splitL s.data.toList).length (scells (splitL s.data.toList)) ∧ (splitL s.data.toList).length ≤ c ∧ Below w.heap.size w w' := by
  obtain ⟨i0, hi0, hz0, hz1, hz2⟩ := info_parts infoStr
  have htot := split_length s.data.toList
  rw [← size_of] at htot
  go_enter Tryz.func187, Tryz.ntmps187
  go_wp2_with fail
  go_loopw [0, 3] (fun v o wr => ∃ (t : ByteArray) (outs : List (List UInt8)), v = .string t ∧ t.size ≤ s.size ∧ splitL s.data.toList = outs ++ splitL t.data.toList ∧
    wr.ownsRow w.heap.size 9 1 o outs.length (scells outs) ∧ Below w.heap.size w wr) (fun v _ _ => strLen v)
  case atStart => exact ⟨s, [], rfl, Nat.le_refl _, rfl, World.ownsRow_nil _ _ _ _, Below.refl _ _⟩
  case round =>
    obtain ⟨t, outs, rfl, ht, hsp, ho, hb⟩ := hrel
    obtain ⟨p1, p2⟩ := splitL_piece _ _ _ hsp
    have hcl := cut_le false t.data.toList
    rw [← size_of] at hcl p1 p2
    have hlen : outs.length ≤ s.size + 1 := by have := congrArg List.length hsp; rw [List.length_append] at this; omega
    have hcut := cut_any t
    have htr := trim_any (t.extract 0 (cutL false t.data.toList))
    have hext : (t.extract 0 (cutL false t.data.toList)).data.toList = t.data.toList.take (cutL false t.data.toList) := by rw [extract_list, List.drop_zero]
    have hexs : (t.extract 0 (cutL false t.data.toList)).size ≤ 140737488355328 := by rw [size_of, hext, List.length_take, ← size_of]; omega
    rw [hext] at htr
    obtain ⟨n, hn⟩ : ∃ n, n = cutL false t.data.toList := ⟨_, rfl⟩
    rw [← hn] at hcl p1 p2 hcut htr hext hexs
    have hdr : (t.extract (n + 1) t.size).data.toList = t.data.toList.drop (n + 1) := by rw [extract_list, take_all t _ (Nat.le_refl _)]
    have hds : (t.extract (n + 1) t.size).size = t.size - (n + 1) := by rw [size_of, hdr, List.length_drop, ← size_of]
    rw [← hdr] at p1
    obtain ⟨tr, htrr⟩ : ∃ tr, tr = trimL (t.data.toList.take n) := ⟨_, rfl⟩
    have hpc : pieceL (t.data.toList.take n) = if tr = [] then [] else [tr] := by rw [pieceL, htrr]
    rw [← htrr] at htr
    rw [hpc] at p1 p2
    have P1 := hide p1
    have P2 := hide p2
    have HDS := hide hds
    have hbz := hb.size
    clear p1 p2 hsp hext hdr hds hpc htrr hn
    rcases htre : tr with _ | ⟨x, tr'⟩
    · subst htre
      have hem := isEmpty_mk ([] : List UInt8)
      by_cases hnt : n < t.size
      · have hne : ((n : Int) == (t.size : Int)) = false := by simp; omega
        have h1 : (n : Int) + 1 ≤ (t.size : Int) := by omega
        go_wp2_with (first | (go_at_call 234; refine (hcut _ (by omega)).mono ?_; rintro e w' ⟨rfl, rfl⟩) | (go_at_call 130; refine (htr _ hexs).mono ?_; rintro e w' ⟨rfl, hB⟩))
        go_roundw
        case rel => exact ⟨t.extract (n + 1) t.size, outs, rfl, by have := HDS.out; omega, by have := P1.out hnt; simpa using this, own_below ho hB, hb.trans (hB.mono hbz)⟩
        case measure => have := HDS.out; simp only [strLen]; omega
      · have hne : ((n : Int) == (t.size : Int)) = true := by simp; omega
        go_wp2_with (first | (go_at_call 234; refine (hcut _ (by omega)).mono ?_; rintro e w' ⟨rfl, rfl⟩) | (go_at_call 130; refine (htr _ hexs).mono ?_; rintro e w' ⟨rfl, hB⟩))
        go_ret
        have hfin : splitL s.data.toList = outs := by have := P2.out hnt; simpa using this
        rw [hfin]
        obtain ⟨A, c, rfl, hc, -⟩ := own_shape ho
        exact ⟨A, c, rfl, own_below ho hB, hc, hb.trans (hB.mono hbz)⟩
    · subst htre
      have hem := isEmpty_mk (x :: tr')
      by_cases hnt : n < t.size
      · have hne : ((n : Int) == (t.size : Int)) = false := by simp; omega
        have h1 : (n : Int) + 1 ≤ (t.size : Int) := by omega
        go_wp2_with (first | (go_at_call 234; refine (hcut _ (by omega)).mono ?_; rintro e w' ⟨rfl, rfl⟩) | (go_at_call 130; refine (htr _ hexs).mono ?_; rintro e w' ⟨rfl, hB⟩; have hoB := own_below ho hB; have hbB := hb.trans (hB.mono hbz); have hbBz := hbB.size) | (at_builtin; refine wpl_push rfl _ _ _ rfl w.heap.size i0 _ 1 16 Tryz.underlying23 hi0 hz0 hz1 hz2 rfl (by omega) _ _ _ rfl _ rfl hoB rfl (by simp [Value.oneCell']) (by simp [maxLen]; omega) (by omega) hbBz ?_; intro v1 w1 hown1 hbel1 _))
        go_roundw
        case rel => exact ⟨t.extract (n + 1) t.size, outs ++ [x :: tr'], rfl, by have := HDS.out; omega, by have := P1.out hnt; simpa using this, by rw [List.length_append]; exact own_snoc_str hown1 (by simp), hbB.trans hbel1⟩
        case measure => have := HDS.out; simp only [strLen]; omega
      · have hne : ((n : Int) == (t.size : Int)) = true := by simp; omega
        go_wp2_with (first | (go_at_call 234; refine (hcut _ (by omega)).mono ?_; rintro e w' ⟨rfl, rfl⟩) | (go_at_call 130; refine (htr _ hexs).mono ?_; rintro e w' ⟨rfl, hB⟩; have hoB := own_below ho hB; have hbB := hb.trans (hB.mono hbz); have hbBz := hbB.size) | (at_builtin; refine wpl_push rfl _ _ _ rfl w.heap.size i0 _ 1 16 Tryz.underlying23 hi0 hz0 hz1 hz2 rfl (by omega) _ _ _ rfl _ rfl hoB rfl (by simp [Value.oneCell']) (by simp [maxLen]; omega) (by omega) hbBz ?_; intro v1 w1 hown1 hbel1 _))
        go_ret
        have hfin : splitL s.data.toList = outs ++ [x :: tr'] := by have := P2.out hnt; simpa using this
        rw [hfin, List.length_append]
        have hown2 := own_snoc_str (b := x :: tr') hown1 (by simp)
        obtain ⟨A, c, rfl, hc, -⟩ := own_shape hown2
        exact ⟨A, c, rfl, hown2, hc, hbB.trans hbel1⟩
end Go.Proofs.YtijlaclngibekaaGreatDoor

/- concertinalaw16.answers returns true. -/
namespace Go.Proofs.YtijlaclngibekaaGreatDoor
open Go.RowKit
theorem split_ab : (splitL [97, 44, 32, 98]).length = 2 := by
  have h1 : cutL false [97, 44, 32, 98] = 1 := by decide
  have h2 : cutL false [32, 98] = 2 := by decide
  rw [splitL_step _ (by rw [h1]; decide), h1]
  simp only [List.take_succ_cons, List.take_zero, List.drop_succ_cons, List.drop_zero]
  rw [splitL_last [32, 98] (by rw [h2]; decide)]
  decide
theorem low_A : lowL [65] = [97] := by decide
theorem good_ab : goodNameL [97, 45, 98] = true := by decide
end Go.Proofs.YtijlaclngibekaaGreatDoor

/- The reference's Split. -/
namespace Go.Proofs.YtijlaclngibekaaGreatDoor
open Go.RowKit

theorem cut_at' {s : ByteArray} {k C : Nat} {q : Bool} {b : UInt8} (hk : k < s.size) (hb : s[k] = b) (h : C = k + cutL q (s.data.toList.drop k)) :
    (q = true ∧ b = 92 → (k + 1 = s.size → C = k + 1) ∧ (k + 2 ≤ s.size → C = (k + 2) + cutL q (s.data.toList.drop (k + 2)))) ∧
    (b = 34 → C = (k + 1) + cutL (!q) (s.data.toList.drop (k + 1))) ∧
    (q = false ∧ b = 44 → C = k) ∧
    (¬ (q = true ∧ b = 92) → b ≠ 34 → ¬ (q = false ∧ b = 44) → C = (k + 1) + cutL q (s.data.toList.drop (k + 1))) := by
  have hd := drop_cons s k hk
  rw [hb] at hd
  rw [hd] at h
  refine ⟨?_, ?_, ?_, ?_⟩
  · rintro ⟨rfl, rfl⟩
    rw [cutL_esc _ _ rfl] at h
    constructor
    · intro he
      rw [drop_all s (k + 1) (by omega)] at h
      simp at h; omega
    · intro he
      rw [drop_cons s (k + 1) (by omega)] at h
      simp only [show k + 1 + 1 = k + 2 from rfl] at h
      omega
  · intro he
    rw [cutL_quote q b _ he] at h; omega
  · rintro ⟨rfl, he⟩
    rw [cutL_comma b _ he] at h; omega
  · intro h1 h2 h3
    rw [cutL_other q b _ h1 h2 h3] at h; omega

/-- What holds at the head of a round. -/
def SpRel (s : ByteArray) (k f : Nat) (q : Bool) (outs : List (List UInt8)) : Prop :=
  (k ≤ s.size ∧ f ≤ k ∧ splitL s.data.toList = outs ++ splitL (s.data.toList.drop f) ∧ cutL false (s.data.toList.drop f) + f = k + cutL q (s.data.toList.drop k)) ∨ (k = s.size + 1 ∧ splitL s.data.toList = outs)
theorem SpRel.length {s : ByteArray} {k f : Nat} {q : Bool} {outs : List (List UInt8)} (h : SpRel s k f q outs) : outs.length ≤ s.size + 1 := by
  have := split_length s.data.toList
  rw [← size_of] at this
  rcases h with ⟨_, _, h, _⟩ | ⟨_, h⟩
  · rw [h, List.length_append] at this; omega
  · rw [h] at this; omega
/-- The end of a member. -/
theorem SpRel.piece {s : ByteArray} {k f : Nat} {q : Bool} {outs : List (List UInt8)} (hk : k ≤ s.size) (hf : f ≤ k) (h1 : splitL s.data.toList = outs ++ splitL (s.data.toList.drop f)) (h2 : cutL false (s.data.toList.drop f) + f = k) :
    SpRel s (k + 1) (k + 1) q (outs ++ pieceL ((s.data.toList.drop f).take (k - f))) ∨ (q = true ∧ k < s.size) := by
  have hc : cutL false (s.data.toList.drop f) = k - f := by omega
  have hl : (s.data.toList.drop f).length = s.size - f := by rw [List.length_drop, ← size_of]
  have hp := splitL_piece _ _ _ h1
  rw [hc, hl] at hp
  by_cases hlt : k < s.size
  · cases q
    · left
      have := hp.1 (by omega)
      refine .inl ⟨by omega, Nat.le_refl _, ?_, by omega⟩
      rw [this, List.drop_drop]
      congr 3; omega
    · exact .inr ⟨rfl, hlt⟩
  · left
    exact .inr ⟨by omega, hp.2 (by omega)⟩

set_option maxRecDepth 100000 in
set_option maxHeartbeats 6400000 in
theorem refsplit_any (s : ByteArray) (w : World) (hs : s.size ≤ 1048576) :
    Calls Tryz.prog 72 #[.string s] w fun e w' => ∃ A c, e = .returned (.slice A (splitL s.data.toList).length c) ∧
      w'.ownsRow w.heap.size 9 1 (.slice A (splitL s.data.toList).length c) (splitL s.data.toList).length (scells (splitL s.data.toList)) ∧ (splitL s.data.toList).length ≤ c ∧ Below w.heap.size w w' := by
  obtain ⟨i0, hi0, hz0, hz1, hz2⟩ := info_parts infoStr
  go_enter Tryz.func72, Tryz.ntmps72
  go_wp2_with fail
  go_loopg [3, 4, 5, 6] (s.size + 1) (fun g o fr v i wr => ∃ (k f : Nat) (q : Bool) (outs : List (List UInt8)), g + k = s.size + 1 ∧ i = .int .i64 k ∧ fr = .int .i64 f ∧ v = .bool q ∧
    wr.ownsRow w.heap.size 9 1 o outs.length (scells outs) ∧ Below w.heap.size w wr ∧ SpRel s k f q outs)
  case atStart => exact ⟨0, 0, false, [], by omega, rfl, rfl, rfl, World.ownsRow_nil _ _ _ _, Below.refl _ _, .inl ⟨Nat.zero_le _, Nat.le_refl _, rfl, by simp⟩⟩
  case round =>
    obtain ⟨k, f, q, outs, hk, rfl, rfl, rfl, ho, hb, hsp⟩ := hrel
    have hlen := hsp.length
    have hbz := hb.size
    have HK := hide hk
    by_cases hend : k = s.size + 1
    · have hfin : splitL s.data.toList = outs := by
        rcases hsp with ⟨h, _⟩ | ⟨_, h⟩
        · omega
        · exact h
      have HF := hide hfin
      have hlt : ¬ ((k : Int) ≤ (s.size : Int)) := by omega
      clear hk hfin hsp hend
      go_wp2
      go_ret
      rw [HF.out]
      obtain ⟨A, c, rfl, hc, -⟩ := own_shape ho
      exact ⟨A, c, rfl, ho, hc, hb⟩
    · have hsp' : k ≤ s.size ∧ f ≤ k ∧ splitL s.data.toList = outs ++ splitL (s.data.toList.drop f) ∧ cutL false (s.data.toList.drop f) + f = k + cutL q (s.data.toList.drop k) := by
        rcases hsp with h | ⟨h, _⟩
        · exact h
        · exact absurd h hend
      obtain ⟨hks, hfk, h1, h2⟩ := hsp'
      have hle : (k : Int) ≤ (s.size : Int) := by omega
      have hfk' : (f : Int) ≤ (k : Int) := by omega
      have hext : (s.extract f k).data.toList = (s.data.toList.drop f).take (k - f) := by rw [extract_list, List.take_drop]; congr 2; omega
      have hexs : (s.extract f k).size ≤ 140737488355328 := by rw [size_of, hext, List.length_take, List.length_drop, ← size_of]; omega
      have htr := reftrim_any (s.extract f k)
      rw [hext] at htr
      have hpc : ∀ q', cutL false (s.data.toList.drop f) + f = k → (q' = false ∨ k = s.size) → SpRel s (k + 1) (k + 1) q' (outs ++ pieceL ((s.data.toList.drop f).take (k - f))) := fun q' hc hq => by
        rcases SpRel.piece (q := q') hks hfk h1 hc with h | ⟨h, h'⟩
        · exact h
        · rcases hq with hq | hq
          · rw [hq] at h; cases h
          · omega
      obtain ⟨tr, htrr⟩ : ∃ tr, tr = trimL ((s.data.toList.drop f).take (k - f)) := ⟨_, rfl⟩
      have hpl : pieceL ((s.data.toList.drop f).take (k - f)) = if tr = [] then [] else [tr] := by rw [pieceL, htrr]
      rw [← htrr] at htr
      rw [hpl] at hpc
      have HPC := hide hpc
      have H1 := hide h1
      clear hpc hpl htrr hext h1 hsp hk
      by_cases hks' : k = s.size
      · have hc : cutL false (s.data.toList.drop f) + f = k := by rw [h2, hks', drop_all s s.size (Nat.le_refl _)]; simp [cutL]
        have hpp := HPC.out q hc (.inr hks')
        have PP := hide hpp
        have he1 : ((k : Int) == (s.size : Int)) = true := by simp; omega
        clear hpp hc hks' h2 hend
        rcases htre : tr with _ | ⟨x, tr'⟩
        · subst htre
          have hem := isEmpty_mk ([] : List UInt8)
          go_wp2_with (go_at_call 58; refine (htr _ hexs).mono ?_; rintro e w' ⟨rfl, rfl⟩)
          go_roundg (s.size + 1 - (k + 1))
          case measure => have := HK.out; omega
          case rel => have := HK.out; exact ⟨k + 1, k + 1, q, outs, by omega, by go_num, by go_num, rfl, ho, hb, by simpa using PP.out⟩
        · subst htre
          have hem := isEmpty_mk (x :: tr')
          go_wp2_with (first | (go_at_call 58; refine (htr _ hexs).mono ?_; rintro e w' ⟨rfl, rfl⟩) | (at_builtin; refine wpl_push rfl _ _ _ rfl w.heap.size i0 _ 1 16 Tryz.underlying23 hi0 hz0 hz1 hz2 rfl (by omega) _ _ _ rfl _ rfl ho rfl (by simp [Value.oneCell']) (by simp [maxLen]; omega) (by omega) hbz ?_; intro v1 w1 hown1 hbel1 _))
          go_roundg (s.size + 1 - (k + 1))
          case measure => have := HK.out; omega
          case rel => have := HK.out; exact ⟨k + 1, k + 1, q, outs ++ [x :: tr'], by omega, by go_num, by go_num, rfl, by rw [List.length_append]; exact own_snoc_str hown1 (by simp), hb.trans hbel1, by simpa using PP.out⟩
      · have hlt : k < s.size := by omega
        have he1 : ((k : Int) == (s.size : Int)) = false := by simp; omega
        obtain ⟨b, hb'⟩ : ∃ b, s[k] = b := ⟨_, rfl⟩
        obtain ⟨c1, c2, c3, c4⟩ := cut_at' hlt hb' h2
        have C1 := hide c1
        have C2 := hide c2
        have C3 := hide c3
        have C4 := hide c4
        have e92 := byte_eq_num b 92 (by decide)
        have e34 := byte_eq_num b 34 (by decide)
        have e44 := byte_eq_num b 44 (by decide)
        have n92 : ∀ h : ¬ b = 92, ((b.toNat : Int) == 92) = false := fun h => by rw [Bool.eq_false_iff]; exact fun e => h (e92.1 e)
        have n34 : ∀ h : ¬ b = 34, ((b.toNat : Int) == 34) = false := fun h => by rw [Bool.eq_false_iff]; exact fun e => h (e34.1 e)
        have n44 : ∀ h : ¬ b = 44, ((b.toNat : Int) == 44) = false := fun h => by rw [Bool.eq_false_iff]; exact fun e => h (e44.1 e)
        clear c1 c2 c3 c4 h2 hend hks'
        rcases q with _ | _
        · by_cases h44 : b = 44
          · have x1 := e44.2 h44
            have hpp := HPC.out false (C3.out ⟨rfl, h44⟩) (.inl rfl)
            have PP := hide hpp
            clear hpp e92 e34 e44 n92 n34 n44 h44
            rcases htre : tr with _ | ⟨x, tr'⟩
            · subst htre
              have hem := isEmpty_mk ([] : List UInt8)
              go_wp2_with (go_at_call 58; refine (htr _ hexs).mono ?_; rintro e w' ⟨rfl, rfl⟩)
              go_roundg (s.size + 1 - (k + 1))
              case measure => have := HK.out; omega
              case rel => have := HK.out; exact ⟨k + 1, k + 1, false, outs, by omega, by go_num, by go_num, rfl, ho, hb, by simpa using PP.out⟩
            · subst htre
              have hem := isEmpty_mk (x :: tr')
              go_wp2_with (first | (go_at_call 58; refine (htr _ hexs).mono ?_; rintro e w' ⟨rfl, rfl⟩) | (at_builtin; refine wpl_push rfl _ _ _ rfl w.heap.size i0 _ 1 16 Tryz.underlying23 hi0 hz0 hz1 hz2 rfl (by omega) _ _ _ rfl _ rfl ho rfl (by simp [Value.oneCell']) (by simp [maxLen]; omega) (by omega) hbz ?_; intro v1 w1 hown1 hbel1 _))
              go_roundg (s.size + 1 - (k + 1))
              case measure => have := HK.out; omega
              case rel => have := HK.out; exact ⟨k + 1, k + 1, false, outs ++ [x :: tr'], by omega, by go_num, by go_num, rfl, by rw [List.length_append]; exact own_snoc_str hown1 (by simp), hb.trans hbel1, by simpa using PP.out⟩
          · have x1 := n44 h44
            by_cases h34 : b = 34
            · have x2 := e34.2 h34
              have x3 := n92 (by rw [h34]; decide)
              have hn := C2.out h34
              have HN := hide hn
              clear hn e92 e34 e44 n92 n34 n44 h34 h44
              go_wp2
              go_roundg (s.size + 1 - (k + 1))
              case measure => have := HK.out; omega
              case rel => have := HK.out; exact ⟨k + 1, f, true, outs, by omega, by go_num, rfl, rfl, ho, hb, .inl ⟨by omega, by omega, H1.out, HN.out⟩⟩
            · have x2 := n34 h34
              have hn := C4.out (by simp) h34 (by simp [h44])
              have HN := hide hn
              clear hn e92 e34 e44 n92 n34 n44 h34 h44
              go_wp2
              go_roundg (s.size + 1 - (k + 1))
              case measure => have := HK.out; omega
              case rel => have := HK.out; exact ⟨k + 1, f, false, outs, by omega, by go_num, rfl, rfl, ho, hb, .inl ⟨by omega, by omega, H1.out, HN.out⟩⟩
        · by_cases h92 : b = 92
          · have x1 := e92.2 h92
            have x2 := n34 (by rw [h92]; decide)
            obtain ⟨hn1, hn2⟩ := C1.out ⟨rfl, h92⟩
            have HN1 := hide hn1
            have HN2 := hide hn2
            clear hn1 hn2 e92 e34 e44 n92 n34 n44 h92
            by_cases hl1 : k + 1 = s.size
            · have x3 : ((k : Int) + 1 == (s.size : Int)) = true := by simp; omega
              have hn := HN1.out hl1
              have HN := hide hn
              clear hn
              have HL1 := hide hl1
              clear hl1
              go_wp2
              go_roundg (s.size + 1 - (k + 1))
              case measure => have := HK.out; omega
              case rel => have := HK.out; have hl1 := HL1.out; exact ⟨k + 1, f, true, outs, by omega, by go_num, rfl, rfl, ho, hb, .inl ⟨by omega, by omega, H1.out, by rw [HN.out, drop_all s (k + 1) (by omega)]; simp [cutL]⟩⟩
            · have x3 : ((k : Int) + 1 == (s.size : Int)) = false := by simp; omega
              have hn := HN2.out (by omega)
              have HN := hide hn
              clear hn
              go_wp2
              go_roundg (s.size + 1 - (k + 2))
              case measure => have := HK.out; omega
              case rel => have := HK.out; exact ⟨k + 2, f, true, outs, by omega, by go_num, rfl, rfl, ho, hb, .inl ⟨by omega, by omega, H1.out, HN.out⟩⟩
          · have x1 := n92 h92
            by_cases h34 : b = 34
            · have x2 := e34.2 h34
              have hn := C2.out h34
              have HN := hide hn
              clear hn e92 e34 e44 n92 n34 n44 h34 h92
              go_wp2
              go_roundg (s.size + 1 - (k + 1))
              case measure => have := HK.out; omega
              case rel => have := HK.out; exact ⟨k + 1, f, false, outs, by omega, by go_num, rfl, rfl, ho, hb, .inl ⟨by omega, by omega, H1.out, HN.out⟩⟩
            · have x2 := n34 h34
              have hn := C4.out (by simp [h92]) h34 (by simp)
              have HN := hide hn
              clear hn e92 e34 e44 n92 n34 n44 h34 h92
              go_wp2
              go_roundg (s.size + 1 - (k + 1))
              case measure => have := HK.out; omega
              case rel => have := HK.out; exact ⟨k + 1, f, true, outs, by omega, by go_num, rfl, rfl, ho, hb, .inl ⟨by omega, by omega, H1.out, HN.out⟩⟩
end Go.Proofs.YtijlaclngibekaaGreatDoor
/- Fields in memory; the values of a name. -/
namespace Go.Proofs.YtijlaclngibekaaGreatDoor
open Go.RowKit

/-- The cells that hold fields. -/
def fcells : List (List UInt8 × List UInt8) → List Value
  | [] => []
  | f :: l => .string ⟨f.1.toArray⟩ :: .string ⟨f.2.toArray⟩ :: fcells l
theorem fcells_length : ∀ l, (fcells l).length = l.length * 2
  | [] => rfl
  | f :: l => by simp [fcells, fcells_length l]; omega
theorem fcells_append : ∀ a b, fcells a ++ fcells b = fcells (a ++ b)
  | [], b => rfl
  | f :: a, b => by simp [fcells, fcells_append a b]
theorem fcells_one : ∀ l, ∀ u ∈ fcells l, u.oneCell' = true
  | [], u, h => by simp [fcells] at h
  | f :: l, u, h => by
    simp only [fcells, List.mem_cons] at h
    rcases h with rfl | rfl | h
    · rfl
    · rfl
    · exact fcells_one l u h
theorem fcells_get : ∀ (l : List (List UInt8 × List UInt8)) (k : Nat) (h : k < l.length), (fcells l)[k * 2]? = some (.string ⟨l[k].1.toArray⟩) ∧ (fcells l)[k * 2 + 1]? = some (.string ⟨l[k].2.toArray⟩)
  | f :: l, 0, _ => ⟨rfl, rfl⟩
  | f :: l, k + 1, h => by
    have := fcells_get l k (by simpa using h)
    simp only [fcells, show (k + 1) * 2 = k * 2 + 1 + 1 by omega, List.getElem?_cons_succ, List.getElem_cons_succ]
    exact this
theorem own_snoc_fld {w : World} {base e n : Nat} {v : Value} {ls : List (List UInt8 × List UInt8)} {s t : ByteArray} {f : List UInt8 × List UInt8} (h : w.ownsRow base e 2 v (n + 1) (fcells ls ++ (#[Value.string s, .string t]).toList)) (h1 : s.data.toList = f.1) (h2 : t.data.toList = f.2) :
    w.ownsRow base e 2 v (n + 1) (fcells (ls ++ [f])) := by
  rw [← fcells_append]
  have e1 : s = ⟨f.1.toArray⟩ := bytes_ext (by simp [h1])
  have e2 : t = ⟨f.2.toArray⟩ := bytes_ext (by simp [h2])
  subst e1 e2
  exact h
/-- A field's two cells. -/
theorem Rd.fld {w : World} {B n : Nat} {A : Option Addr} {l : List (List UInt8 × List UInt8)} (h : Rd w B 2 A n (fcells l)) {k : Nat} (hk : k < n) (hl : k < l.length) :
    ∃ b off, A = some ⟨b, off, none⟩ ∧ b < B ∧ w.cell? ⟨b, off + k * 2, none⟩ = some (.string ⟨l[k].1.toArray⟩) ∧ w.cell? ⟨b, off + k * 2 + 1, none⟩ = some (.string ⟨l[k].2.toArray⟩) := by
  obtain ⟨a, rfl, hb, hc⟩ := h.at_ hk
  obtain ⟨b, off, spot⟩ := a
  have h0 := hc (k * 2) _ (fcells_get l k hl).1
  have h1 := hc (k * 2 + 1) _ (fcells_get l k hl).2
  have hs : spot = none := by
    have h00 := hc 0 _ (by have := (fcells_get l 0 (by omega)).1; simpa using this)
    simpa [Addr.add] using World.cell?_spot h00
  subst hs
  rw [Addr.add_lit] at h0 h1
  exact ⟨b, off, rfl, hb, h0, h1⟩
theorem Rd.flen {w : World} {B n : Nat} {A : Option Addr} {l : List (List UInt8 × List UInt8)} (h : Rd w B 2 A n (fcells l)) : l.length = n := by have := h.1; rw [fcells_length] at this; omega

/-- A cell of a new block, behind a call that leaves it alone. -/
theorem new_kept {w w2 : World} {cs : Array Value} {t : TypeId} {n i : Nat} {v : Value} (h : Below n (w.alloc (.cells cs t)) w2) (hn : n = w.heap.size + 1) (hi : cs[i]? = some v) : w2.cell? ⟨w.heap.size, i, none⟩ = some v := by
  subst hn
  rw [h.cell (p := ⟨w.heap.size, i, none⟩) (Nat.lt_succ_self _), World.cell?_alloc_new]; exact hi
/-- The values of a name. -/
def getL (fs : List (List UInt8 × List UInt8)) (name : List UInt8) : List (List UInt8) := (fs.filter fun f => sameL f.1 name).map (·.2)
theorem getL_snoc (fs : List (List UInt8 × List UInt8)) (name : List UInt8) (k : Nat) (h : k < fs.length) : getL (fs.take (k + 1)) name = getL (fs.take k) name ++ if sameL fs[k].1 name then [fs[k].2] else [] := by
  unfold getL
  rw [list_take_snoc fs k h, List.filter_append, List.map_append]
  congr 1
  by_cases hs : sameL fs[k].1 name = true
  · rw [if_pos hs]; simp [hs]
  · rw [if_neg hs]; simp [hs]
theorem getL_len (fs : List (List UInt8 × List UInt8)) (name : List UInt8) : (getL fs name).length ≤ fs.length := by
  unfold getL; rw [List.length_map]; exact List.length_filter_le _ _
/-- No text of the fields is too long. -/
def fsOk (fs : List (List UInt8 × List UInt8)) : Prop := ∀ f ∈ fs, f.1.length ≤ 1000000 ∧ f.2.length ≤ 1000000
theorem mk_size (l : List UInt8) : (⟨l.toArray⟩ : ByteArray).size = l.length := by rw [size_of]
theorem mk_list (l : List UInt8) : (⟨l.toArray⟩ : ByteArray).data.toList = l := by simp

set_option maxRecDepth 100000 in
set_option maxHeartbeats 3200000 in
theorem get_any (A : Option Addr) (n c B : Nat) (fs : List (List UInt8 × List UInt8)) (name : ByteArray) (w : World) (h : Rd w B 2 A n (fcells fs)) (hB : B ≤ w.heap.size) (hn : n ≤ 1000000) (hok : fsOk fs) (hname : name.size ≤ 1000000) :
    Calls Tryz.prog 139 #[.slice A n c, .string name] w fun e w' => ∃ A' c', e = .returned (.slice A' (getL fs name.data.toList).length c') ∧
      w'.ownsRow w.heap.size 9 1 (.slice A' (getL fs name.data.toList).length c') (getL fs name.data.toList).length (scells (getL fs name.data.toList)) ∧ (getL fs name.data.toList).length ≤ c' ∧ Below w.heap.size w w' := by
  obtain ⟨i0, hi0, hz0, hz1, hz2⟩ := info_parts infoStr
  have hlen := h.flen
  have HLEN := hide hlen
  have hle : n ≤ fs.length := by omega
  clear hlen
  go_enter Tryz.func139, Tryz.ntmps139
  go_wp2_with fail
  go_loopw [5, 10] (fun o i wr => ∃ k : Nat, k ≤ n ∧ i = .int .i64 k ∧ wr.ownsRow w.heap.size 9 1 o (getL (fs.take k) name.data.toList).length (scells (getL (fs.take k) name.data.toList)) ∧ Below w.heap.size w wr) (fun _ i _ => n - (intOf i).toNat)
  case atStart => exact ⟨0, Nat.zero_le _, rfl, World.ownsRow_nil _ _ _ _, Below.refl _ _⟩
  case round =>
    obtain ⟨k, hk, rfl, ho, hb⟩ := hrel
    by_cases hlt : k < n
    · have hkl : k < fs.length := by omega
      obtain ⟨b, off, rfl, hbB, e0, e1⟩ := (h.below (hb.mono hB)).fld hlt hkl
      have hgs := getL_snoc fs name.data.toList k hkl
      have hgl := getL_len (fs.take k) name.data.toList
      rw [List.length_take] at hgl
      have hbz := hb.size
      obtain ⟨hs1, hs2⟩ := hok fs[k] (List.getElem_mem hkl)
      obtain ⟨x, hx⟩ : ∃ x, x = fs[k] := ⟨_, rfl⟩
      rw [← hx] at e0 e1 hgs hs1 hs2
      have hsm := fun w => fieldsame_any ⟨x.1.toArray⟩ name w (by rw [mk_size]; omega) (by omega)
      rw [mk_list] at hsm
      obtain ⟨gk, hgk⟩ : ∃ gk, gk = getL (fs.take k) name.data.toList := ⟨_, rfl⟩
      rw [← hgk] at hgs hgl ho
      have hgl' : gk.length ≤ 1000000 := by omega
      obtain ⟨sx, hsx⟩ : ∃ sx : ByteArray, sx = ⟨x.1.toArray⟩ := ⟨_, rfl⟩
      obtain ⟨sv, hsv⟩ : ∃ sv : ByteArray, sv = ⟨x.2.toArray⟩ := ⟨_, rfl⟩
      have hsv2 : sv.data.toList = x.2 := by rw [hsv]
      have HSV := hide hsv2
      rw [← hsx] at e0 hsm
      rw [← hsv] at e1
      have HG := hide hgs
      clear hgs hx hgk hsx hsv hgl hs1 hs2 hsv2
      rcases hcase : sameL x.1 name.data.toList with _ | _
      · rw [hcase] at hsm
        have HC := hide hcase
        clear hcase
        go_wp2_with (go_at_call 140; refine (hsm _).mono ?_; rintro e w2 ⟨rfl, b2⟩)
        go_roundw
        case rel => exact ⟨k + 1, by omega, by go_num, by rw [HG.out, HC.out]; simpa using own_below (ho.alloc _) b2, (hb.alloc hbz _).trans (b2.mono (by simp; omega))⟩
        case measure => simp [intOf]; omega
      · rw [hcase] at hsm
        have HC := hide hcase
        clear hcase
        go_wp2_with (first | (go_at_call 140; refine (hsm _).mono ?_; rintro e w2 ⟨rfl, b2⟩; have ho2 := own_below (ho.alloc _) b2; have hb2 := (hb.alloc hbz _).trans (b2.mono (by simp; omega)); have hb2z := hb2.size; have e2 := new_kept (i := 1) b2 (by simp) rfl) | (at_builtin; refine wpl_push rfl _ _ _ rfl w.heap.size i0 _ 1 16 Tryz.underlying23 hi0 hz0 hz1 hz2 rfl (by omega) _ _ _ rfl _ rfl ho2 rfl (by simp [Value.oneCell']) (by simp [maxLen]; omega) (by omega) hb2z ?_; intro v1 w3 hown1 hbel1 _))
        go_roundw
        case rel => exact ⟨k + 1, by omega, by go_num, by rw [HG.out, HC.out, if_pos rfl, List.length_append]; exact own_snoc_str hown1 HSV.out, hb2.trans hbel1⟩
        case measure => simp [intOf]; omega
    · have hfin : getL (fs.take k) name.data.toList = getL fs name.data.toList := by have := HLEN.out; rw [List.take_of_length_le (by omega)]
      rw [hfin] at ho
      clear hfin
      go_wp2
      go_ret
      obtain ⟨A', c', rfl, hc', -⟩ := own_shape ho
      exact ⟨A', c', rfl, ho, hc', hb⟩
end Go.Proofs.YtijlaclngibekaaGreatDoor

/- The reference's Get and All; Has of both. -/
namespace Go.Proofs.YtijlaclngibekaaGreatDoor
open Go.RowKit

theorem low_eq (a b : List UInt8) : ((⟨(lowL a).toArray⟩ : ByteArray).toList == (⟨(lowL b).toArray⟩ : ByteArray).toList) = sameL a b := by rw [ByteArray.toList_eq, ByteArray.toList_eq]; rfl

set_option maxRecDepth 100000 in
set_option maxHeartbeats 3200000 in
theorem refget_any (A : Option Addr) (n c B : Nat) (fs : List (List UInt8 × List UInt8)) (name : ByteArray) (w : World) (h : Rd w B 2 A n (fcells fs)) (hB : B ≤ w.heap.size) (hn : n ≤ 1000000) (hok : fsOk fs) (hname : name.size ≤ 1000000) :
    Calls Tryz.prog 62 #[.slice A n c, .string name] w fun e w' => ∃ A' c', e = .returned (.slice A' (getL fs name.data.toList).length c') ∧
      w'.ownsRow w.heap.size 9 1 (.slice A' (getL fs name.data.toList).length c') (getL fs name.data.toList).length (scells (getL fs name.data.toList)) ∧ (getL fs name.data.toList).length ≤ c' ∧ Below w.heap.size w w' := by
  obtain ⟨i0, hi0, hz0, hz1, hz2⟩ := info_parts infoStr
  have hlen := h.flen
  have HLEN := hide hlen
  have hle : n ≤ fs.length := by omega
  clear hlen
  go_enter Tryz.func62, Tryz.ntmps62
  go_wp2_with fail
  go_loopw [5, 6] (fun o i wr => ∃ k : Nat, k ≤ n ∧ i = .int .i64 k ∧ wr.ownsRow w.heap.size 9 1 o (getL (fs.take k) name.data.toList).length (scells (getL (fs.take k) name.data.toList)) ∧ Below w.heap.size w wr) (fun _ i _ => n - (intOf i).toNat)
  case atStart => exact ⟨0, Nat.zero_le _, rfl, World.ownsRow_nil _ _ _ _, Below.refl _ _⟩
  case round =>
    obtain ⟨k, hk, rfl, ho, hb⟩ := hrel
    by_cases hlt : k < n
    · have hkl : k < fs.length := by omega
      obtain ⟨b, off, rfl, hbB, e0, e1⟩ := (h.below (hb.mono hB)).fld hlt hkl
      have hgs := getL_snoc fs name.data.toList k hkl
      have hgl := getL_len (fs.take k) name.data.toList
      rw [List.length_take] at hgl
      have hbz := hb.size
      obtain ⟨hs1, hs2⟩ := hok fs[k] (List.getElem_mem hkl)
      obtain ⟨x, hx⟩ : ∃ x, x = fs[k] := ⟨_, rfl⟩
      rw [← hx] at e0 e1 hgs hs1 hs2
      have hl1 := fun w => reflower_any ⟨x.1.toArray⟩ w (by rw [mk_size]; omega)
      have hl2 := fun w => reflower_any name w (by omega)
      rw [mk_list] at hl1
      have hle := low_eq x.1 name.data.toList
      obtain ⟨gk, hgk⟩ : ∃ gk, gk = getL (fs.take k) name.data.toList := ⟨_, rfl⟩
      rw [← hgk] at hgs hgl ho
      have hgl' : gk.length ≤ 1000000 := by omega
      obtain ⟨sx, hsx⟩ : ∃ sx : ByteArray, sx = ⟨x.1.toArray⟩ := ⟨_, rfl⟩
      obtain ⟨sv, hsv⟩ : ∃ sv : ByteArray, sv = ⟨x.2.toArray⟩ := ⟨_, rfl⟩
      obtain ⟨l1, hl1'⟩ : ∃ l1 : ByteArray, l1 = ⟨(lowL x.1).toArray⟩ := ⟨_, rfl⟩
      obtain ⟨l2, hl2'⟩ : ∃ l2 : ByteArray, l2 = ⟨(lowL name.data.toList).toArray⟩ := ⟨_, rfl⟩
      have hsv2 : sv.data.toList = x.2 := by rw [hsv]
      have HSV := hide hsv2
      rw [← hsx] at e0 hl1
      rw [← hsv] at e1
      rw [← hl1'] at hl1 hle
      rw [← hl2'] at hl2 hle
      have HG := hide hgs
      clear hgs hx hgk hsx hsv hgl hs1 hs2 hsv2 hl1' hl2'
      have hbB' : b < w.heap.size := by omega
      have hbr : b < wr.heap.size := by omega
      rcases hcase : sameL x.1 name.data.toList with _ | _
      · rw [hcase] at hle
        have HC := hide hcase
        clear hcase
        go_wp2_with fail
        refine (hl1 _).mono ?_
        rintro e w2 ⟨rfl, b2⟩
        go_wp2_with fail
        refine (hl2 _).mono ?_
        rintro e w3 ⟨rfl, b3⟩
        have b23 := b2.trans (b3.mono b2.size)
        go_wp2
        go_roundw
        case rel => exact ⟨k + 1, by omega, by go_num, by rw [HG.out, HC.out]; simpa using own_below ho b23, hb.trans (b23.mono hbz)⟩
        case measure => simp [intOf]; omega
      · rw [hcase] at hle
        have HC := hide hcase
        clear hcase
        go_wp2_with fail
        refine (hl1 _).mono ?_
        rintro e w2 ⟨rfl, b2⟩
        go_wp2_with fail
        refine (hl2 _).mono ?_
        rintro e w3 ⟨rfl, b3⟩
        have b23 := b2.trans (b3.mono b2.size)
        have ho3 := own_below ho b23
        have hb3 := hb.trans (b23.mono hbz)
        have hb3z := hb3.size
        have e3 := (b23.cell (p := ⟨b, off + k * 2 + 1, none⟩) hbr).trans e1
        clear e1 e0 hl1 hl2 b2 b3
        go_wp2_with (at_builtin; refine wpl_push rfl _ _ _ rfl w.heap.size i0 _ 1 16 Tryz.underlying23 hi0 hz0 hz1 hz2 rfl (by omega) _ _ _ rfl _ rfl ho3 rfl (by simp [Value.oneCell']) (by simp [maxLen]; omega) (by omega) hb3z ?_; intro v1 w4 hown1 hbel1 _)
        go_roundw
        case rel => exact ⟨k + 1, by omega, by go_num, by rw [HG.out, HC.out, if_pos rfl, List.length_append]; exact own_snoc_str hown1 HSV.out, hb3.trans hbel1⟩
        case measure => simp [intOf]; omega
    · have hfin : getL (fs.take k) name.data.toList = getL fs name.data.toList := by have := HLEN.out; rw [List.take_of_length_le (by omega)]
      rw [hfin] at ho
      clear hfin
      go_wp2
      go_ret
      obtain ⟨A', c', rfl, hc', -⟩ := own_shape ho
      exact ⟨A', c', rfl, ho, hc', hb⟩
end Go.Proofs.YtijlaclngibekaaGreatDoor

/- concertinalaw19.light: not too many fields, not too long all together. -/
namespace Go.Proofs.YtijlaclngibekaaGreatDoor
open Go.RowKit

/-- All letters. -/
def sumF (fs : List (List UInt8 × List UInt8)) : Nat := (fs.map fun f => f.1.length + f.2.length).sum
def lightS (most sum : Nat) (fs : List (List UInt8 × List UInt8)) : Bool := decide (fs.length ≤ most) && decide (sumF fs ≤ sum)
theorem sumF_snoc (fs : List (List UInt8 × List UInt8)) (k : Nat) (h : k < fs.length) : sumF (fs.take (k + 1)) = sumF (fs.take k) + fs[k].1.length + fs[k].2.length := by
  unfold sumF
  rw [list_take_snoc fs k h, List.map_append, List.sum_append]
  simp only [List.map_cons, List.map_nil, List.sum_cons, List.sum_nil]; omega
theorem sumF_mem : ∀ (fs : List (List UInt8 × List UInt8)), ∀ f ∈ fs, f.1.length + f.2.length ≤ sumF fs
  | [], f, hf => by cases hf
  | x :: fs, f, hf => by
    have ih := sumF_mem fs f
    unfold sumF at ih ⊢
    simp only [List.map_cons, List.sum_cons]
    rcases List.mem_cons.1 hf with rfl | hf
    · omega
    · have := ih hf; omega
theorem sumF_le (b : Nat) : ∀ (fs : List (List UInt8 × List UInt8)), (∀ f ∈ fs, f.1.length ≤ b ∧ f.2.length ≤ b) → sumF fs ≤ fs.length * (2 * b)
  | [], _ => by simp [sumF]
  | f :: fs, h => by
    have ih := sumF_le b fs (fun x hx => h x (by simp [hx]))
    have h0 := h f (by simp)
    unfold sumF at ih ⊢
    simp only [List.map_cons, List.sum_cons, List.length_cons, Nat.add_mul]
    omega
theorem lightS_ok {most sum : Nat} {fs : List (List UInt8 × List UInt8)} (h : lightS most sum fs = true) (hs : sum ≤ 1000000) : fsOk fs ∧ fs.length ≤ most ∧ sumF fs ≤ sum := by
  unfold lightS at h
  simp at h
  refine ⟨fun f hf => ?_, h.1, h.2⟩
  have := sumF_mem fs f hf
  omega

theorem wrap_small {z : Int} (h0 : 0 ≤ z) (h1 : z < 9223372036854775808) : IntKind.i64.wrap z = z := by simp [IntKind.wrap, IntKind.bits, IntKind.signed]; omega

end Go.Proofs.YtijlaclngibekaaGreatDoor
