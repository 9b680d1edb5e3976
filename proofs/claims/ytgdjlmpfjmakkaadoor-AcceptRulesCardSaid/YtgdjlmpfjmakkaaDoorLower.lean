/- field.Lower, concertinaref16.Lower, field.Same: texts with small letters. -/
import Derived.Test.YtgdjlmpfjmakkaaDoorProg
import Derived.Test.YtgdjlmpfjmakkaaDoorOwn
import Derived.Test.YtgdjlmpfjmakkaaDoorBytes
namespace Go.Proofs.YtgdjlmpfjmakkaaDoor
open Go.RowKit

/-- A letter that is small. -/
def lowB (c : UInt8) : UInt8 := if 65 ≤ c.toNat ∧ c.toNat ≤ 90 then c + 32 else c
def lowL (l : List UInt8) : List UInt8 := l.map lowB
theorem lowL_length (l : List UInt8) : (lowL l).length = l.length := by simp [lowL]
theorem lowB_hit (c : UInt8) (h : 65 ≤ c.toNat ∧ c.toNat ≤ 90) : ((lowB c).toNat : Int) = c.toNat + 32 := by
  unfold lowB; rw [if_pos h, UInt8.toNat_add]; have : (32 : UInt8).toNat = 32 := rfl; omega
theorem lowB_miss (c : UInt8) (h : ¬ (65 ≤ c.toNat ∧ c.toNat ≤ 90)) : lowB c = c := by unfold lowB; rw [if_neg h]

set_option maxHeartbeats 400000 in
theorem small_any (c : UInt8) (w : World) :
    Calls Tryd.prog 96 #[.int .u8 c.toNat] w fun e w' => e = .returned (.int .u8 (lowB c).toNat) ∧ w = w' := by
  have hc : c.toNat < 256 := c.toNat_lt
  by_cases h1 : 65 ≤ c.toNat
  · by_cases h2 : c.toNat ≤ 90
    · have h := lowB_hit c ⟨h1, h2⟩
      have H := hide h
      clear h
      go_enter Tryd.func96, Tryd.ntmps96
      go_wp2
      go_ret
      exact ⟨ret_int (by rw [H.out]; omega), rfl⟩
    · have h := lowB_miss c (by omega)
      have H := hide h
      clear h
      go_enter Tryd.func96, Tryd.ntmps96
      go_wp2
      go_ret
      exact ⟨ret_int (by rw [H.out]), rfl⟩
  · have h := lowB_miss c (by omega)
    have H := hide h
    clear h
    go_enter Tryd.func96, Tryd.ntmps96
    go_wp2
    go_ret
    exact ⟨ret_int (by rw [H.out]), rfl⟩
theorem lowL_step (l : List UInt8) (k : Nat) (h : k < l.length) : (lowL (l.take k) ++ l.drop k).set k (lowB l[k]) = lowL (l.take (k + 1)) ++ l.drop (k + 1) := by
  have hk : (lowL (l.take k)).length = k := by rw [lowL_length, List.length_take]; omega
  have h1 : l.drop k = l[k] :: l.drop (k + 1) := List.drop_eq_getElem_cons h
  have h2 : lowL (l.take (k + 1)) = lowL (l.take k) ++ [lowB l[k]] := by rw [list_take_snoc l k h]; simp only [lowL, List.map_append, List.map_cons, List.map_nil]
  rw [List.set_append_right _ _ (by omega), hk, Nat.sub_self, h1, h2, List.set_cons_zero, List.append_assoc]
  rfl
theorem bcells_set (l : List UInt8) (k : Nat) (c : UInt8) : (bcells l).set k (.int .u8 c.toNat) = bcells (l.set k c) := by simp [bcells, List.map_set]

set_option maxHeartbeats 800000 in
theorem lower_any (s : ByteArray) (w : World) (hs : s.size ≤ 140737488355328) :
    Calls Tryd.prog 74 #[.string s] w fun e w' => e = .returned (.string ⟨(lowL s.data.toList).toArray⟩) ∧ Below w.heap.size w w' := by
  have hcv := fun w => run_bytes_of_string (P := Tryd.prog) w 9 66 5 s Tryd.underlying9 Tryd.underlying66 Tryd.underlying5
  obtain ⟨c, hc⟩ : ∃ c, c = grownCap w s.size 0 5 := ⟨_, rfl⟩
  have hc1 : s.size ≤ c := by rw [hc]; exact grownCap_ge _ _ _ _
  have hc2 : c ≤ maxLen := by rw [hc]; exact grownCap_le_maxLen _ _ _ _ (by simp [maxLen]; omega)
  have hcv1 := hcv w
  rw [← hc] at hcv1
  have ho := ow_of_string w 5 s c hc1 hc2
  clear hcv hc
  have HL := hide (size_of s)
  go_enter Tryd.func74, Tryd.ntmps74
  go_wp2_with fail
  go_loopw [10] (fun i wr => ∃ k : Nat, k ≤ s.size ∧ i = .int .i64 k ∧ Ow wr w.heap.size 1 (.slice (some ⟨w.heap.size, 0, none⟩) s.size c) s.size (bcells (lowL (s.data.toList.take k) ++ s.data.toList.drop k)) ∧ Below w.heap.size w wr) (fun i _ => s.size - (intOf i).toNat)
  case atStart => exact ⟨0, Nat.zero_le _, rfl, ho, (Below.refl _ _).drew.alloc (Nat.le_refl _) _⟩
  case round =>
    clear ho hcv1
    obtain ⟨k, hk, rfl, ho, hb⟩ := hrel
    by_cases hlt : k < s.size
    · obtain ⟨g, off, hA, -, hg2, hcell, hfr⟩ := ho.at_ (j := k) (by omega)
      cases hA
      have hl := HL.out
      have hkl : k < s.data.toList.length := by omega
      have hkk : (lowL (s.data.toList.take k)).length = k := by rw [lowL_length, List.length_take]; omega
      have hget : (bcells (lowL (s.data.toList.take k) ++ s.data.toList.drop k))[k]? = some (.int .u8 s.data.toList[k].toNat) := by
        rw [bcells_get _ k (by rw [List.length_append, hkk, List.length_drop]; omega)]
        simp [hkk]
      rw [hget] at hcell
      have hst := ho.store (j := k) (by omega) (.int .u8 (lowB s.data.toList[k]).toNat)
      rw [bcells_set, lowL_step _ k hkl] at hst
      obtain ⟨b, hbb⟩ : ∃ b, b = s.data.toList[k] := ⟨_, rfl⟩
      rw [← hbb] at hcell hst
      simp only [Nat.zero_add] at hcell hfr hst
      clear hbb hget hl hkl hkk ho
      go_wp2_with (go_at_call 96; refine (small_any b _).mono ?_; rintro e w' ⟨rfl, rfl⟩)
      go_roundw
      case rel => exact ⟨k + 1, by omega, by go_num, hst, hb.setCell (Nat.le_refl _) _⟩
      case measure => simp [intOf]; omega
    · have hrs := run_string_of (P := Tryd.prog) 66 9 5 Tryd.underlying66 Tryd.underlying5 Tryd.underlying9 wr _ s.size c _ _ ho.rd
      have hfin : lowL (s.data.toList.take k) ++ s.data.toList.drop k = lowL s.data.toList := by
        have hl := HL.out
        rw [List.take_of_length_le (by omega), List.drop_eq_nil_of_le (by omega), List.append_nil]
      rw [hfin] at hrs
      clear hfin ho
      go_wp2_with fail
      go_ret
      exact ⟨rfl, hb⟩
theorem infoU8 : (Tryd.prog.info? 5).map (fun i => (i.zero, i.size, i.bytes)) = some (some (.int .u8 0), 1, 1) := by kernel_rfl
theorem own_snoc_byte {w : World} {base e n : Nat} {v : Value} {l : List UInt8} {x : Int} {b : UInt8} (h : w.ownsRow base e 1 v (n + 1) (bcells l ++ (#[Value.int .u8 x]).toList)) (hx : x = b.toNat) : w.ownsRow base e 1 v (n + 1) (bcells (l ++ [b])) := by
  subst hx; simpa [bcells] using h

set_option maxRecDepth 100000 in
set_option maxHeartbeats 800000 in
theorem reflower_any (s : ByteArray) (w : World) (hs : s.size ≤ 140737488351232) :
    Calls Tryd.prog 22 #[.string s] w fun e w' => e = .returned (.string ⟨(lowL s.data.toList).toArray⟩) ∧ Below w.heap.size w w' := by
  obtain ⟨i0, hi0, hz0, hz1, hz2⟩ := info_parts infoU8
  go_enter Tryd.func22, Tryd.ntmps22
  go_wp2_with fail
  go_loopw [3, 4] (fun v i wr => ∃ k : Nat, k ≤ s.size ∧ i = .int .i64 k ∧ wr.ownsRow w.heap.size 5 1 v k (bcells (lowL (s.data.toList.take k))) ∧ Below w.heap.size w wr) (fun _ i _ => s.size - (intOf i).toNat)
  case atStart => exact ⟨0, Nat.zero_le _, rfl, World.ownsRow_nil _ _ _ _, Below.refl _ _⟩
  case round =>
    obtain ⟨k, hk, rfl, ho, hb⟩ := hrel
    by_cases hlt : k < s.size
    · have hts : lowL (s.data.toList.take (k + 1)) = lowL (s.data.toList.take k) ++ [lowB s[k]] := by rw [take_snoc s k hlt]; simp only [lowL, List.map_append, List.map_cons, List.map_nil]
      have HT := hide hts
      have hbz := hb.size
      clear hts
      obtain ⟨b, hbb⟩ : ∃ b, s[k] = b := ⟨_, rfl⟩
      rw [hbb] at HT
      have hb256 := b.toNat_lt
      have hin : ((65 : Int) ≤ (b.toNat : Int) ∧ (b.toNat : Int) ≤ 90 ∧ ((lowB b).toNat : Int) = b.toNat + 32) ∨ ((b.toNat : Int) < 65 ∧ lowB b = b) ∨ ((65 : Int) ≤ (b.toNat : Int) ∧ (90 : Int) < (b.toNat : Int) ∧ lowB b = b) := by
        by_cases h : 65 ≤ b.toNat ∧ b.toNat ≤ 90
        · exact .inl ⟨by omega, by omega, lowB_hit b h⟩
        · by_cases h1 : 65 ≤ b.toNat
          · exact .inr (.inr ⟨by omega, by omega, lowB_miss b h⟩)
          · exact .inr (.inl ⟨by omega, lowB_miss b h⟩)
      rcases hin with ⟨h1, h2, h3⟩ | ⟨h1, h3⟩ | ⟨h1, h2, h3⟩
      all_goals
        have H3 := hide h3
        clear h3
        go_wp2_with (at_builtin; refine wpl_push rfl _ _ _ rfl w.heap.size i0 _ 1 1 Tryd.underlying66 hi0 hz0 hz1 hz2 rfl (by omega) _ _ _ rfl _ rfl ho rfl (by simp [Value.oneCell']) (by simp [maxLen]; omega) (by omega) hbz ?_; intro v1 w1 hown1 hbel1 _)
        go_roundw
        case rel => exact ⟨k + 1, by omega, by go_num, by rw [HT.out]; exact own_snoc_byte hown1 (by rw [H3.out]), hb.trans hbel1⟩
        case measure => simp [intOf]; omega
    · obtain ⟨A, c, rfl, -⟩ := own_shape ho
      have hrs := run_string_of (P := Tryd.prog) 66 9 5 Tryd.underlying66 Tryd.underlying5 Tryd.underlying9 wr _ k c _ _ (Rd.of_own ho)
      rw [take_all s k (by omega)] at hrs
      clear ho
      go_wp2_with fail
      go_ret
      exact ⟨rfl, hb⟩
/-- Without regard to case. -/
def sameL (a b : List UInt8) : Bool := lowL a == lowL b
set_option maxHeartbeats 400000 in
theorem fieldsame_any (a b : ByteArray) (w : World) (ha : a.size ≤ 140737488355328) (hb : b.size ≤ 140737488355328) :
    Calls Tryd.prog 92 #[.string a, .string b] w fun e w' => e = .returned (.bool (sameL a.data.toList b.data.toList)) ∧ Below w.heap.size w w' := by
  go_enter Tryd.func92, Tryd.ntmps92
  go_wp2_with fail
  refine (lower_any a _ ha).mono ?_
  rintro e w1 ⟨rfl, hb1⟩
  go_wp2_with fail
  refine (lower_any b _ hb).mono ?_
  rintro e w2 ⟨rfl, hb2⟩
  go_wp2
  go_ret
  exact ⟨ret_bool (by simp [sameL]), hb1.trans (hb2.mono hb1.size)⟩
end Go.Proofs.YtgdjlmpfjmakkaaDoor
