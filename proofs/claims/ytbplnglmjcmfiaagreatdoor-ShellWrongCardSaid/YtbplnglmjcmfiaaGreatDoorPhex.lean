/- strconv.ParseUint at base 16, of hexadecimal digits alone. -/
import Derived.Test.YtbplnglmjcmfiaaGreatDoorChunk0
import Derived.Test.YtbplnglmjcmfiaaGreatDoorLit
import Derived.Deep.DeepCutAuto
namespace Go.Proofs.YtbplnglmjcmfiaaGreatDoor
open Go.RowKit

def hexB (c : UInt8) : Bool := decide (48 ≤ c.toNat ∧ c.toNat ≤ 57) || (decide (97 ≤ c.toNat ∧ c.toNat ≤ 102) || decide (65 ≤ c.toNat ∧ c.toNat ≤ 70))
def hexV (c : UInt8) : Nat := if c.toNat ≤ 57 then c.toNat - 48 else if 97 ≤ c.toNat then c.toNat - 87 else c.toNat - 55
def hexN (l : List UInt8) : Nat := l.foldl (fun a c => 16 * a + hexV c) 0
theorem hexV_lt {c : UInt8} (h : hexB c = true) : hexV c < 16 := by
  unfold hexB at h
  unfold hexV
  simp only [Bool.or_eq_true, decide_eq_true_eq] at h
  split
  · omega
  · split <;> omega
theorem hexN_snoc (l : List UInt8) (c : UInt8) : hexN (l ++ [c]) = 16 * hexN l + hexV c := by simp [hexN, List.foldl_append]
theorem hexN_lt : ∀ (k : Nat) (l : List UInt8), (∀ c ∈ l, hexB c = true) → k ≤ l.length → hexN (l.take k) < 16 ^ k
  | 0, l, _, _ => by simp [hexN]
  | k + 1, l, h, hk => by
    have ih := hexN_lt k l h (by omega)
    have hkl : k < l.length := by omega
    have := hexV_lt (h l[k] (List.getElem_mem hkl))
    rw [List.take_add_one, List.getElem?_eq_getElem hkl]
    show hexN (l.take k ++ [l[k]]) < _
    rw [hexN_snoc, Nat.pow_succ]
    omega
theorem lower_hex : ∀ c : Fin 256, hexB (UInt8.ofNat c.val) = true → ¬ c.val ≤ 57 → ∃ d : Fin 256, bits BinOp.or IntKind.u8 (c.val : Int) 32 = (d.val : Int) ∧ 97 ≤ d.val ∧ d.val ≤ 102 ∧ hexV (UInt8.ofNat c.val) = d.val - 87 := by decide +kernel
theorem lower_of {c : UInt8} (h : hexB c = true) (h57 : ¬ c.toNat ≤ 57) : ∃ d : Nat, bits BinOp.or IntKind.u8 (c.toNat : Int) 32 = (d : Int) ∧ 97 ≤ d ∧ d ≤ 102 ∧ hexV c = d - 87 := by
  have := lower_hex ⟨c.toNat, c.toNat_lt⟩ (by rw [show UInt8.ofNat c.toNat = c by simp]; exact h) h57
  rw [show UInt8.ofNat c.toNat = c by simp] at this
  obtain ⟨d, h1, h2, h3, h4⟩ := this
  exact ⟨d.val, h1, h2, h3, h4⟩
theorem lowerc_any (c d : Int) (w : World) (h : bits BinOp.or IntKind.u8 c 32 = d) : Calls Tryz.prog 196 #[.int .u8 c] w fun e w' => e = .returned (.int .u8 d) ∧ w = w' := by
  go_enter Tryz.func196, Tryz.ntmps196
  go_wp2
  go_ret
  exact ⟨rfl, rfl⟩
set_option maxRecDepth 100000 in
set_option maxHeartbeats 3200000 in
theorem phex63 (s : ByteArray) (w : World) (hs : 1 ≤ s.size) (hall : ∀ c ∈ s.data.toList, hexB c = true) (hb : s.size ≤ 15) :
    Calls Tryz.prog 131 #[.string s, .int .i64 16, .int .i64 63] w fun e w' => e = .returned (.tuple #[.int .u64 (hexN s.data.toList), .nilIface]) ∧ Below w.heap.size w w' := by
  obtain ⟨A, c, w1, hcv, ho, b1⟩ := conv_ow w s (by omega)
  have hr := ho.rd
  obtain ⟨l, hl⟩ : ∃ l, l = s.data.toList := ⟨_, rfl⟩
  have hlen : l.length = s.size := by rw [hl, ← size_of]
  have hz : (s.toList == []) = false := by
    rw [ByteArray.toList_eq, beq_eq_false_iff_ne, ← hl]
    intro h
    rw [h] at hlen
    simp at hlen; omega
  rw [← hl] at hr hall ⊢
  obtain ⟨m, hm⟩ : ∃ m, m = s.size := ⟨_, rfl⟩
  rw [← hm] at hcv hs hb hr hlen
  have HLEN := hide hlen
  clear ho hl hlen hm
  go_enter Tryz.func131, Tryz.ntmps131
  go_wp2_with fail
  generalize hC : (1152921504606846976 : Int) = C
  generalize hM : (9223372036854775807 : Int) = M
  go_loopw [12, 13, 101] (fun us u i wr => ∃ k : Nat, k ≤ m ∧ us = .bool false ∧ u = .int .u64 (hexN (l.take k)) ∧ i = .int .i64 k ∧ wr = w1) (fun _ _ i _ => m - (intOf i).toNat)
  case atStart => exact ⟨0, Nat.zero_le _, rfl, rfl, rfl, rfl⟩
  case round =>
    obtain ⟨k, hk, rfl, rfl, rfl, rfl⟩ := hrel
    by_cases hlt : k < m
    · have hkl : k < l.length := by rw [HLEN.out]; exact hlt
      obtain ⟨b, off, rfl, -, hc⟩ := hr.lit hlt (by omega)
      have e0 := hc k _ (bcells_get l k hkl)
      have hx := hall l[k] (List.getElem_mem hkl)
      have hsn : hexN (l.take (k + 1)) = 16 * hexN (l.take k) + hexV l[k] := by
        rw [List.take_add_one, List.getElem?_eq_getElem hkl]
        exact hexN_snoc _ _
      have hlt1 : hexN (l.take k) < 16 ^ 14 := Nat.lt_of_lt_of_le (hexN_lt k l hall (by omega)) (Nat.pow_le_pow_right (by decide) (by omega))
      have hv := hexV_lt hx
      obtain ⟨x, hxx⟩ : ∃ x, x = l[k] := ⟨_, rfl⟩
      rw [← hxx] at e0 hx hsn hv
      obtain ⟨N, hN⟩ : ∃ N, N = hexN (l.take k) := ⟨_, rfl⟩
      rw [← hN] at hsn hlt1 ⊢
      have hx256 : x.toNat < 256 := x.toNat_lt
      obtain ⟨v, hv1⟩ : ∃ v, v = x.toNat := ⟨_, rfl⟩
      have hne95 : ((v : Int) == 95) = false := by
        rw [beq_eq_false_iff_ne]; intro h
        have h2 : x.toNat = 95 := by omega
        unfold hexB at hx
        rw [h2] at hx
        revert hx; decide
      obtain ⟨P, hP⟩ : ∃ P, P = N * 16 := ⟨_, rfl⟩
      have w1' : IntKind.u64.wrap ((N : Int) * 16) = (P : Int) := by rw [IntKind.wrap_u64]; omega
      have HC := hide (show ¬ (C ≤ (N : Int)) by omega)
      rw [← hv1] at e0
      by_cases h57 : v ≤ 57
      · have h48 : 48 ≤ v := by
          have := hx
          unfold hexB at this
          simp only [Bool.or_eq_true, decide_eq_true_eq] at this
          omega
        have hvx : hexV x = v - 48 := by unfold hexV; rw [if_pos (by omega), hv1]
        obtain ⟨d, hd⟩ : ∃ d, d = v - 48 := ⟨_, rfl⟩
        obtain ⟨R, hR⟩ : ∃ R, R = P + d := ⟨_, rfl⟩
        have w2' : IntKind.u8.wrap ((v : Int) - 48) = (d : Int) := by rw [IntKind.wrap_u8]; omega
        have d48 : (48 : Int) ≤ v := by omega
        have d57 : (v : Int) ≤ 57 := by omega
        have hdd : ¬ ((16 : Int) ≤ d) := by omega
        have w3' : IntKind.u64.wrap ((P : Int) + d) = (R : Int) := by rw [IntKind.wrap_u64]; omega
        have w4' : ¬ ((R : Int) < P) := by omega
        have w5' : ¬ (M < (R : Int)) := by omega
        have HF := hide (show R = hexN (l.take (k + 1)) by rw [hsn, hvx]; omega)
        clear hC hM hsn hvx hd hR hP hv1 hN hlt1 hx hv hc hxx h57 h48 hx256 hall
        have hcut := HC.out
        go_wp2_with fail
        go_roundw
        case rel => first | exact ⟨k + 1, by omega, rfl, by rw [← HF.out], by go_num, rfl⟩ | exact ⟨k + 1, by omega, rfl, by rw [← HF.out], by go_num, trivial⟩
        case measure => simp [intOf]; omega
      · obtain ⟨dd, hor, hd97, hd102, hvx⟩ := lower_of hx (by omega)
        rw [← hv1] at hor
        have HOR := hide hor
        have d57 : ¬ (v : Int) ≤ 57 := by omega
        have d48 : (48 : Int) ≤ v := by omega
        clear hor h57
        rcases (show dd = 97 ∨ dd = 98 ∨ dd = 99 ∨ dd = 100 ∨ dd = 101 ∨ dd = 102 by omega) with rfl | rfl | rfl | rfl | rfl | rfl
        · have hlo := fun w => lowerc_any (v : Int) 97 w (HOR.out)
          obtain ⟨R, hR⟩ : ∃ R, R = P + 10 := ⟨_, rfl⟩
          have w3' : IntKind.u64.wrap ((P : Int) + 10) = (R : Int) := by rw [IntKind.wrap_u64]; omega
          have w4' : ¬ ((R : Int) < P) := by omega
          have H5 := hide (show ¬ (M < (R : Int)) by omega)
          have HF := hide (show R = hexN (l.take (k + 1)) by rw [hsn, hvx]; omega)
          clear hC hM hsn hvx hR hP hv1 hN hlt1 hx hv hc hxx hx256 hall HOR
          go_wp2_with fail
          refine (hlo _).mono ?_
          rintro e w7 ⟨rfl, rfl⟩
          go_wp2_with fail
          refine (hlo _).mono ?_
          rintro e w7 ⟨rfl, rfl⟩
          go_wp2_with fail
          refine (hlo _).mono ?_
          rintro e w7 ⟨rfl, rfl⟩
          have hcut := HC.out
          have w5' := H5.out
          go_wp2_with fail
          go_roundw
          case rel => first | exact ⟨k + 1, by omega, rfl, by rw [← HF.out], by go_num, rfl⟩ | exact ⟨k + 1, by omega, rfl, by rw [← HF.out], by go_num, trivial⟩
          case measure => simp [intOf]; omega
        · have hlo := fun w => lowerc_any (v : Int) 98 w (HOR.out)
          obtain ⟨R, hR⟩ : ∃ R, R = P + 11 := ⟨_, rfl⟩
          have w3' : IntKind.u64.wrap ((P : Int) + 11) = (R : Int) := by rw [IntKind.wrap_u64]; omega
          have w4' : ¬ ((R : Int) < P) := by omega
          have H5 := hide (show ¬ (M < (R : Int)) by omega)
          have HF := hide (show R = hexN (l.take (k + 1)) by rw [hsn, hvx]; omega)
          clear hC hM hsn hvx hR hP hv1 hN hlt1 hx hv hc hxx hx256 hall HOR
          go_wp2_with fail
          refine (hlo _).mono ?_
          rintro e w7 ⟨rfl, rfl⟩
          go_wp2_with fail
          refine (hlo _).mono ?_
          rintro e w7 ⟨rfl, rfl⟩
          go_wp2_with fail
          refine (hlo _).mono ?_
          rintro e w7 ⟨rfl, rfl⟩
          have hcut := HC.out
          have w5' := H5.out
          go_wp2_with fail
          go_roundw
          case rel => first | exact ⟨k + 1, by omega, rfl, by rw [← HF.out], by go_num, rfl⟩ | exact ⟨k + 1, by omega, rfl, by rw [← HF.out], by go_num, trivial⟩
          case measure => simp [intOf]; omega
        · have hlo := fun w => lowerc_any (v : Int) 99 w (HOR.out)
          obtain ⟨R, hR⟩ : ∃ R, R = P + 12 := ⟨_, rfl⟩
          have w3' : IntKind.u64.wrap ((P : Int) + 12) = (R : Int) := by rw [IntKind.wrap_u64]; omega
          have w4' : ¬ ((R : Int) < P) := by omega
          have H5 := hide (show ¬ (M < (R : Int)) by omega)
          have HF := hide (show R = hexN (l.take (k + 1)) by rw [hsn, hvx]; omega)
          clear hC hM hsn hvx hR hP hv1 hN hlt1 hx hv hc hxx hx256 hall HOR
          go_wp2_with fail
          refine (hlo _).mono ?_
          rintro e w7 ⟨rfl, rfl⟩
          go_wp2_with fail
          refine (hlo _).mono ?_
          rintro e w7 ⟨rfl, rfl⟩
          go_wp2_with fail
          refine (hlo _).mono ?_
          rintro e w7 ⟨rfl, rfl⟩
          have hcut := HC.out
          have w5' := H5.out
          go_wp2_with fail
          go_roundw
          case rel => first | exact ⟨k + 1, by omega, rfl, by rw [← HF.out], by go_num, rfl⟩ | exact ⟨k + 1, by omega, rfl, by rw [← HF.out], by go_num, trivial⟩
          case measure => simp [intOf]; omega
        · have hlo := fun w => lowerc_any (v : Int) 100 w (HOR.out)
          obtain ⟨R, hR⟩ : ∃ R, R = P + 13 := ⟨_, rfl⟩
          have w3' : IntKind.u64.wrap ((P : Int) + 13) = (R : Int) := by rw [IntKind.wrap_u64]; omega
          have w4' : ¬ ((R : Int) < P) := by omega
          have H5 := hide (show ¬ (M < (R : Int)) by omega)
          have HF := hide (show R = hexN (l.take (k + 1)) by rw [hsn, hvx]; omega)
          clear hC hM hsn hvx hR hP hv1 hN hlt1 hx hv hc hxx hx256 hall HOR
          go_wp2_with fail
          refine (hlo _).mono ?_
          rintro e w7 ⟨rfl, rfl⟩
          go_wp2_with fail
          refine (hlo _).mono ?_
          rintro e w7 ⟨rfl, rfl⟩
          go_wp2_with fail
          refine (hlo _).mono ?_
          rintro e w7 ⟨rfl, rfl⟩
          have hcut := HC.out
          have w5' := H5.out
          go_wp2_with fail
          go_roundw
          case rel => first | exact ⟨k + 1, by omega, rfl, by rw [← HF.out], by go_num, rfl⟩ | exact ⟨k + 1, by omega, rfl, by rw [← HF.out], by go_num, trivial⟩
          case measure => simp [intOf]; omega
        · have hlo := fun w => lowerc_any (v : Int) 101 w (HOR.out)
          obtain ⟨R, hR⟩ : ∃ R, R = P + 14 := ⟨_, rfl⟩
          have w3' : IntKind.u64.wrap ((P : Int) + 14) = (R : Int) := by rw [IntKind.wrap_u64]; omega
          have w4' : ¬ ((R : Int) < P) := by omega
          have H5 := hide (show ¬ (M < (R : Int)) by omega)
          have HF := hide (show R = hexN (l.take (k + 1)) by rw [hsn, hvx]; omega)
          clear hC hM hsn hvx hR hP hv1 hN hlt1 hx hv hc hxx hx256 hall HOR
          go_wp2_with fail
          refine (hlo _).mono ?_
          rintro e w7 ⟨rfl, rfl⟩
          go_wp2_with fail
          refine (hlo _).mono ?_
          rintro e w7 ⟨rfl, rfl⟩
          go_wp2_with fail
          refine (hlo _).mono ?_
          rintro e w7 ⟨rfl, rfl⟩
          have hcut := HC.out
          have w5' := H5.out
          go_wp2_with fail
          go_roundw
          case rel => first | exact ⟨k + 1, by omega, rfl, by rw [← HF.out], by go_num, rfl⟩ | exact ⟨k + 1, by omega, rfl, by rw [← HF.out], by go_num, trivial⟩
          case measure => simp [intOf]; omega
        · have hlo := fun w => lowerc_any (v : Int) 102 w (HOR.out)
          obtain ⟨R, hR⟩ : ∃ R, R = P + 15 := ⟨_, rfl⟩
          have w3' : IntKind.u64.wrap ((P : Int) + 15) = (R : Int) := by rw [IntKind.wrap_u64]; omega
          have w4' : ¬ ((R : Int) < P) := by omega
          have H5 := hide (show ¬ (M < (R : Int)) by omega)
          have HF := hide (show R = hexN (l.take (k + 1)) by rw [hsn, hvx]; omega)
          clear hC hM hsn hvx hR hP hv1 hN hlt1 hx hv hc hxx hx256 hall HOR
          go_wp2_with fail
          refine (hlo _).mono ?_
          rintro e w7 ⟨rfl, rfl⟩
          go_wp2_with fail
          refine (hlo _).mono ?_
          rintro e w7 ⟨rfl, rfl⟩
          go_wp2_with fail
          refine (hlo _).mono ?_
          rintro e w7 ⟨rfl, rfl⟩
          have hcut := HC.out
          have w5' := H5.out
          go_wp2_with fail
          go_roundw
          case rel => first | exact ⟨k + 1, by omega, rfl, by rw [← HF.out], by go_num, rfl⟩ | exact ⟨k + 1, by omega, rfl, by rw [← HF.out], by go_num, trivial⟩
          case measure => simp [intOf]; omega
    · have hkm : k = m := by omega
      have htk : l.take k = l := List.take_of_length_le (by rw [HLEN.out, hkm]; exact Nat.le_refl _)
      rw [htk]
      clear htk hall
      go_wp2_with fail
      go_ret2
      exact ⟨rfl, b1⟩
set_option maxRecDepth 100000 in
set_option maxHeartbeats 3200000 in
theorem phex8 (s : ByteArray) (w : World) (hs : 1 ≤ s.size) (hall : ∀ c ∈ s.data.toList, hexB c = true) (hb : s.size ≤ 2) :
    Calls Tryz.prog 131 #[.string s, .int .i64 16, .int .i64 8] w fun e w' => e = .returned (.tuple #[.int .u64 (hexN s.data.toList), .nilIface]) ∧ Below w.heap.size w w' := by
  obtain ⟨A, c, w1, hcv, ho, b1⟩ := conv_ow w s (by omega)
  have hr := ho.rd
  obtain ⟨l, hl⟩ : ∃ l, l = s.data.toList := ⟨_, rfl⟩
  have hlen : l.length = s.size := by rw [hl, ← size_of]
  have hz : (s.toList == []) = false := by
    rw [ByteArray.toList_eq, beq_eq_false_iff_ne, ← hl]
    intro h
    rw [h] at hlen
    simp at hlen; omega
  rw [← hl] at hr hall ⊢
  obtain ⟨m, hm⟩ : ∃ m, m = s.size := ⟨_, rfl⟩
  rw [← hm] at hcv hs hb hr hlen
  have HLEN := hide hlen
  clear ho hl hlen hm
  go_enter Tryz.func131, Tryz.ntmps131
  go_wp2_with fail
  generalize hC : (1152921504606846976 : Int) = C
  generalize hM : (255 : Int) = M
  go_loopw [12, 13, 101] (fun us u i wr => ∃ k : Nat, k ≤ m ∧ us = .bool false ∧ u = .int .u64 (hexN (l.take k)) ∧ i = .int .i64 k ∧ wr = w1) (fun _ _ i _ => m - (intOf i).toNat)
  case atStart => exact ⟨0, Nat.zero_le _, rfl, rfl, rfl, rfl⟩
  case round =>
    obtain ⟨k, hk, rfl, rfl, rfl, rfl⟩ := hrel
    by_cases hlt : k < m
    · have hkl : k < l.length := by rw [HLEN.out]; exact hlt
      obtain ⟨b, off, rfl, -, hc⟩ := hr.lit hlt (by omega)
      have e0 := hc k _ (bcells_get l k hkl)
      have hx := hall l[k] (List.getElem_mem hkl)
      have hsn : hexN (l.take (k + 1)) = 16 * hexN (l.take k) + hexV l[k] := by
        rw [List.take_add_one, List.getElem?_eq_getElem hkl]
        exact hexN_snoc _ _
      have hlt1 : hexN (l.take k) < 16 ^ 1 := Nat.lt_of_lt_of_le (hexN_lt k l hall (by omega)) (Nat.pow_le_pow_right (by decide) (by omega))
      have hv := hexV_lt hx
      obtain ⟨x, hxx⟩ : ∃ x, x = l[k] := ⟨_, rfl⟩
      rw [← hxx] at e0 hx hsn hv
      obtain ⟨N, hN⟩ : ∃ N, N = hexN (l.take k) := ⟨_, rfl⟩
      rw [← hN] at hsn hlt1 ⊢
      have hx256 : x.toNat < 256 := x.toNat_lt
      obtain ⟨v, hv1⟩ : ∃ v, v = x.toNat := ⟨_, rfl⟩
      have hne95 : ((v : Int) == 95) = false := by
        rw [beq_eq_false_iff_ne]; intro h
        have h2 : x.toNat = 95 := by omega
        unfold hexB at hx
        rw [h2] at hx
        revert hx; decide
      obtain ⟨P, hP⟩ : ∃ P, P = N * 16 := ⟨_, rfl⟩
      have w1' : IntKind.u64.wrap ((N : Int) * 16) = (P : Int) := by rw [IntKind.wrap_u64]; omega
      have HC := hide (show ¬ (C ≤ (N : Int)) by omega)
      rw [← hv1] at e0
      by_cases h57 : v ≤ 57
      · have h48 : 48 ≤ v := by
          have := hx
          unfold hexB at this
          simp only [Bool.or_eq_true, decide_eq_true_eq] at this
          omega
        have hvx : hexV x = v - 48 := by unfold hexV; rw [if_pos (by omega), hv1]
        obtain ⟨d, hd⟩ : ∃ d, d = v - 48 := ⟨_, rfl⟩
        obtain ⟨R, hR⟩ : ∃ R, R = P + d := ⟨_, rfl⟩
        have w2' : IntKind.u8.wrap ((v : Int) - 48) = (d : Int) := by rw [IntKind.wrap_u8]; omega
        have d48 : (48 : Int) ≤ v := by omega
        have d57 : (v : Int) ≤ 57 := by omega
        have hdd : ¬ ((16 : Int) ≤ d) := by omega
        have w3' : IntKind.u64.wrap ((P : Int) + d) = (R : Int) := by rw [IntKind.wrap_u64]; omega
        have w4' : ¬ ((R : Int) < P) := by omega
        have w5' : ¬ (M < (R : Int)) := by omega
        have HF := hide (show R = hexN (l.take (k + 1)) by rw [hsn, hvx]; omega)
        clear hC hM hsn hvx hd hR hP hv1 hN hlt1 hx hv hc hxx h57 h48 hx256 hall
        have hcut := HC.out
        go_wp2_with fail
        go_roundw
        case rel => first | exact ⟨k + 1, by omega, rfl, by rw [← HF.out], by go_num, rfl⟩ | exact ⟨k + 1, by omega, rfl, by rw [← HF.out], by go_num, trivial⟩
        case measure => simp [intOf]; omega
      · obtain ⟨dd, hor, hd97, hd102, hvx⟩ := lower_of hx (by omega)
        rw [← hv1] at hor
        have HOR := hide hor
        have d57 : ¬ (v : Int) ≤ 57 := by omega
        have d48 : (48 : Int) ≤ v := by omega
        clear hor h57
        rcases (show dd = 97 ∨ dd = 98 ∨ dd = 99 ∨ dd = 100 ∨ dd = 101 ∨ dd = 102 by omega) with rfl | rfl | rfl | rfl | rfl | rfl
        · have hlo := fun w => lowerc_any (v : Int) 97 w (HOR.out)
          obtain ⟨R, hR⟩ : ∃ R, R = P + 10 := ⟨_, rfl⟩
          have w3' : IntKind.u64.wrap ((P : Int) + 10) = (R : Int) := by rw [IntKind.wrap_u64]; omega
          have w4' : ¬ ((R : Int) < P) := by omega
          have H5 := hide (show ¬ (M < (R : Int)) by omega)
          have HF := hide (show R = hexN (l.take (k + 1)) by rw [hsn, hvx]; omega)
          clear hC hM hsn hvx hR hP hv1 hN hlt1 hx hv hc hxx hx256 hall HOR
          go_wp2_with fail
          refine (hlo _).mono ?_
          rintro e w7 ⟨rfl, rfl⟩
          go_wp2_with fail
          refine (hlo _).mono ?_
          rintro e w7 ⟨rfl, rfl⟩
          go_wp2_with fail
          refine (hlo _).mono ?_
          rintro e w7 ⟨rfl, rfl⟩
          have hcut := HC.out
          have w5' := H5.out
          go_wp2_with fail
          go_roundw
          case rel => first | exact ⟨k + 1, by omega, rfl, by rw [← HF.out], by go_num, rfl⟩ | exact ⟨k + 1, by omega, rfl, by rw [← HF.out], by go_num, trivial⟩
          case measure => simp [intOf]; omega
        · have hlo := fun w => lowerc_any (v : Int) 98 w (HOR.out)
          obtain ⟨R, hR⟩ : ∃ R, R = P + 11 := ⟨_, rfl⟩
          have w3' : IntKind.u64.wrap ((P : Int) + 11) = (R : Int) := by rw [IntKind.wrap_u64]; omega
          have w4' : ¬ ((R : Int) < P) := by omega
          have H5 := hide (show ¬ (M < (R : Int)) by omega)
          have HF := hide (show R = hexN (l.take (k + 1)) by rw [hsn, hvx]; omega)
          clear hC hM hsn hvx hR hP hv1 hN hlt1 hx hv hc hxx hx256 hall HOR
          go_wp2_with fail
          refine (hlo _).mono ?_
          rintro e w7 ⟨rfl, rfl⟩
          go_wp2_with fail
          refine (hlo _).mono ?_
          rintro e w7 ⟨rfl, rfl⟩
          go_wp2_with fail
          refine (hlo _).mono ?_
          rintro e w7 ⟨rfl, rfl⟩
          have hcut := HC.out
          have w5' := H5.out
          go_wp2_with fail
          go_roundw
          case rel => first | exact ⟨k + 1, by omega, rfl, by rw [← HF.out], by go_num, rfl⟩ | exact ⟨k + 1, by omega, rfl, by rw [← HF.out], by go_num, trivial⟩
          case measure => simp [intOf]; omega
        · have hlo := fun w => lowerc_any (v : Int) 99 w (HOR.out)
          obtain ⟨R, hR⟩ : ∃ R, R = P + 12 := ⟨_, rfl⟩
          have w3' : IntKind.u64.wrap ((P : Int) + 12) = (R : Int) := by rw [IntKind.wrap_u64]; omega
          have w4' : ¬ ((R : Int) < P) := by omega
          have H5 := hide (show ¬ (M < (R : Int)) by omega)
          have HF := hide (show R = hexN (l.take (k + 1)) by rw [hsn, hvx]; omega)
          clear hC hM hsn hvx hR hP hv1 hN hlt1 hx hv hc hxx hx256 hall HOR
          go_wp2_with fail
          refine (hlo _).mono ?_
          rintro e w7 ⟨rfl, rfl⟩
          go_wp2_with fail
          refine (hlo _).mono ?_
          rintro e w7 ⟨rfl, rfl⟩
          go_wp2_with fail
          refine (hlo _).mono ?_
          rintro e w7 ⟨rfl, rfl⟩
          have hcut := HC.out
          have w5' := H5.out
          go_wp2_with fail
          go_roundw
          case rel => first | exact ⟨k + 1, by omega, rfl, by rw [← HF.out], by go_num, rfl⟩ | exact ⟨k + 1, by omega, rfl, by rw [← HF.out], by go_num, trivial⟩
          case measure => simp [intOf]; omega
        · have hlo := fun w => lowerc_any (v : Int) 100 w (HOR.out)
          obtain ⟨R, hR⟩ : ∃ R, R = P + 13 := ⟨_, rfl⟩
          have w3' : IntKind.u64.wrap ((P : Int) + 13) = (R : Int) := by rw [IntKind.wrap_u64]; omega
          have w4' : ¬ ((R : Int) < P) := by omega
          have H5 := hide (show ¬ (M < (R : Int)) by omega)
          have HF := hide (show R = hexN (l.take (k + 1)) by rw [hsn, hvx]; omega)
          clear hC hM hsn hvx hR hP hv1 hN hlt1 hx hv hc hxx hx256 hall HOR
          go_wp2_with fail
          refine (hlo _).mono ?_
          rintro e w7 ⟨rfl, rfl⟩
          go_wp2_with fail
          refine (hlo _).mono ?_
          rintro e w7 ⟨rfl, rfl⟩
          go_wp2_with fail
          refine (hlo _).mono ?_
          rintro e w7 ⟨rfl, rfl⟩
          have hcut := HC.out
          have w5' := H5.out
          go_wp2_with fail
          go_roundw
          case rel => first | exact ⟨k + 1, by omega, rfl, by rw [← HF.out], by go_num, rfl⟩ | exact ⟨k + 1, by omega, rfl, by rw [← HF.out], by go_num, trivial⟩
          case measure => simp [intOf]; omega
        · have hlo := fun w => lowerc_any (v : Int) 101 w (HOR.out)
          obtain ⟨R, hR⟩ : ∃ R, R = P + 14 := ⟨_, rfl⟩
          have w3' : IntKind.u64.wrap ((P : Int) + 14) = (R : Int) := by rw [IntKind.wrap_u64]; omega
          have w4' : ¬ ((R : Int) < P) := by omega
          have H5 := hide (show ¬ (M < (R : Int)) by omega)
          have HF := hide (show R = hexN (l.take (k + 1)) by rw [hsn, hvx]; omega)
          clear hC hM hsn hvx hR hP hv1 hN hlt1 hx hv hc hxx hx256 hall HOR
          go_wp2_with fail
          refine (hlo _).mono ?_
          rintro e w7 ⟨rfl, rfl⟩
          go_wp2_with fail
          refine (hlo _).mono ?_
          rintro e w7 ⟨rfl, rfl⟩
          go_wp2_with fail
          refine (hlo _).mono ?_
          rintro e w7 ⟨rfl, rfl⟩
          have hcut := HC.out
          have w5' := H5.out
          go_wp2_with fail
          go_roundw
          case rel => first | exact ⟨k + 1, by omega, rfl, by rw [← HF.out], by go_num, rfl⟩ | exact ⟨k + 1, by omega, rfl, by rw [← HF.out], by go_num, trivial⟩
          case measure => simp [intOf]; omega
        · have hlo := fun w => lowerc_any (v : Int) 102 w (HOR.out)
          obtain ⟨R, hR⟩ : ∃ R, R = P + 15 := ⟨_, rfl⟩
          have w3' : IntKind.u64.wrap ((P : Int) + 15) = (R : Int) := by rw [IntKind.wrap_u64]; omega
          have w4' : ¬ ((R : Int) < P) := by omega
          have H5 := hide (show ¬ (M < (R : Int)) by omega)
          have HF := hide (show R = hexN (l.take (k + 1)) by rw [hsn, hvx]; omega)
          clear hC hM hsn hvx hR hP hv1 hN hlt1 hx hv hc hxx hx256 hall HOR
          go_wp2_with fail
          refine (hlo _).mono ?_
          rintro e w7 ⟨rfl, rfl⟩
          go_wp2_with fail
          refine (hlo _).mono ?_
          rintro e w7 ⟨rfl, rfl⟩
          go_wp2_with fail
          refine (hlo _).mono ?_
          rintro e w7 ⟨rfl, rfl⟩
          have hcut := HC.out
          have w5' := H5.out
          go_wp2_with fail
          go_roundw
          case rel => first | exact ⟨k + 1, by omega, rfl, by rw [← HF.out], by go_num, rfl⟩ | exact ⟨k + 1, by omega, rfl, by rw [← HF.out], by go_num, trivial⟩
          case measure => simp [intOf]; omega
    · have hkm : k = m := by omega
      have htk : l.take k = l := List.take_of_length_le (by rw [HLEN.out, hkm]; exact Nat.le_refl _)
      rw [htk]
      clear htk hall
      go_wp2_with fail
      go_ret2
      exact ⟨rfl, b1⟩
set_option maxRecDepth 100000 in
set_option maxHeartbeats 3200000 in
theorem parsehex63 (s : ByteArray) (w : World) (hs : 1 ≤ s.size) (hall : ∀ c ∈ s.data.toList, hexB c = true) (hb : s.size ≤ 15) :
    Calls Tryz.prog 84 #[.string s, .int .i64 16, .int .i64 63] w fun e w' => e = .returned (.tuple #[.int .u64 (hexN s.data.toList), .nilIface]) ∧ Below w.heap.size w w' := by
  have q := phex63 s w hs hall hb
  obtain ⟨N, hN⟩ : ∃ N, N = hexN s.data.toList := ⟨_, rfl⟩
  rw [← hN] at q ⊢
  clear hN hall hs hb
  go_enter Tryz.func84, Tryz.ntmps84
  go_wp2_with fail
  refine q.mono ?_
  rintro e w1 ⟨rfl, b1⟩
  go_wp2_with fail
  go_ret2
  exact ⟨rfl, b1⟩
set_option maxRecDepth 100000 in
set_option maxHeartbeats 3200000 in
theorem parsehex8 (s : ByteArray) (w : World) (hs : 1 ≤ s.size) (hall : ∀ c ∈ s.data.toList, hexB c = true) (hb : s.size ≤ 2) :
    Calls Tryz.prog 84 #[.string s, .int .i64 16, .int .i64 8] w fun e w' => e = .returned (.tuple #[.int .u64 (hexN s.data.toList), .nilIface]) ∧ Below w.heap.size w w' := by
  have q := phex8 s w hs hall hb
  obtain ⟨N, hN⟩ : ∃ N, N = hexN s.data.toList := ⟨_, rfl⟩
  rw [← hN] at q ⊢
  clear hN hall hs hb
  go_enter Tryz.func84, Tryz.ntmps84
  go_wp2_with fail
  refine q.mono ?_
  rintro e w1 ⟨rfl, b1⟩
  go_wp2_with fail
  go_ret2
  exact ⟨rfl, b1⟩
end Go.Proofs.YtbplnglmjcmfiaaGreatDoor
