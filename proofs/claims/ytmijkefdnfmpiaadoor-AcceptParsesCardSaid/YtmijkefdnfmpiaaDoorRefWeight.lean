/- The reference's Weight. -/
import Derived.Test.YtmijkefdnfmpiaaDoorWeight
namespace Go.Proofs.YtmijkefdnfmpiaaDoor
open Go.RowKit

theorem pad3_at (t : List UInt8) (k : Nat) (hk : k < 3) : (pad3 t)[k]? = some ((t[k]?).getD 48) := by
  unfold pad3
  rw [List.getElem?_take, if_pos hk, List.getElem?_append]
  split
  · rename_i h
    rw [List.getElem?_eq_getElem h]; rfl
  · rename_i h
    rw [List.getElem?_eq_none (l := t) (by omega)]
    have : ∀ j, j < 3 → ([48, 48, 48] : List UInt8)[j]? = some 48 := by decide
    rw [this _ (by omega)]; rfl
theorem decV_consk (c : UInt8) (l : List UInt8) : ∀ k, k ≤ l.length → decV (c :: l.take k) = (c.toNat - 48) * 10 ^ k + decV (l.take k)
  | 0, _ => by simp [decV]
  | k + 1, h => by
    have ih := decV_consk c l k (by omega)
    have e : c :: l.take (k + 1) = (c :: l.take k) ++ [l[k]] := by rw [list_take_snoc l k (by omega)]; rfl
    rw [e, decV_snoc, ih, decV_take l k (by omega), Nat.pow_succ, Nat.mul_add]
    rw [show 10 * ((c.toNat - 48) * 10 ^ k) = (c.toNat - 48) * (10 ^ k * 10) by rw [← Nat.mul_assoc, Nat.mul_comm 10, Nat.mul_assoc, Nat.mul_comm 10]]
    omega

set_option maxRecDepth 100000 in
set_option maxHeartbeats 3200000 in
theorem refweight_any (s : ByteArray) (w : World) :
    Calls Tryd.prog 52 #[.string s] w fun e w' => e = .returned (.tuple #[.int .i64 (weightL s.data.toList).1, .bool (weightL s.data.toList).2]) ∧ w = w' := by
  have hsz := size_of s
  obtain ⟨v, hv⟩ : ∃ v, v = weightL s.data.toList := ⟨_, rfl⟩
  rw [← hv]
  by_cases h1 : s.size < 1
  · have hnil : s.data.toList = [] := List.eq_nil_of_length_eq_zero (by omega)
    rw [hnil] at hv
    have HV := hide hv
    clear hv hsz hnil
    go_enter Tryd.func52, Tryd.ntmps52
    go_wp2
    go_ret2
    exact ⟨by rw [HV.out] <;> rfl, rfl⟩
  · have hp0 : 0 < s.size := by omega
    have hg0 := get_toList s 0 hp0
    obtain ⟨c, r, hcr⟩ : ∃ c r, s.data.toList = c :: r := by
      cases h : s.data.toList with
      | nil =>
        have h0 : s.size = 0 := by rw [size_of, h]; rfl
        omega
      | cons c r => exact ⟨c, r, rfl⟩
    have hrl : r.length + 1 = s.size := by rw [hsz, hcr]; rfl
    have hb0 : s[0] = c := by rw [hcr] at hg0; simpa using hg0.symm
    rw [hcr, weight_cons] at hv
    by_cases h5 : 5 < s.size
    · have hv' : v = (0, false) := by rw [hv, if_neg]; rintro ⟨_, _, h, _⟩; rw [List.length_drop] at h; omega
      have HV := hide hv'
      clear hv hv' hsz hg0 hcr hrl hb0
      go_enter Tryd.func52, Tryd.ntmps52
      go_wp2
      go_ret2
      exact ⟨by rw [HV.out] <;> rfl, rfl⟩
    · have hi0 : (0 : Int) < (s.size : Int) := by omega
      by_cases hc : c = 48 ∨ c = 49
      · have hc' : ((c.toNat : Int) != 48) = false ∨ (((c.toNat : Int) != 48) = true ∧ ((c.toNat : Int) != 49) = false) := by rcases hc with rfl | rfl <;> decide
        by_cases h2 : 1 < s.size
        · have hg1 := get_toList s 1 h2
          obtain ⟨d, r2, hr2⟩ : ∃ d r2, r = d :: r2 := by
            cases r with
            | nil => simp at hrl; omega
            | cons d r2 => exact ⟨d, r2, rfl⟩
          have hb1 : s[1] = d := by rw [hcr, hr2] at hg1; simpa using hg1.symm
          have hi1 : (1 : Int) < (s.size : Int) := by omega
          by_cases hd : d = 46
          · subst hd
            have hr0 : r = [] ∨ r.head? = some 46 := .inr (by rw [hr2]; rfl)
            have hd' : (((46 : UInt8).toNat : Int) != 46) = false := by decide
            obtain ⟨tl, htl⟩ : ∃ tl, tl = r.drop 1 := ⟨_, rfl⟩
            rw [← htl] at hv
            have htll : tl.length = s.size - 2 := by rw [htl, List.length_drop]; omega
            have HTL := hide htll
            obtain ⟨pd, hpd⟩ : ∃ pd, pd = pad3 tl := ⟨_, rfl⟩
            rw [← hpd] at hv
            have hp3 : pd.length = 3 := by rw [hpd]; exact pad3_len tl
            have HT := hide (show ∀ k (h : k + 2 < s.size), tl[k]? = some s[k + 2] from fun k h => by
              have := get_toList s (k + 2) h
              rw [hcr, List.getElem?_cons_succ] at this
              rw [htl, List.getElem?_drop, Nat.add_comm]; exact this)
            have HPA := hide (show ∀ k (h : k < 3), pd[k]? = some ((tl[k]?).getD 48) from fun k h => by rw [hpd]; exact pad3_at tl k h)
            have HST := hide (show ∀ k (h : k < 3), decV (c :: pd.take (k + 1)) = 10 * decV (c :: pd.take k) + (((pd[k]?).getD 48).toNat - 48) from fun k h => by
              have e : c :: pd.take (k + 1) = (c :: pd.take k) ++ [pd[k]'(by omega)] := by rw [list_take_snoc pd k (by omega)]; rfl
              rw [e, decV_snoc, List.getElem?_eq_getElem (by omega)]; rfl)
            have hcn : c.toNat - 48 ≤ 1 := by rcases hc with rfl | rfl <;> decide
            have hcd : 48 ≤ c.toNat ∧ c.toNat ≤ 49 := by rcases hc with rfl | rfl <;> decide
            have HC01 := hide hcn
            have HC0 := hide (show Value.int .i64 ((c.toNat : Int) - 48) = Value.int .i64 (decV (c :: pd.take 0)) from congrArg (Value.int .i64) (by show (c.toNat : Int) - 48 = ((10 * 0 + (c.toNat - 48) : Nat) : Int); omega))
            have HB := hide (show ∀ k, k ≤ 3 → (tl.take k).all digB = true → decV (c :: pd.take k) < 1000000 from fun k hk ha => by
              rw [decV_consk c pd k (by omega)]
              have hpk : (pd.take k).all digB = true := by
                rw [List.all_eq_true]
                intro x hx
                obtain ⟨j, hj, rfl⟩ := List.mem_iff_getElem.1 hx
                rw [List.length_take] at hj
                have h1 : pd[j]? = some ((tl[j]?).getD 48) := by rw [hpd]; exact pad3_at tl j (by omega)
                rw [List.getElem_take]
                have h2 := (List.getElem?_eq_some_iff.1 h1).2
                rw [h2]
                rcases hjt : tl[j]? with _ | y
                · decide
                · exact List.all_eq_true.1 ha y (List.mem_of_getElem? (i := j) (by rw [List.getElem?_take, if_pos (by omega)]; exact hjt))
              have h1 := decV_lt (pd.take k) hpk k (by rw [List.length_take]; omega)
              rw [List.take_take, Nat.min_self] at h1
              have h2 : 10 ^ k ≤ 10 ^ 3 := Nat.pow_le_pow_right (by decide) hk
              have h3 : (c.toNat - 48) * 10 ^ k ≤ 1 * 10 ^ 3 := Nat.mul_le_mul hcn h2
              omega)
            have HBAD := hide (show ¬ tl.all digB = true → v = (0, false) from fun h => by rw [hv, if_neg (fun x => h x.2.2.2)])
            have HFIN := hide (show tl.all digB = true → decV (c :: pd.take 3) = (c.toNat - 48) * 1000 + decV pd ∧ decV pd < 1000 ∧ v = (if 1000 < (c.toNat - 48) * 1000 + decV pd then (0, false) else ((c.toNat - 48) * 1000 + decV pd, true)) from fun h => by
              have hlt : decV pd < 1000 := by rw [hpd]; exact pad3_lt tl h
              refine ⟨?_, hlt, ?_⟩
              · have := decV_consk c pd 3 (by omega)
                rw [List.take_of_length_le (l := pd) (by omega)] at this ⊢
                exact this
              · rw [hv, if_pos ⟨hc, hr0, by omega, h⟩]
                rcases hc with rfl | rfl
                · rw [if_neg (by decide)]
                  show _ = if 1000 < 0 * 1000 + decV pd then _ else _
                  rw [if_neg (by omega)]
                  show _ = (0 * 1000 + decV pd, true)
                  rw [Nat.zero_mul, Nat.zero_add]
                · rw [if_pos rfl]
                  show _ = if 1000 < 1 * 1000 + decV pd then _ else (1 * 1000 + decV pd, true)
                  by_cases h0 : 0 < decV pd
                  · rw [if_pos h0, if_pos (by omega)]
                  · have : decV pd = 0 := by omega
                    rw [if_neg h0, if_neg (by omega), this])
            clear hv htl hpd htll hsz hg0 hg1 hcr hr2 hrl hr0 hp3 hcn
            rcases hc' with hn8 | ⟨hn8, hn9⟩
            all_goals
              clear hc
              go_enter Tryd.func52, Tryd.ntmps52
              go_wp2_with fail
              go_loop [4, 5] (fun n i => ∃ k : Nat, k ≤ 3 ∧ i = .int .i64 (k + 2) ∧ n = .int .i64 (decV (c :: pd.take k)) ∧ (tl.take k).all digB = true) (fun _ i => 5 - (intOf i).toNat)
              case atStart => exact ⟨0, Nat.zero_le _, rfl, HC0.out, rfl⟩
              case round =>
                obtain ⟨k, hk, rfl, rfl, hall⟩ := hrel
                by_cases hk3 : k < 3
                · obtain ⟨q, hq⟩ : ∃ q, q = decV (c :: pd.take k) := ⟨_, rfl⟩
                  have hq6 := HB.out k hk hall
                  have hst := HST.out k hk3
                  rw [← hq] at hq6 hst ⊢
                  have hpa := HPA.out k hk3
                  clear hq
                  by_cases hin : k + 2 < s.size
                  · have hbt := HT.out k hin
                    have hkt : k < tl.length := by have := HTL.out; omega
                    obtain ⟨b, hb⟩ : ∃ b, s[k + 2] = b := ⟨_, rfl⟩
                    rw [hb] at hbt
                    rw [hbt] at hpa
                    have hb256 := b.toNat_lt
                    have hs2 : (tl.take (k + 1)).all digB = digB b := by
                      have e := (List.getElem?_eq_some_iff.1 hbt).2
                      rw [list_take_snoc tl k hkt, List.all_append, hall, e]; simp
                    have hbad : digB b = false → v = (0, false) := fun hd => HBAD.out (fun ha => by
                      have := List.all_eq_true.1 ha b (List.mem_of_getElem? hbt)
                      rw [hd] at this; cases this)
                    have HS2 := hide hs2
                    have HBD := hide hbad
                    have HP := hide hpa
                    have HS := hide hst
                    clear hs2 hbad hpa hst hbt hall
                    by_cases h48 : b.toNat < 48
                    · have HF := hide (HBD.out (by rcases hd : digB b with _ | _; rfl; rw [digB_iff] at hd; omega))
                      go_wp2
                      go_ret2
                      exact ⟨by rw [HF.out] <;> rfl, rfl⟩
                    · by_cases h57 : 57 < b.toNat
                      · have HF := hide (HBD.out (by rcases hd : digB b with _ | _; rfl; rw [digB_iff] at hd; omega))
                        go_wp2
                        go_ret2
                        exact ⟨by rw [HF.out] <;> rfl, rfl⟩
                      · have hd : digB b = true := (digB_iff b).2 ⟨by omega, by omega⟩
                        have HD := hide hd
                        clear hd
                        go_wp2
                        go_round
                        case rel => exact ⟨k + 1, by omega, by go_num, by rw [HS.out, HP.out]; exact congrArg (Value.int .i64) (by simp only [Option.getD_some]; omega), by rw [HS2.out, HD.out]⟩
                        case measure => simp [intOf]; omega
                  · have hnt : tl[k]? = none := List.getElem?_eq_none (by have := HTL.out; omega)
                    rw [hnt] at hpa
                    have hs2 : (tl.take (k + 1)).all digB = true := by
                      rw [List.take_of_length_le (by have := HTL.out; omega)] at hall ⊢; exact hall
                    have HS2 := hide hs2
                    have HP := hide hpa
                    have HS := hide hst
                    clear hs2 hpa hst hnt hall
                    go_wp2
                    go_round
                    case rel => exact ⟨k + 1, by omega, by go_num, by rw [HS.out, HP.out]; exact congrArg (Value.int .i64) (by simp), HS2.out⟩
                    case measure => simp [intOf]; omega
                · obtain rfl : k = 3 := by omega
                  have hall3 : tl.all digB = true := by rwa [List.take_of_length_le (by have := HTL.out; omega)] at hall
                  have hfin := HFIN.out hall3
                  rw [hfin.1]
                  obtain ⟨hlt, hval⟩ := hfin.2
                  obtain ⟨q, hq⟩ : ∃ q, q = decV pd := ⟨_, rfl⟩
                  rw [← hq] at hlt hval ⊢
                  have hc01 := HC01.out
                  obtain ⟨m, hm⟩ : ∃ m, m = c.toNat - 48 := ⟨_, rfl⟩
                  rw [← hm] at hc01 hval ⊢
                  have HVAL := hide hval
                  clear hfin hval hall hall3 hq hm
                  by_cases hg : 1000 < m * 1000 + q
                  · go_wp2
                    go_ret2
                    exact ⟨by rw [HVAL.out, if_pos hg] <;> rfl, rfl⟩
                  · go_wp2
                    go_ret2
                    exact ⟨by rw [HVAL.out, if_neg hg] <;> rfl, rfl⟩
          · have hv' : v = (0, false) := by
              rw [hv, if_neg]
              rintro ⟨_, h, _⟩
              rw [hr2] at h
              rcases h with h | h
              · cases h
              · simp at h; exact hd h
            have hd' : ((d.toNat : Int) != 46) = true := by
              simp; intro h; exact hd (UInt8.toNat_inj.1 (by simpa using (by omega : d.toNat = 46)))
            have HV := hide hv'
            clear hv hv' hsz hg0 hg1 hcr hr2 hrl hd hc
            rcases hc' with hn8 | ⟨hn8, hn9⟩
            all_goals
              go_enter Tryd.func52, Tryd.ntmps52
              go_wp2
              go_ret2
              exact ⟨by rw [HV.out] <;> rfl, rfl⟩
        · have hr0 : r = [] ∨ r.head? = some 46 := .inl (List.eq_nil_of_length_eq_zero (by omega))
          obtain ⟨tl, htl⟩ : ∃ tl, tl = r.drop 1 := ⟨_, rfl⟩
          rw [← htl] at hv
          have htll : tl.length = s.size - 2 := by rw [htl, List.length_drop]; omega
          have HTL := hide htll
          obtain ⟨pd, hpd⟩ : ∃ pd, pd = pad3 tl := ⟨_, rfl⟩
          rw [← hpd] at hv
          have hp3 : pd.length = 3 := by rw [hpd]; exact pad3_len tl
          have HT := hide (show ∀ k (h : k + 2 < s.size), tl[k]? = some s[k + 2] from fun k h => by
            have := get_toList s (k + 2) h
            rw [hcr, List.getElem?_cons_succ] at this
            rw [htl, List.getElem?_drop, Nat.add_comm]; exact this)
          have HPA := hide (show ∀ k (h : k < 3), pd[k]? = some ((tl[k]?).getD 48) from fun k h => by rw [hpd]; exact pad3_at tl k h)
          have HST := hide (show ∀ k (h : k < 3), decV (c :: pd.take (k + 1)) = 10 * decV (c :: pd.take k) + (((pd[k]?).getD 48).toNat - 48) from fun k h => by
            have e : c :: pd.take (k + 1) = (c :: pd.take k) ++ [pd[k]'(by omega)] := by rw [list_take_snoc pd k (by omega)]; rfl
            rw [e, decV_snoc, List.getElem?_eq_getElem (by omega)]; rfl)
          have hcn : c.toNat - 48 ≤ 1 := by rcases hc with rfl | rfl <;> decide
          have hcd : 48 ≤ c.toNat ∧ c.toNat ≤ 49 := by rcases hc with rfl | rfl <;> decide
          have HC01 := hide hcn
          have HC0 := hide (show Value.int .i64 ((c.toNat : Int) - 48) = Value.int .i64 (decV (c :: pd.take 0)) from congrArg (Value.int .i64) (by show (c.toNat : Int) - 48 = ((10 * 0 + (c.toNat - 48) : Nat) : Int); omega))
          have HB := hide (show ∀ k, k ≤ 3 → (tl.take k).all digB = true → decV (c :: pd.take k) < 1000000 from fun k hk ha => by
            rw [decV_consk c pd k (by omega)]
            have hpk : (pd.take k).all digB = true := by
              rw [List.all_eq_true]
              intro x hx
              obtain ⟨j, hj, rfl⟩ := List.mem_iff_getElem.1 hx
              rw [List.length_take] at hj
              have h1 : pd[j]? = some ((tl[j]?).getD 48) := by rw [hpd]; exact pad3_at tl j (by omega)
              rw [List.getElem_take]
              have h2 := (List.getElem?_eq_some_iff.1 h1).2
              rw [h2]
              rcases hjt : tl[j]? with _ | y
              · decide
              · exact List.all_eq_true.1 ha y (List.mem_of_getElem? (i := j) (by rw [List.getElem?_take, if_pos (by omega)]; exact hjt))
            have h1 := decV_lt (pd.take k) hpk k (by rw [List.length_take]; omega)
            rw [List.take_take, Nat.min_self] at h1
            have h2 : 10 ^ k ≤ 10 ^ 3 := Nat.pow_le_pow_right (by decide) hk
            have h3 : (c.toNat - 48) * 10 ^ k ≤ 1 * 10 ^ 3 := Nat.mul_le_mul hcn h2
            omega)
          have HBAD := hide (show ¬ tl.all digB = true → v = (0, false) from fun h => by rw [hv, if_neg (fun x => h x.2.2.2)])
          have HFIN := hide (show tl.all digB = true → decV (c :: pd.take 3) = (c.toNat - 48) * 1000 + decV pd ∧ decV pd < 1000 ∧ v = (if 1000 < (c.toNat - 48) * 1000 + decV pd then (0, false) else ((c.toNat - 48) * 1000 + decV pd, true)) from fun h => by
            have hlt : decV pd < 1000 := by rw [hpd]; exact pad3_lt tl h
            refine ⟨?_, hlt, ?_⟩
            · have := decV_consk c pd 3 (by omega)
              rw [List.take_of_length_le (l := pd) (by omega)] at this ⊢
              exact this
            · rw [hv, if_pos ⟨hc, hr0, by omega, h⟩]
              rcases hc with rfl | rfl
              · rw [if_neg (by decide)]
                show _ = if 1000 < 0 * 1000 + decV pd then _ else _
                rw [if_neg (by omega)]
                show _ = (0 * 1000 + decV pd, true)
                rw [Nat.zero_mul, Nat.zero_add]
              · rw [if_pos rfl]
                show _ = if 1000 < 1 * 1000 + decV pd then _ else (1 * 1000 + decV pd, true)
                by_cases h0 : 0 < decV pd
                · rw [if_pos h0, if_pos (by omega)]
                · have : decV pd = 0 := by omega
                  rw [if_neg h0, if_neg (by omega), this])
          clear hv htl hpd htll hsz hg0 hcr hrl hr0 hp3 hcn
          rcases hc' with hn8 | ⟨hn8, hn9⟩
          all_goals
            clear hc
            go_enter Tryd.func52, Tryd.ntmps52
            go_wp2_with fail
            go_loop [4, 5] (fun n i => ∃ k : Nat, k ≤ 3 ∧ i = .int .i64 (k + 2) ∧ n = .int .i64 (decV (c :: pd.take k)) ∧ (tl.take k).all digB = true) (fun _ i => 5 - (intOf i).toNat)
            case atStart => exact ⟨0, Nat.zero_le _, rfl, HC0.out, rfl⟩
            case round =>
              obtain ⟨k, hk, rfl, rfl, hall⟩ := hrel
              by_cases hk3 : k < 3
              · obtain ⟨q, hq⟩ : ∃ q, q = decV (c :: pd.take k) := ⟨_, rfl⟩
                have hq6 := HB.out k hk hall
                have hst := HST.out k hk3
                rw [← hq] at hq6 hst ⊢
                have hpa := HPA.out k hk3
                clear hq
                by_cases hin : k + 2 < s.size
                · exact absurd hin (by omega)
                · have hnt : tl[k]? = none := List.getElem?_eq_none (by have := HTL.out; omega)
                  rw [hnt] at hpa
                  have hs2 : (tl.take (k + 1)).all digB = true := by
                    rw [List.take_of_length_le (by have := HTL.out; omega)] at hall ⊢; exact hall
                  have HS2 := hide hs2
                  have HP := hide hpa
                  have HS := hide hst
                  clear hs2 hpa hst hnt hall
                  go_wp2
                  go_round
                  case rel => exact ⟨k + 1, by omega, by go_num, by rw [HS.out, HP.out]; exact congrArg (Value.int .i64) (by simp), HS2.out⟩
                  case measure => simp [intOf]; omega
              · obtain rfl : k = 3 := by omega
                have hall3 : tl.all digB = true := by rwa [List.take_of_length_le (by have := HTL.out; omega)] at hall
                have hfin := HFIN.out hall3
                rw [hfin.1]
                obtain ⟨hlt, hval⟩ := hfin.2
                obtain ⟨q, hq⟩ : ∃ q, q = decV pd := ⟨_, rfl⟩
                rw [← hq] at hlt hval ⊢
                have hc01 := HC01.out
                obtain ⟨m, hm⟩ : ∃ m, m = c.toNat - 48 := ⟨_, rfl⟩
                rw [← hm] at hc01 hval ⊢
                have HVAL := hide hval
                clear hfin hval hall hall3 hq hm
                by_cases hg : 1000 < m * 1000 + q
                · go_wp2
                  go_ret2
                  exact ⟨by rw [HVAL.out, if_pos hg] <;> rfl, rfl⟩
                · go_wp2
                  go_ret2
                  exact ⟨by rw [HVAL.out, if_neg hg] <;> rfl, rfl⟩
      · have hv' : v = (0, false) := by rw [hv, if_neg]; exact fun h => hc h.1
        have hn8 : ((c.toNat : Int) != 48) = true := by
          simp; intro h; exact hc (.inl (UInt8.toNat_inj.1 (by simpa using (by omega : c.toNat = 48))))
        have hn9 : ((c.toNat : Int) != 49) = true := by
          simp; intro h; exact hc (.inr (UInt8.toNat_inj.1 (by simpa using (by omega : c.toNat = 49))))
        have HV := hide hv'
        clear hv hv' hsz hg0 hcr hrl hc
        go_enter Tryd.func52, Tryd.ntmps52
        go_wp2
        go_ret2
        exact ⟨by rw [HV.out] <;> rfl, rfl⟩
end Go.Proofs.YtmijkefdnfmpiaaDoor
