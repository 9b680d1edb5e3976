/- The reference's fields: lines as fields. -/
import Derived.Test.YtdpcncpfbaigeaaDoorHeadSpec
import Derived.Test.YtdpcncpfbaigeaaDoorBox
import Derived.Test.YtdpcncpfbaigeaaDoorRefName
import Derived.Test.YtdpcncpfbaigeaaDoorCalm
import Derived.Test.YtdpcncpfbaigeaaDoorSets
import Derived.Deep.RegionHeld3
import Derived.OwnWalk
namespace Go.Proofs.YtdpcncpfbaigeaaDoor
open Go.RowKit
set_option linter.unusedVariables false
set_option linter.unusedSimpArgs false

def rfL (ls : List (List UInt8)) : List (List UInt8 × List UInt8) := if ls.all lineOk then ls.map lineF else []
theorem trimL_len0 (l : List UInt8) : (trimL l).length ≤ l.length := by
  show ((l.reverse.dropWhile blankB).reverse.dropWhile blankB).length ≤ _
  have h1 := (List.dropWhile_suffix blankB (l := l.reverse)).length_le
  have h2 := (List.dropWhile_suffix blankB (l := (l.reverse.dropWhile blankB).reverse)).length_le
  simp only [List.length_reverse] at h1 h2
  omega
theorem cutHead_at {b : UInt8} {l : List UInt8} {k : Nat} (hk : k ≤ l.length) (hn : ∀ i (hi : i < l.length), i < k → l[i] ≠ b) (he : ∀ hi : k < l.length, l[k] = b) : (cutHead b l).length = k := by
  induction l generalizing k with
  | nil => simp at hk; subst hk; rfl
  | cons c l ih =>
    rw [cutHead_cons]
    rcases k with _ | k
    · have := he (by simp); simp only [List.getElem_cons_zero] at this
      rw [if_pos (by simp [this])]; rfl
    · have h0 := hn 0 (by simp) (by omega)
      simp only [List.getElem_cons_zero] at h0
      rw [if_neg (by simp [h0]), List.length_cons]
      congr 1
      exact ih (by simpa using hk) (fun i hi hik => by have := hn (i + 1) (by simp; omega) (by omega); simpa using this) (fun hi => by have := he (by simp; omega); simpa using this)
set_option maxRecDepth 100000 in
set_option maxHeartbeats 6400000 in
theorem reffields_any (A : Option Addr) (n c B : Nat) (ls : List (List UInt8)) (w : World) (h : Rd w B 1 A n (scells ls)) (hB : B ≤ w.heap.size) (hn : n ≤ 100000) (hsz : ∀ l ∈ ls, l.length ≤ 100000) :
    Calls Tryd.prog 30 #[.slice A n c] w fun e w' => ∃ A' c', e = .returned (.tuple #[.slice A' (rfL ls).length c', .bool (ls.all lineOk)]) ∧ w'.ownsRow w.heap.size 62 2 (.slice A' (rfL ls).length c') (rfL ls).length (fcells (rfL ls)) ∧ Below w.heap.size w w' := by
  have hlen : ls.length = n := by have := h.1; rw [scells_length] at this; omega
  obtain ⟨i0, hi0, hz0, hz1, hz2⟩ := info_parts infoFld
  obtain ⟨g, hg⟩ : ∃ g, w.heap.size = g := ⟨_, rfl⟩
  obtain ⟨RL, hRL⟩ : ∃ x, x = rfL ls := ⟨_, rfl⟩
  obtain ⟨RB, hRB⟩ : ∃ x, x = ls.all lineOk := ⟨_, rfl⟩
  rw [← hRL, ← hRB]
  have HRL := hide hRL
  have HRB := hide hRB
  have HSZ := hide hsz
  have HL := hide hlen
  clear hRL hRB hsz
  rw [hg]
  go_enter Tryd.func30, Tryd.ntmps30
  go_wp2_with fail
  have BAD : Hid (∀ x ∈ ls, lineOk x = false → RB = false ∧ RL = []) := hide fun x hx hb => by
    have : ls.all lineOk = false := by
      rw [List.all_eq_false]; exact ⟨x, hx, by rw [hb]; decide⟩
    exact ⟨by rw [HRB.out, this], by rw [HRL.out]; unfold rfL; rw [this]; rfl⟩
  go_loopw [4, 5] (fun o i wr => ∃ j : Nat, j ≤ n ∧ i = .int .i64 j ∧ (ls.take j).all lineOk = true ∧ wr.ownsRow g 62 2 o j (fcells ((ls.take j).map lineF)) ∧ Below g w wr) (fun _ i _ => n - (intOf i).toNat)
  case atStart => exact ⟨0, Nat.zero_le _, rfl, rfl, World.ownsRow_nil _ _ _ _, Below.refl _ _⟩
  case round =>
    obtain ⟨j, hj, rfl, hall, hown, hb⟩ := hrel
    obtain ⟨wo, hwo⟩ : ∃ wo, wo = wr := ⟨_, rfl⟩
    subst hwo
    have hgz : g ≤ wo.heap.size := hg ▸ hb.size
    have HALL := hide hall
    clear hall
    have hr := h.below (hb.mono (by omega))
    by_cases hlt : j < n
    · have hjl : j < ls.length := by omega
      obtain ⟨a, hAa, hab, hcell⟩ := hr.text hlt hjl
      subst hAa
      have htk := list_take_snoc ls j hjl
      have hmem : ls[j] ∈ ls := List.getElem_mem hjl
      obtain ⟨l, hl⟩ : ∃ l, l = ls[j] := ⟨_, rfl⟩
      rw [← hl] at hcell htk hmem
      have hll := HSZ.out l hmem
      have HBAD := hide (BAD.out l hmem)
      have HTK := hide htk
      obtain ⟨s, hs⟩ : ∃ s : ByteArray, s = ⟨l.toArray⟩ := ⟨_, rfl⟩
      rw [← hs] at hcell
      have hsl : s.data.toList = l := by rw [hs]
      have hss : s.size = l.length := by rw [size_of, hsl]
      have hget : ∀ (i : Nat) (hi : i < s.size) (hj : i < l.length), s[i] = l[i] := fun i hi hj => by subst hs; rfl
      have HS := hide hs
      have HSL := hide hsl
      have HGET := hide hget
      have hs63 : s.size ≤ 100000 := by omega
      have HSS := hide hss
      clear hl htk hmem hs hsl hr BAD hss hget
      obtain ⟨A2, c2, rfl, -⟩ := own_shape hown
      go_wp2_with fail
      go_loopw [6] (fun i wx => ∃ k : Nat, k ≤ s.size ∧ i = .int .i64 k ∧ (∀ i (hi : i < l.length), i < k → l[i] ≠ 58) ∧ wx = wo) (fun i _ => s.size - (intOf i).toNat)
      case atStart => exact ⟨0, Nat.zero_le _, rfl, fun i _ h => absurd h (Nat.not_lt_zero _), rfl⟩
      case round =>
        obtain ⟨k, hk, rfl, hno, hww⟩ := hrel
        obtain rfl : wo = wr := hww.symm
        have HNO := hide hno
        clear hno
        by_cases hks : k < s.size
        · have hks' : (k : Int) < (s.size : Int) := by omega
          have hg1 := HGET.out k hks (by have := HSS.out; omega)
          obtain ⟨b, hbb⟩ : ∃ b, s[k] = b := ⟨_, rfl⟩
          rw [hbb] at hg1
          by_cases h58 : b = 58
          · have hx : ((b.toNat : Int) != 58) = false := by subst h58; rfl
            have hcl := cutHead_at (b := 58) (l := l) (k := k) (by have := HSS.out; omega) HNO.out (fun hi => by rw [← hg1, h58])
            have hHas : cutHas 58 l = true := by unfold cutHas; rw [hcl]; simp; have := HSS.out; omega
            have hne : ¬ (k : Int) = (s.size : Int) := by omega
            have heq : ((k : Int) == (s.size : Int)) = false := by rw [beq_eq_false_iff_ne]; omega
            have hnm : (s.extract 0 k).data.toList = cutHead 58 l := by
              rw [show (s.extract 0 k).data.toList = s.data.toList.take k by simp, HSL.out, ← hcl, cutHead_take]
            have hvl : (s.extract (k + 1) s.size).data.toList = cutTail 58 l := by
              rw [show (s.extract (k + 1) s.size).data.toList = s.data.toList.drop (k + 1) by simp; exact List.take_of_length_le (by rw [List.length_drop, ← size_of]; exact Nat.le_refl _), HSL.out]; unfold cutTail; rw [hcl]
            have q1 := fun W => reftrim_any (s.extract (k + 1) s.size) W (by rw [ByteArray.size_extract]; omega)
            rw [hvl] at q1
            obtain ⟨tv, htv⟩ : ∃ tv : ByteArray, tv = ⟨(trimL (cutTail 58 l)).toArray⟩ := ⟨_, rfl⟩
            simp only [← htv] at q1
            have q2 := fun W => refname_any (s.extract 0 k) W (by rw [ByteArray.size_extract]; omega)
            rw [hnm] at q2
            have htl : (trimL (cutTail 58 l)).length ≤ l.length := by
              have h1 := trimL_len0 (cutTail 58 l)
              have h2 : (cutTail 58 l).length ≤ l.length := by unfold cutTail; simp
              omega
            have q3 := fun W => refvalue_any tv W (by rw [htv, mk_size]; omega)
            have htv2 : tv.data.toList = trimL (cutTail 58 l) := by rw [htv]
            rw [htv2] at q3
            have hok : lineOk l = (goodNameL (cutHead 58 l) && goodValueL (trimL (cutTail 58 l))) := by unfold lineOk; rw [hHas]; rfl
            have hlf : fcells [lineF l] = [.string (s.extract 0 k), .string tv] := by
              show [Value.string ⟨(cutHead 58 l).toArray⟩, .string ⟨(trimL (cutTail 58 l)).toArray⟩] = _
              rw [← htv, ← hnm, bytes_of]
            obtain ⟨gn, hgn⟩ : ∃ x, x = goodNameL (cutHead 58 l) := ⟨_, rfl⟩
            obtain ⟨gv, hgv⟩ : ∃ x, x = goodValueL (trimL (cutTail 58 l)) := ⟨_, rfl⟩
            simp only [← hgn] at q2 hok
            simp only [← hgv] at q3 hok
            have hw1 : IntKind.i64.wrap ((k : Int) + 1) = ((k : Int) + 1) := by rw [IntKind.wrap_i64]; omega
            have hle1 : (k : Int) + 1 ≤ (s.size : Int) := by omega
            have hk0 : (0 : Int) ≤ (k : Int) + 1 := by omega
            have HOK := hide hok
            have HLF := hide hlf
            clear hcl hHas hnm hvl htv htv2 htl hgn hgv hg1 h58 hok hlf
            have hd0 : wo.drew.cell? (a.add j) = some (.string s) ∧ Below wo.heap.size wo wo.drew := ⟨hcell, (Below.refl _ _).drew⟩
            obtain ⟨gb, hgb⟩ : ∃ gb, gb = wo.heap.size := ⟨_, rfl⟩
            have hab' : (a.add j).block < wo.heap.size := World.block_lt_of_cell? wo _ hcell
            have b1 : Below wo.heap.size wo (wo.alloc (.cells #[.string ⟨#[]⟩, .string ⟨#[]⟩] 62)).drew := ((Below.refl _ _).alloc (Nat.le_refl _) _).drew
            have hd1 : (wo.alloc (.cells #[.string ⟨#[]⟩, .string ⟨#[]⟩] 62)).drew.cell? (a.add j) = some (.string s) ∧ Below wo.heap.size wo (wo.alloc (.cells #[.string ⟨#[]⟩, .string ⟨#[]⟩] 62)).drew := ⟨(b1.cell (p := a.add j) hab').trans hcell, b1⟩
            have b2 : Below wo.heap.size wo (wo.alloc (.cells #[.string (s.extract 0 k), .string tv] 62)).drew := ((Below.refl _ _).alloc (Nat.le_refl _) _).drew
            have hd2 : (wo.alloc (.cells #[.string (s.extract 0 k), .string tv] 62)).drew.cell? (a.add j) = some (.string s) ∧ Below wo.heap.size wo (wo.alloc (.cells #[.string (s.extract 0 k), .string tv] 62)).drew := ⟨(b2.cell (p := a.add j) hab').trans hcell, b2⟩
            have bx : Box (wo.alloc (.cells #[.string (s.extract 0 k), .string tv] 62)).drew wo.heap.size [.string (s.extract 0 k), .string tv] := Box.new wo #[.string (s.extract 0 k), .string tv] 62
            go_upto_region 10 with (fail)
            refine CalmP.hideN (fun K0 hQ => ?_)
            refine wp_region_held_drew (S := (fun W : World => W.cell? (a.add j) = some (.string s) ∧ Below wo.heap.size wo W)) (by kernel_rfl) hd0 (fun hHeld => ?_)
            refine wpAnyH_take (i := 0) (v := ?_) rfl (by kernel_rfl) (by kernel_rfl) (by kernel_rfl) CalmP.onlyN_panic (Or.inl ⟨by kernel_rfl, ?_⟩) (by assumption) ?_
            rotate_left
            · (intro w_ hSw; (try dsimp only at hSw); go_simp; try with_reducible rfl)
            try simp only [Act.put, List.setIfInBounds_toArray, List.set_cons_zero, List.set_cons_succ]
            refine wpAnyH_take (i := 1) (v := ?_) rfl (by kernel_rfl) (by kernel_rfl) (by kernel_rfl) CalmP.onlyN_panic (Or.inl ⟨by kernel_rfl, ?_⟩) (by assumption) ?_
            rotate_left
            · (intro w_ hSw; (try dsimp only at hSw); go_simp; try with_reducible rfl)
            try simp only [Act.put, List.setIfInBounds_toArray, List.set_cons_zero, List.set_cons_succ]
            refine wpAnyH_take (i := 2) (v := ?_) rfl (by kernel_rfl) (by kernel_rfl) (by kernel_rfl) CalmP.onlyN_panic (Or.inl ⟨by kernel_rfl, ?_⟩) (by assumption) ?_
            rotate_left
            · (intro w_ hSw; (try dsimp only at hSw); go_simp; try with_reducible rfl)
            try simp only [Act.put, List.setIfInBounds_toArray, List.set_cons_zero, List.set_cons_succ]
            refine wpAnyH_take (i := 3) (v := ?_) rfl (by kernel_rfl) (by kernel_rfl) (by kernel_rfl) CalmP.onlyN_panic (Or.inl ⟨by kernel_rfl, ?_⟩) (by assumption) ?_
            rotate_left
            · (intro w_ hSw; (try dsimp only at hSw); go_simp; try with_reducible rfl)
            try simp only [Act.put, List.setIfInBounds_toArray, List.set_cons_zero, List.set_cons_succ]
            refine wpAnyH_take (i := 4) (v := ?_) rfl (by kernel_rfl) (by kernel_rfl) (by kernel_rfl) CalmP.onlyN_panic (Or.inl ⟨by kernel_rfl, ?_⟩) (by assumption) ?_
            rotate_left
            · (intro w_ hSw; (try dsimp only at hSw); go_simp; try with_reducible rfl)
            try simp only [Act.put, List.setIfInBounds_toArray, List.set_cons_zero, List.set_cons_succ]
            refine wpAnyH_take (i := 5) (v := ?_) rfl (by kernel_rfl) (by kernel_rfl) (by kernel_rfl) CalmP.onlyN_panic (Or.inl ⟨by kernel_rfl, ?_⟩) (by assumption) ?_
            rotate_left
            · (intro w_ hSw; (try dsimp only at hSw); go_simp; try with_reducible rfl)
            try simp only [Act.put, List.setIfInBounds_toArray, List.set_cons_zero, List.set_cons_succ]
            refine wpAnyH_take (i := 6) (v := ?_) rfl (by kernel_rfl) (by kernel_rfl) (by kernel_rfl) CalmP.onlyN_panic (Or.inl ⟨by kernel_rfl, ?_⟩) (by assumption) ?_
            rotate_left
            · (intro w_ hSw; (try dsimp only at hSw); go_simp; try with_reducible rfl)
            try simp only [Act.put, List.setIfInBounds_toArray, List.set_cons_zero, List.set_cons_succ]
            refine wpAnyH_take (i := 7) (v := ?_) rfl (by kernel_rfl) (by kernel_rfl) (by kernel_rfl) CalmP.onlyN_panic (Or.inl ⟨by kernel_rfl, ?_⟩) (by assumption) ?_
            rotate_left
            · (intro w_ hSw; (try dsimp only at hSw); go_simp; try with_reducible rfl)
            try simp only [Act.put, List.setIfInBounds_toArray, List.set_cons_zero, List.set_cons_succ]
            refine wpAnyH_take (i := 8) (v := ?_) rfl (by kernel_rfl) (by kernel_rfl) (by kernel_rfl) CalmP.onlyN_panic (Or.inl ⟨by kernel_rfl, ?_⟩) (by assumption) ?_
            rotate_left
            · (intro w_ hSw; (try dsimp only at hSw); go_simp; try with_reducible rfl)
            try simp only [Act.put, List.setIfInBounds_toArray, List.set_cons_zero, List.set_cons_succ]
            refine wpAnyH_take (i := 9) (v := ?_) rfl (by kernel_rfl) (by kernel_rfl) (by kernel_rfl) CalmP.onlyN_panic (Or.inl ⟨by kernel_rfl, ?_⟩) (by assumption) ?_
            rotate_left
            · (intro w_ hSw; (try dsimp only at hSw); go_simp; try with_reducible rfl)
            try simp only [Act.put, List.setIfInBounds_toArray, List.set_cons_zero, List.set_cons_succ]
            refine wpAnyH_take (i := 10) (v := ?_) rfl (by kernel_rfl) (by kernel_rfl) (by kernel_rfl) CalmP.onlyN_panic (Or.inl ⟨by kernel_rfl, ?_⟩) (by assumption) ?_
            rotate_left
            · (intro w_ hSw; (try dsimp only at hSw); go_simp; try with_reducible rfl)
            try simp only [Act.put, List.setIfInBounds_toArray, List.set_cons_zero, List.set_cons_succ]
            refine wpAnyH_take (i := 11) (v := ?_) rfl (by kernel_rfl) (by kernel_rfl) (by kernel_rfl) CalmP.onlyN_panic (Or.inl ⟨by kernel_rfl, ?_⟩) (by assumption) ?_
            rotate_left
            · (intro w_ hSw; (try dsimp only at hSw); go_simp; try with_reducible rfl)
            try simp only [Act.put, List.setIfInBounds_toArray, List.set_cons_zero, List.set_cons_succ]
            refine wpAnyH_take (i := 12) (v := ?_) rfl (by kernel_rfl) (by kernel_rfl) (by kernel_rfl) CalmP.onlyN_panic (Or.inl ⟨by kernel_rfl, ?_⟩) (by assumption) ?_
            rotate_left
            · (intro w_ hSw; (try dsimp only at hSw); go_simp; try with_reducible rfl)
            try simp only [Act.put, List.setIfInBounds_toArray, List.set_cons_zero, List.set_cons_succ]
            refine CalmP.take_calm (i := 13) (v := .string tv) rfl (by kernel_rfl) (by kernel_rfl) (by kernel_rfl) CalmP.onlyN_panic (Or.inl ⟨by kernel_rfl, ?_⟩) (by assumption) ?_
            · (intro w_ hSw; (try dsimp only at hSw); go_simp; exact (q1 w_).mono (fun e w' h => ⟨h.1, h.2.symm⟩))
            try simp only [Act.put, List.setIfInBounds_toArray, List.set_cons_zero, List.set_cons_succ]
            refine wpAnyH_take (i := 14) (v := ?_) rfl (by kernel_rfl) (by kernel_rfl) (by kernel_rfl) CalmP.onlyN_panic (Or.inl ⟨by kernel_rfl, ?_⟩) (by assumption) ?_
            rotate_left
            · (intro w_ hSw; (try dsimp only at hSw); go_simp; try with_reducible rfl)
            try simp only [Act.put, List.setIfInBounds_toArray, List.set_cons_zero, List.set_cons_succ]
            refine wpAnyH_ready (rs := [15]) (by kernel_rfl) (by simp) ?_
            refine AllReadyH.cons rfl (fun K_ hK => ?_) AllReadyH.nil
            go_simp
            refine hK.out _ _ hd1 (fun hHeld => ?_)
            clear hK K_
            try simp only [Act.put, List.setIfInBounds_toArray, List.set_cons_zero, List.set_cons_succ]
            refine wpAnyH_ready (rs := [16]) (by kernel_rfl) (by simp) ?_
            refine AllReadyH.cons rfl (fun K_ hK => ?_) AllReadyH.nil
            go_simp
            refine hK.out _ _ hd2 (fun hHeld => ?_)
            clear hK K_
            try simp only [Act.put, List.setIfInBounds_toArray, List.set_cons_zero, List.set_cons_succ]
            refine wpAnyH_done (by kernel_rfl) ?_ _
            refine CalmP.onlyN_here (hQ.out _ _ ?_)
            clear hQ K0
            clear hd0 hd1 hd2 b1 hHeld
            generalize (wo.alloc (.cells #[.string (s.extract 0 k), .string tv] 62)).drew = w4 at b2 bx ⊢
            obtain ⟨gq, hgq⟩ : ∃ gq, wo.heap.size = gq := ⟨_, rfl⟩
            have hz4 := b2.size
            have own4 := own_below hown b2
            have t4 := hb.trans (b2.mono hgz)
            rw [hgq] at bx hgz hz4
            have hz5 : g ≤ w4.heap.size := by omega
            obtain ⟨k0, k1⟩ := bx.two
            clear hown b2 q1 hcell bx hgb
            rw [hgq]
            clear hgq
            rcases gn with _ | _
            · obtain ⟨rfl, rfl⟩ := HBAD.out HOK.out
              go_wp2_with fail
              refine (q2 w4).mono ?_
              rintro e w5 ⟨rfl, rfl⟩
              go_wp2_with fail
              go_ret2
              exact ⟨none, 0, rfl, World.ownsRow_nil _ _ _ _, t4⟩
            · rcases gv with _ | _
              · obtain ⟨rfl, rfl⟩ := HBAD.out HOK.out
                go_wp2_with fail
                refine (q2 w4).mono ?_
                rintro e w5 ⟨rfl, rfl⟩
                go_wp2_with fail
                refine (q3 w4).mono ?_
                rintro e w5 ⟨rfl, rfl⟩
                go_wp2_with fail
                go_ret2
                exact ⟨none, 0, rfl, World.ownsRow_nil _ _ _ _, t4⟩
              · have e1 : fcells ((ls.take (j + 1)).map lineF) = fcells ((ls.take j).map lineF) ++ [.string (s.extract 0 k), .string tv] := by
                  rw [HTK.out, List.map_append, ← fcells_append, ← HLF.out]; rfl
                have e2 : (ls.take (j + 1)).all lineOk = true := by
                  rw [HTK.out, List.all_append, HALL.out, List.all_cons, HOK.out]; rfl
                have E1 := hide e1
                have E2 := hide e2
                clear e1 e2
                go_wp2_with fail
                refine (q2 w4).mono ?_
                rintro e w5 ⟨rfl, rfl⟩
                go_wp2_with fail
                refine (q3 w4).mono ?_
                rintro e w5 ⟨rfl, rfl⟩
                go_wp2_with (at_builtin; refine wpl_push rfl _ _ _ rfl g i0 _ 2 32 Tryd.underlying54 hi0 hz0 hz1 hz2 rfl (by omega) _ _ _ rfl _ rfl own4 rfl (by simp [Value.oneCell']) (by unfold maxLen; omega) (by omega) hz5 ?_; intro v1 w6 hown1 hbel1 _)
                go_roundw
                case rel => exact ⟨j + 1, by omega, by go_num, E2.out, by rw [E1.out]; exact hown1, t4.trans hbel1⟩
                case measure => simp [intOf]; omega
          · have hx : ((b.toNat : Int) != 58) = true := by
              rw [bne_iff_ne]; intro e; apply h58; apply UInt8.toNat_inj.1; simp; omega
            have hno2 : ∀ i (hi : i < l.length), i < k + 1 → l[i] ≠ 58 := fun i hi hik => by
              rcases Nat.lt_or_ge i k with h1 | h1
              · exact HNO.out i hi h1
              · obtain rfl : i = k := by omega
                rw [← hg1]; exact h58
            have HNO2 := hide hno2
            clear hno2 h58 hg1
            go_wp2_with fail
            go_roundw
            case rel => exact ⟨k + 1, by omega, by go_num, HNO2.out, by first | rfl | trivial⟩
            case measure => simp [intOf]; omega
        · have hks' : ¬ (k : Int) < (s.size : Int) := by omega
          have heq : ((k : Int) == (s.size : Int)) = true := by rw [beq_iff_eq]; omega
          have heq' : (k : Int) = (s.size : Int) := by omega
          have hcl := cutHead_at (b := 58) (l := l) (k := k) (by have := HSS.out; omega) HNO.out (fun hi => by have := HSS.out; omega)
          have hbad : lineOk l = false := by
            unfold lineOk cutHas; rw [hcl, decide_eq_false (by have := HSS.out; omega)]; rfl
          obtain ⟨rfl, rfl⟩ := HBAD.out hbad
          clear hcl hbad
          go_wp2_with fail
          go_ret2
          exact ⟨none, 0, rfl, World.ownsRow_nil _ _ _ _, hb⟩
    · obtain rfl : j = n := by omega
      have hta : ls.take j = ls := List.take_of_length_le (by omega)
      have hal : ls.all lineOk = true := by have := HALL.out; rwa [hta] at this
      rw [hta] at hown
      obtain rfl : RB = true := by rw [HRB.out, hal]
      have hRE : RL = ls.map lineF := by rw [HRL.out]; unfold rfL; rw [if_pos hal]
      have hll : (ls.map lineF).length = j := by rw [List.length_map, HL.out]
      rw [← hRE] at hown hll
      obtain ⟨A2, c2, rfl, -⟩ := own_shape hown
      have HLL := hide hll
      clear hll hRE hta hal hr hlt BAD HRL HRB
      go_wp2_with fail
      go_ret2
      rw [HLL.out]
      exact ⟨_, _, rfl, hown, hb⟩
end Go.Proofs.YtdpcncpfbaigeaaDoor
