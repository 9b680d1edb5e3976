/- The reference's fields: lines as fields. -/
import Derived.Test.YtijlaclngibekaaGreatDoorKTextsG
import Derived.Test.YtijlaclngibekaaGreatDoorKBoxG
import Derived.Test.YtijlaclngibekaaGreatDoorKRefName
import Derived.Test.YtijlaclngibekaaGreatDoorKCalm
import Derived.Test.YtijlaclngibekaaGreatDoorKHasG
import Derived.Deep.RegionHeld3
import Derived.OwnWalk
import Derived.Test.YtijlaclngibekaaGreatDoorKPrintG
import Derived.Test.YtijlaclngibekaaGreatDoorKRefLines
import Derived.Test.YtijlaclngibekaaGreatDoorKRefWords
import Derived.Test.YtijlaclngibekaaGreatDoorKTurnedG
import Derived.Test.YtijlaclngibekaaGreatDoorKBase
namespace Go.Proofs.YtijlaclngibekaaGreatDoor
open Go.RowKit
set_option linter.unusedVariables false
set_option linter.unusedSimpArgs false

def rfL (ls : List (List UInt8)) : List (List UInt8 × List UInt8) := if ls.all lineOk then ls.map lineF else []
theorem trimL_len0 (l : List UInt8) : (trimL l).length ≤ l.length := by
  show ((l.reverse.dropWhile blankB).reverse.dropWhile blankB).length ≤ _
  have h1 := (List.dropWhile_suffix blankB (l := l.reverse)).length_le
  have h2 := (List.dropWhile_suffix blankB (l := (l.reverse.dropWhile blankB).reverse)).length_le
  simp only [List.length_reverse] at h1 h2
  omega
theorem cutHead_at {b : UInt8} {l : List UInt8} {k : Nat} (hk : k ≤ l.length) (hn : ∀ i (hi : i < l.length), i < k → l[i] ≠ b) (he : ∀ hi : k < l.length, l[k] = b) : (cutHead b l).length = k := by
  induction l generalizing k with
  | nil => simp at hk; subst hk; rfl
  | cons c l ih =>
    rw [cutHead_cons]
    rcases k with _ | k
    · have := he (by simp); simp only [List.getElem_cons_zero] at this
      rw [if_pos (by simp [this])]; rfl
    · have h0 := hn 0 (by simp) (by omega)
      simp only [List.getElem_cons_zero] at h0
      rw [if_neg (by simp [h0]), List.length_cons]
      congr 1
      exact ih (by simpa using hk) (fun i hi hik => by have := hn (i + 1) (by simp; omega) (by omega); simpa using this) (fun hi => by have := he (by simp; omega); simpa using this)
set_option maxRecDepth 100000 in
set_option maxHeartbeats 6400000 in
theorem reffields_any (A : Option Addr) (n c B : Nat) (ls : List (List UInt8)) (w : World) (h : Rd w B 1 A n (scells ls)) (hB : B ≤ w.heap.size) (hn : n ≤ 100000) (hsz : ∀ l ∈ ls, l.length ≤ 100000) :
    Calls Tryz.prog 37 #[.slice A n c] w fun e w' => ∃ A' c', e = .returned (.tuple #[.slice A' (rfL ls).length c', .bool (ls.all lineOk)]) ∧ w'.ownsRow w.heap.size 110 2 (.slice A' (rfL ls).length c') (rfL ls).length (fcells (rfL ls)) ∧ Below w.heap.size w w' := by
  have hlen : ls.length = n := by have := h.1; rw [scells_length] at this; omega
  obtain ⟨i0, hi0, hz0, hz1, hz2⟩ := info_parts infoFld
  obtain ⟨g, hg⟩ : ∃ g, w.heap.size = g := ⟨_, rfl⟩
  obtain ⟨RL, hRL⟩ : ∃ x, x = rfL ls := ⟨_, rfl⟩
  obtain ⟨RB, hRB⟩ : ∃ x, x = ls.all lineOk := ⟨_, rfl⟩
  rw [← hRL, ← hRB]
  have HRL := hide hRL
  have HRB := hide hRB
  have HSZ := hide hsz
  have HL := hide hlen
  clear hRL hRB hsz
  rw [hg]
  go_enter Tryz.func37, Tryz.ntmps37
  go_wp2_with fail
  have BAD : Hid (∀ x ∈ ls, lineOk x = false → RB = false ∧ RL = []) := hide fun x hx hb => by
    have : ls.all lineOk = false := by
      rw [List.all_eq_false]; exact ⟨x, hx, by rw [hb]; decide⟩
    exact ⟨by rw [HRB.out, this], by rw [HRL.out]; unfold rfL; rw [this]; rfl⟩
  go_loopw [4, 5] (fun o i wr => ∃ j : Nat, j ≤ n ∧ i = .int .i64 j ∧ (ls.take j).all lineOk = true ∧ wr.ownsRow g 110 2 o j (fcells ((ls.take j).map lineF)) ∧ Below g w wr) (fun _ i _ => n - (intOf i).toNat)
  case atStart => exact ⟨0, Nat.zero_le _, rfl, rfl, World.ownsRow_nil _ _ _ _, Below.refl _ _⟩
  case round =>
    obtain ⟨j, hj, rfl, hall, hown, hb⟩ := hrel
    obtain ⟨wo, hwo⟩ : ∃ wo, wo = wr := ⟨_, rfl⟩
    subst hwo
    have hgz : g ≤ wo.heap.size := hg ▸ hb.size
    have HALL := hide hall
    clear hall
    have hr := h.below (hb.mono (by omega))
    by_cases hlt : j < n
    · have hjl : j < ls.length := by omega
      obtain ⟨a, hAa, hab, hcell⟩ := hr.text hlt hjl
      subst hAa
      have htk := list_take_snoc ls j hjl
      have hmem : ls[j] ∈ ls := List.getElem_mem hjl
      obtain ⟨l, hl⟩ : ∃ l, l = ls[j] := ⟨_, rfl⟩
      rw [← hl] at hcell htk hmem
      have hll := HSZ.out l hmem
      have HBAD := hide (BAD.out l hmem)
      have HTK := hide htk
      obtain ⟨s, hs⟩ : ∃ s : ByteArray, s = ⟨l.toArray⟩ := ⟨_, rfl⟩
      rw [← hs] at hcell
      have hsl : s.data.toList = l := by rw [hs]
      have hss : s.size = l.length := by rw [size_of, hsl]
      have hget : ∀ (i : Nat) (hi : i < s.size) (hj : i < l.length), s[i] = l[i] := fun i hi hj => by subst hs; rfl
      have HS := hide hs
      have HSL := hide hsl
      have HGET := hide hget
      have hs63 : s.size ≤ 100000 := by omega
      have HSS := hide hss
      clear hl htk hmem hs hsl hr BAD hss hget
      obtain ⟨A2, c2, rfl, -⟩ := own_shape hown
      go_wp2_with fail
      go_loopw [6] (fun i wx => ∃ k : Nat, k ≤ s.size ∧ i = .int .i64 k ∧ (∀ i (hi : i < l.length), i < k → l[i] ≠ 58) ∧ wx = wo) (fun i _ => s.size - (intOf i).toNat)
      case atStart => exact ⟨0, Nat.zero_le _, rfl, fun i _ h => absurd h (Nat.not_lt_zero _), rfl⟩
      case round =>
        obtain ⟨k, hk, rfl, hno, hww⟩ := hrel
        obtain rfl : wo = wr := hww.symm
        have HNO := hide hno
        clear hno
        by_cases hks : k < s.size
        · have hks' : (k : Int) < (s.size : Int) := by omega
          have hg1 := HGET.out k hks (by have := HSS.out; omega)
          obtain ⟨b, hbb⟩ : ∃ b, s[k] = b := ⟨_, rfl⟩
          rw [hbb] at hg1
          by_cases h58 : b = 58
          · have hx : ((b.toNat : Int) != 58) = false := by subst h58; rfl
            have hcl := cutHead_at (b := 58) (l := l) (k := k) (by have := HSS.out; omega) HNO.out (fun hi => by rw [← hg1, h58])
            have hHas : cutHas 58 l = true := by unfold cutHas; rw [hcl]; simp; have := HSS.out; omega
            have hne : ¬ (k : Int) = (s.size : Int) := by omega
            have heq : ((k : Int) == (s.size : Int)) = false := by rw [beq_eq_false_iff_ne]; omega
            have hnm : (s.extract 0 k).data.toList = cutHead 58 l := by
              rw [show (s.extract 0 k).data.toList = s.data.toList.take k by simp, HSL.out, ← hcl, cutHead_take]
            have hvl : (s.extract (k + 1) s.size).data.toList = cutTail 58 l := by
              rw [show (s.extract (k + 1) s.size).data.toList = s.data.toList.drop (k + 1) by simp; exact List.take_of_length_le (by rw [List.length_drop, ← size_of]; exact Nat.le_refl _), HSL.out]; unfold cutTail; rw [hcl]
            have q1 := fun W => reftrim_any (s.extract (k + 1) s.size) W (by rw [ByteArray.size_extract]; omega)
            rw [hvl] at q1
            obtain ⟨tv, htv⟩ : ∃ tv : ByteArray, tv = ⟨(trimL (cutTail 58 l)).toArray⟩ := ⟨_, rfl⟩
            simp only [← htv] at q1
            have q2 := fun W => refname_any (s.extract 0 k) W (by rw [ByteArray.size_extract]; omega)
            rw [hnm] at q2
            have htl : (trimL (cutTail 58 l)).length ≤ l.length := by
              have h1 := trimL_len0 (cutTail 58 l)
              have h2 : (cutTail 58 l).length ≤ l.length := by unfold cutTail; simp
              omega
            have q3 := fun W => refvalue_any tv W (by rw [htv, mk_size]; omega)
            have htv2 : tv.data.toList = trimL (cutTail 58 l) := by rw [htv]
            rw [htv2] at q3
            have hok : lineOk l = (goodNameL (cutHead 58 l) && goodValueL (trimL (cutTail 58 l))) := by unfold lineOk; rw [hHas]; rfl
            have hlf : fcells [lineF l] = [.string (s.extract 0 k), .string tv] := by
              show [Value.string ⟨(cutHead 58 l).toArray⟩, .string ⟨(trimL (cutTail 58 l)).toArray⟩] = _
              rw [← htv, ← hnm, bytes_of]
            obtain ⟨gn, hgn⟩ : ∃ x, x = goodNameL (cutHead 58 l) := ⟨_, rfl⟩
            obtain ⟨gv, hgv⟩ : ∃ x, x = goodValueL (trimL (cutTail 58 l)) := ⟨_, rfl⟩
            simp only [← hgn] at q2 hok
            simp only [← hgv] at q3 hok
            have hw1 : IntKind.i64.wrap ((k : Int) + 1) = ((k : Int) + 1) := by rw [IntKind.wrap_i64]; omega
            have hle1 : (k : Int) + 1 ≤ (s.size : Int) := by omega
            have hk0 : (0 : Int) ≤ (k : Int) + 1 := by omega
            have HOK := hide hok
            have HLF := hide hlf
            clear hcl hHas hnm hvl htv htv2 htl hgn hgv hg1 h58 hok hlf
            have hd0 : wo.drew.cell? (a.add j) = some (.string s) ∧ Below wo.heap.size wo wo.drew := ⟨hcell, (Below.refl _ _).drew⟩
            obtain ⟨gb, hgb⟩ : ∃ gb, gb = wo.heap.size := ⟨_, rfl⟩
            have hab' : (a.add j).block < wo.heap.size := World.block_lt_of_cell? wo _ hcell
            have b1 : Below wo.heap.size wo (wo.alloc (.cells #[.string ⟨#[]⟩, .string ⟨#[]⟩] 110)).drew := ((Below.refl _ _).alloc (Nat.le_refl _) _).drew
            have hd1 : (wo.alloc (.cells #[.string ⟨#[]⟩, .string ⟨#[]⟩] 110)).drew.cell? (a.add j) = some (.string s) ∧ Below wo.heap.size wo (wo.alloc (.cells #[.string ⟨#[]⟩, .string ⟨#[]⟩] 110)).drew := ⟨(b1.cell (p := a.add j) hab').trans hcell, b1⟩
            have b2 : Below wo.heap.size wo (wo.alloc (.cells #[.string (s.extract 0 k), .string tv] 110)).drew := ((Below.refl _ _).alloc (Nat.le_refl _) _).drew
            have hd2 : (wo.alloc (.cells #[.string (s.extract 0 k), .string tv] 110)).drew.cell? (a.add j) = some (.string s) ∧ Below wo.heap.size wo (wo.alloc (.cells #[.string (s.extract 0 k), .string tv] 110)).drew := ⟨(b2.cell (p := a.add j) hab').trans hcell, b2⟩
            have bx : Box (wo.alloc (.cells #[.string (s.extract 0 k), .string tv] 110)).drew wo.heap.size [.string (s.extract 0 k), .string tv] := Box.new wo #[.string (s.extract 0 k), .string tv] 110
            go_upto_region 10 with (fail)
            refine CalmP.hideN (fun K0 hQ => ?_)
            refine wp_region_held_drew (S := (fun W : World => W.cell? (a.add j) = some (.string s) ∧ Below wo.heap.size wo W)) (by kernel_rfl) hd0 (fun hHeld => ?_)
            refine wpAnyH_take (i := 0) (v := ?_) rfl (by kernel_rfl) (by kernel_rfl) (by kernel_rfl) CalmP.onlyN_panic (Or.inl ⟨by kernel_rfl, ?_⟩) (by assumption) ?_
            rotate_left
            · (intro w_ hSw; (try dsimp only at hSw); go_simp; try with_reducible rfl)
            try simp only [Act.put, List.setIfInBounds_toArray, List.set_cons_zero, List.set_cons_succ]
            refine wpAnyH_take (i := 1) (v := ?_) rfl (by kernel_rfl) (by kernel_rfl) (by kernel_rfl) CalmP.onlyN_panic (Or.inl ⟨by kernel_rfl, ?_⟩) (by assumption) ?_
            rotate_left
            · (intro w_ hSw; (try dsimp only at hSw); go_simp; try with_reducible rfl)
            try simp only [Act.put, List.setIfInBounds_toArray, List.set_cons_zero, List.set_cons_succ]
            refine wpAnyH_take (i := 2) (v := ?_) rfl (by kernel_rfl) (by kernel_rfl) (by kernel_rfl) CalmP.onlyN_panic (Or.inl ⟨by kernel_rfl, ?_⟩) (by assumption) ?_
            rotate_left
            · (intro w_ hSw; (try dsimp only at hSw); go_simp; try with_reducible rfl)
            try simp only [Act.put, List.setIfInBounds_toArray, List.set_cons_zero, List.set_cons_succ]
            refine wpAnyH_take (i := 3) (v := ?_) rfl (by kernel_rfl) (by kernel_rfl) (by kernel_rfl) CalmP.onlyN_panic (Or.inl ⟨by kernel_rfl, ?_⟩) (by assumption) ?_
            rotate_left
            · (intro w_ hSw; (try dsimp only at hSw); go_simp; try with_reducible rfl)
            try simp only [Act.put, List.setIfInBounds_toArray, List.set_cons_zero, List.set_cons_succ]
            refine wpAnyH_take (i := 4) (v := ?_) rfl (by kernel_rfl) (by kernel_rfl) (by kernel_rfl) CalmP.onlyN_panic (Or.inl ⟨by kernel_rfl, ?_⟩) (by assumption) ?_
            rotate_left
            · (intro w_ hSw; (try dsimp only at hSw); go_simp; try with_reducible rfl)
            try simp only [Act.put, List.setIfInBounds_toArray, List.set_cons_zero, List.set_cons_succ]
            refine wpAnyH_take (i := 5) (v := ?_) rfl (by kernel_rfl) (by kernel_rfl) (by kernel_rfl) CalmP.onlyN_panic (Or.inl ⟨by kernel_rfl, ?_⟩) (by assumption) ?_
            rotate_left
            · (intro w_ hSw; (try dsimp only at hSw); go_simp; try with_reducible rfl)
            try simp only [Act.put, List.setIfInBounds_toArray, List.set_cons_zero, List.set_cons_succ]
            refine wpAnyH_take (i := 6) (v := ?_) rfl (by kernel_rfl) (by kernel_rfl) (by kernel_rfl) CalmP.onlyN_panic (Or.inl ⟨by kernel_rfl, ?_⟩) (by assumption) ?_
            rotate_left
            · (intro w_ hSw; (try dsimp only at hSw); go_simp; try with_reducible rfl)
            try simp only [Act.put, List.setIfInBounds_toArray, List.set_cons_zero, List.set_cons_succ]
            refine wpAnyH_take (i := 7) (v := ?_) rfl (by kernel_rfl) (by kernel_rfl) (by kernel_rfl) CalmP.onlyN_panic (Or.inl ⟨by kernel_rfl, ?_⟩) (by assumption) ?_
            rotate_left
            · (intro w_ hSw; (try dsimp only at hSw); go_simp; try with_reducible rfl)
            try simp only [Act.put, List.setIfInBounds_toArray, List.set_cons_zero, List.set_cons_succ]
            refine wpAnyH_take (i := 8) (v := ?_) rfl (by kernel_rfl) (by kernel_rfl) (by kernel_rfl) CalmP.onlyN_panic (Or.inl ⟨by kernel_rfl, ?_⟩) (by assumption) ?_
            rotate_left
            · (intro w_ hSw; (try dsimp only at hSw); go_simp; try with_reducible rfl)
            try simp only [Act.put, List.setIfInBounds_toArray, List.set_cons_zero, List.set_cons_succ]
            refine wpAnyH_take (i := 9) (v := ?_) rfl (by kernel_rfl) (by kernel_rfl) (by kernel_rfl) CalmP.onlyN_panic (Or.inl ⟨by kernel_rfl, ?_⟩) (by assumption) ?_
            rotate_left
            · (intro w_ hSw; (try dsimp only at hSw); go_simp; try with_reducible rfl)
            try simp only [Act.put, List.setIfInBounds_toArray, List.set_cons_zero, List.set_cons_succ]
            refine wpAnyH_take (i := 10) (v := ?_) rfl (by kernel_rfl) (by kernel_rfl) (by kernel_rfl) CalmP.onlyN_panic (Or.inl ⟨by kernel_rfl, ?_⟩) (by assumption) ?_
            rotate_left
            · (intro w_ hSw; (try dsimp only at hSw); go_simp; try with_reducible rfl)
            try simp only [Act.put, List.setIfInBounds_toArray, List.set_cons_zero, List.set_cons_succ]
            refine wpAnyH_take (i := 11) (v := ?_) rfl (by kernel_rfl) (by kernel_rfl) (by kernel_rfl) CalmP.onlyN_panic (Or.inl ⟨by kernel_rfl, ?_⟩) (by assumption) ?_
            rotate_left
            · (intro w_ hSw; (try dsimp only at hSw); go_simp; try with_reducible rfl)
            try simp only [Act.put, List.setIfInBounds_toArray, List.set_cons_zero, List.set_cons_succ]
            refine wpAnyH_take (i := 12) (v := ?_) rfl (by kernel_rfl) (by kernel_rfl) (by kernel_rfl) CalmP.onlyN_panic (Or.inl ⟨by kernel_rfl, ?_⟩) (by assumption) ?_
            rotate_left
            · (intro w_ hSw; (try dsimp only at hSw); go_simp; try with_reducible rfl)
            try simp only [Act.put, List.setIfInBounds_toArray, List.set_cons_zero, List.set_cons_succ]
            refine CalmP.take_calm (i := 13) (v := .string tv) rfl (by kernel_rfl) (by kernel_rfl) (by kernel_rfl) CalmP.onlyN_panic (Or.inl ⟨by kernel_rfl, ?_⟩) (by assumption) ?_
            · (intro w_ hSw; (try dsimp only at hSw); go_simp; exact (q1 w_).mono (fun e w' h => ⟨h.1, h.2.symm⟩))
            try simp only [Act.put, List.setIfInBounds_toArray, List.set_cons_zero, List.set_cons_succ]
            refine wpAnyH_take (i := 14) (v := ?_) rfl (by kernel_rfl) (by kernel_rfl) (by kernel_rfl) CalmP.onlyN_panic (Or.inl ⟨by kernel_rfl, ?_⟩) (by assumption) ?_
            rotate_left
            · (intro w_ hSw; (try dsimp only at hSw); go_simp; try with_reducible rfl)
            try simp only [Act.put, List.setIfInBounds_toArray, List.set_cons_zero, List.set_cons_succ]
            refine wpAnyH_ready (rs := [15]) (by kernel_rfl) (by simp) ?_
            refine AllReadyH.cons rfl (fun K_ hK => ?_) AllReadyH.nil
            go_simp
            refine hK.out _ _ hd1 (fun hHeld => ?_)
            clear hK K_
            try simp only [Act.put, List.setIfInBounds_toArray, List.set_cons_zero, List.set_cons_succ]
            refine wpAnyH_ready (rs := [16]) (by kernel_rfl) (by simp) ?_
            refine AllReadyH.cons rfl (fun K_ hK => ?_) AllReadyH.nil
            go_simp
            refine hK.out _ _ hd2 (fun hHeld => ?_)
            clear hK K_
            try simp only [Act.put, List.setIfInBounds_toArray, List.set_cons_zero, List.set_cons_succ]
            refine wpAnyH_done (by kernel_rfl) ?_ _
            refine CalmP.onlyN_here (hQ.out _ _ ?_)
            clear hQ K0
            clear hd0 hd1 hd2 b1 hHeld
            generalize (wo.alloc (.cells #[.string (s.extract 0 k), .string tv] 110)).drew = w4 at b2 bx ⊢
            obtain ⟨gq, hgq⟩ : ∃ gq, wo.heap.size = gq := ⟨_, rfl⟩
            have hz4 := b2.size
            have own4 := own_below hown b2
            have t4 := hb.trans (b2.mono hgz)
            rw [hgq] at bx hgz hz4
            have hz5 : g ≤ w4.heap.size := by omega
            obtain ⟨k0, k1⟩ := bx.two
            clear hown b2 q1 hcell bx hgb
            rw [hgq]
            clear hgq
            rcases gn with _ | _
            · obtain ⟨rfl, rfl⟩ := HBAD.out HOK.out
              go_wp2_with fail
              refine (q2 w4).mono ?_
              rintro e w5 ⟨rfl, rfl⟩
              go_wp2_with fail
              go_ret2
              exact ⟨none, 0, rfl, World.ownsRow_nil _ _ _ _, t4⟩
            · rcases gv with _ | _
              · obtain ⟨rfl, rfl⟩ := HBAD.out HOK.out
                go_wp2_with fail
                refine (q2 w4).mono ?_
                rintro e w5 ⟨rfl, rfl⟩
                go_wp2_with fail
                refine (q3 w4).mono ?_
                rintro e w5 ⟨rfl, rfl⟩
                go_wp2_with fail
                go_ret2
                exact ⟨none, 0, rfl, World.ownsRow_nil _ _ _ _, t4⟩
              · have e1 : fcells ((ls.take (j + 1)).map lineF) = fcells ((ls.take j).map lineF) ++ [.string (s.extract 0 k), .string tv] := by
                  rw [HTK.out, List.map_append, ← fcells_append, ← HLF.out]; rfl
                have e2 : (ls.take (j + 1)).all lineOk = true := by
                  rw [HTK.out, List.all_append, HALL.out, List.all_cons, HOK.out]; rfl
                have E1 := hide e1
                have E2 := hide e2
                clear e1 e2
                go_wp2_with fail
                refine (q2 w4).mono ?_
                rintro e w5 ⟨rfl, rfl⟩
                go_wp2_with fail
                refine (q3 w4).mono ?_
                rintro e w5 ⟨rfl, rfl⟩
                go_wp2_with (at_builtin; refine wpl_push rfl _ _ _ rfl g i0 _ 2 32 Tryz.underlying44 hi0 hz0 hz1 hz2 rfl (by omega) _ _ _ rfl _ rfl own4 rfl (by simp [Value.oneCell']) (by unfold maxLen; omega) (by omega) hz5 ?_; intro v1 w6 hown1 hbel1 _)
                go_roundw
                case rel => exact ⟨j + 1, by omega, by go_num, E2.out, by rw [E1.out]; exact hown1, t4.trans hbel1⟩
                case measure => simp [intOf]; omega
          · have hx : ((b.toNat : Int) != 58) = true := by
              rw [bne_iff_ne]; intro e; apply h58; apply UInt8.toNat_inj.1; simp; omega
            have hno2 : ∀ i (hi : i < l.length), i < k + 1 → l[i] ≠ 58 := fun i hi hik => by
              rcases Nat.lt_or_ge i k with h1 | h1
              · exact HNO.out i hi h1
              · obtain rfl : i = k := by omega
                rw [← hg1]; exact h58
            have HNO2 := hide hno2
            clear hno2 h58 hg1
            go_wp2_with fail
            go_roundw
            case rel => exact ⟨k + 1, by omega, by go_num, HNO2.out, by first | rfl | trivial⟩
            case measure => simp [intOf]; omega
        · have hks' : ¬ (k : Int) < (s.size : Int) := by omega
          have heq : ((k : Int) == (s.size : Int)) = true := by rw [beq_iff_eq]; omega
          have heq' : (k : Int) = (s.size : Int) := by omega
          have hcl := cutHead_at (b := 58) (l := l) (k := k) (by have := HSS.out; omega) HNO.out (fun hi => by have := HSS.out; omega)
          have hbad : lineOk l = false := by
            unfold lineOk cutHas; rw [hcl, decide_eq_false (by have := HSS.out; omega)]; rfl
          obtain ⟨rfl, rfl⟩ := HBAD.out hbad
          clear hcl hbad
          go_wp2_with fail
          go_ret2
          exact ⟨none, 0, rfl, World.ownsRow_nil _ _ _ _, hb⟩
    · obtain rfl : j = n := by omega
      have hta : ls.take j = ls := List.take_of_length_le (by omega)
      have hal : ls.all lineOk = true := by have := HALL.out; rwa [hta] at this
      rw [hta] at hown
      obtain rfl : RB = true := by rw [HRB.out, hal]
      have hRE : RL = ls.map lineF := by rw [HRL.out]; unfold rfL; rw [if_pos hal]
      have hll : (ls.map lineF).length = j := by rw [List.length_map, HL.out]
      rw [← hRE] at hown hll
      obtain ⟨A2, c2, rfl, -⟩ := own_shape hown
      have HLL := hide hll
      clear hll hRE hta hal hr hlt BAD HRL HRB
      go_wp2_with fail
      go_ret2
      rw [HLL.out]
      exact ⟨_, _, rfl, hown, hb⟩
end Go.Proofs.YtijlaclngibekaaGreatDoor
/- The reference's ParseResponse of the gateway's own answer 504. -/
namespace Go.Proofs.YtijlaclngibekaaGreatDoor
open Go.RowKit
set_option linter.unusedVariables false
set_option linter.unusedSimpArgs false

def l504 : List UInt8 := [72, 84, 84, 80, 47, 49, 46, 49, 32, 53, 48, 52, 32, 71, 97, 116, 101, 119, 97, 121, 32, 84, 105, 109, 101, 111, 117, 116]
def f504 : List (List UInt8) := [[67, 111, 110, 116, 101, 110, 116, 45, 84, 121, 112, 101, 58, 32, 116, 101, 120, 116, 47, 112, 108, 97, 105, 110], [67, 111, 110, 116, 101, 110, 116, 45, 76, 101, 110, 103, 116, 104, 58, 32, 49, 54], [67, 111, 110, 110, 101, 99, 116, 105, 111, 110, 58, 32, 99, 108, 111, 115, 101]]
def h504 : List UInt8 := Rl.joinC (l504 :: f504) ++ [13, 10, 13, 10]
def fs504 : List (List UInt8 × List UInt8) := [([67, 111, 110, 116, 101, 110, 116, 45, 84, 121, 112, 101], [116, 101, 120, 116, 47, 112, 108, 97, 105, 110]), ([67, 111, 110, 116, 101, 110, 116, 45, 76, 101, 110, 103, 116, 104], [49, 54]), ([67, 111, 110, 110, 101, 99, 116, 105, 111, 110], [99, 108, 111, 115, 101])]
theorem f504_ok : f504.all lineOk = true ∧ rfL f504 = fs504 := by constructor <;> decide +kernel
theorem w504 : Rl.cutW 2 l504 = [[72, 84, 84, 80, 47, 49, 46, 49], [53, 48, 52], [71, 97, 116, 101, 119, 97, 121, 32, 84, 105, 109, 101, 111, 117, 116]] := by decide +kernel
theorem no504 : Rl.No13 (l504 :: f504) := by unfold Rl.No13; decide +kernel
set_option maxRecDepth 100000 in
set_option maxHeartbeats 800000 in
theorem refminor11 (w : World) : Calls Tryz.prog 39 #[.string ⟨#[72, 84, 84, 80, 47, 49, 46, 49]⟩] w fun e w' => e = .returned (.int .i64 1) ∧ w = w' := by
  go_enter Tryz.func39, Tryz.ntmps39
  go_wp2_with fail
  go_ret
  exact ⟨rfl, rfl⟩
set_option maxRecDepth 100000 in
set_option maxHeartbeats 3200000 in
theorem refresp504 (A : Option Addr) (n c : Nat) (w : World) (hr : Rd w w.heap.size 1 A n (bcells h504)) :
    Calls Tryz.prog 19 #[.slice A n c] w fun e w' => ∃ A' c', e = .returned (.tuple #[.agg #[.int .i64 1, .int .i64 504, .string ⟨#[71, 97, 116, 101, 119, 97, 121, 32, 84, 105, 109, 101, 111, 117, 116]⟩, .slice A' 3 c'], .int .i64 0]) ∧ Rd w' w'.heap.size 2 A' 3 (fcells fs504) ∧ Below w.heap.size w w' := by
  have hlen : h504.length = n := by have := hr.1; rw [bcells_length] at this; omega
  have hn : n ≤ 200 := by rw [← hlen]; decide +kernel
  have hni : ¬ (16384 : Int) < (n : Int) := by omega
  obtain ⟨g, hg⟩ : ∃ g, w.heap.size = g := ⟨_, rfl⟩
  have bx := Box.new w #[.int .i64 0, .int .i64 0, .string ⟨#[]⟩, .slice none 0 0] 46
  have ta : Below w.heap.size w (w.alloc (.cells #[.int .i64 0, .int .i64 0, .string ⟨#[]⟩, .slice none 0 0] 46)) := (Below.refl _ _).alloc (Nat.le_refl _) _
  rw [hg] at bx ta hr
  obtain ⟨S, hS⟩ : ∃ S : ByteArray, S = ⟨h504.toArray⟩ := ⟨_, rfl⟩
  have hSz : S.size ≤ 100000 := by rw [hS, mk_size]; omega
  have hSd : S.data.toList = Rl.joinC (l504 :: f504) ++ [13, 10, 13, 10] := by rw [hS]; rfl
  clear hlen hn
  go_enter Tryz.func19, Tryz.ntmps19
  go_upto_region 3 with (fail)
  have r1 := hr.below ta
  generalize w.alloc _ = w1 at bx ta r1 ⊢
  have hcv := run_string_of (P := Tryz.prog) 35 9 5 Tryz.underlying35 Tryz.underlying5 Tryz.underlying9 w1 _ n c A _ r1
  rw [← hS] at hcv
  have q1 : Calls Tryz.prog 36 #[.string S] w1 fun e w' => ∃ A c, e = .returned (.tuple #[.slice A 4 c, .bool true]) ∧ w'.ownsRow w1.heap.size 9 1 (.slice A 4 c) 4 (scells (l504 :: f504)) ∧ Below w1.heap.size w1 w' := reflines_any S (l504 :: f504) w1 hSz (by simp) no504 hSd
  clear hSz hSd hS r1 hr
  go_wp2_with fail
  refine q1.mono ?_
  rintro e w2 ⟨A1, c1, rfl, o1, b2⟩
  obtain ⟨A1', c1', hv, hc1, -, -⟩ := own_shape o1
  cases hv
  have r1 := Rd.of_own o1
  obtain ⟨b1, rfl⟩ : ∃ b, A1 = some ⟨b, 0, none⟩ := by
    rcases o1.2 with ⟨h, -⟩ | ⟨b, c, cu, h, -⟩
    · simp at h
    · simp at h; exact ⟨b, h.1⟩
  have hc2 : ¬ c1 = 1 := by omega
  have r2 : Rd w2 w2.heap.size 1 (some ⟨b1, 1, none⟩) 3 (scells f504) := by
    have := r1.cut (k := 1) (m := 4) (cap := c1) (by omega) (by omega) hc1
    rw [if_neg hc2] at this
    exact this
  obtain ⟨hb1, e0⟩ : b1 < w2.heap.size ∧ w2.cell? ⟨b1, 0, none⟩ = some (.string ⟨l504.toArray⟩) := by
    obtain ⟨a, ha, hb, h⟩ := r1.at_ (k := 0) (by omega)
    cases ha
    exact ⟨hb, h 0 _ rfl⟩
  have bx2 := bx.below (b2.mono (Nat.le_refl _))
  have q2 : Calls Tryz.prog 37 #[.slice (some ⟨b1, 1, none⟩) 3 (c1 - 1)] w2 fun e w' => ∃ A' c', e = .returned (.tuple #[.slice A' 3 c', .bool true]) ∧ w'.ownsRow w2.heap.size 110 2 (.slice A' 3 c') 3 (fcells fs504) ∧ Below w2.heap.size w2 w' := by
    have q := reffields_any (some ⟨b1, 1, none⟩) 3 (c1 - 1) w2.heap.size f504 w2 r2 (Nat.le_refl _) (by omega) (by decide)
    rw [f504_ok.1, f504_ok.2] at q
    exact q
  clear o1 r1 r2 q1 hcv
  go_wp2_with fail
  refine q2.mono ?_
  rintro e w3 ⟨A3, c3, rfl, o3, b3⟩
  have e1 := b3.cell (p := ⟨b1, 0, none⟩) hb1 |>.trans e0
  have q3 : Calls Tryz.prog 38 #[.string ⟨l504.toArray⟩, .int .i64 3] w3 fun e w' => ∃ A c, e = .returned (.slice A 3 c) ∧ w'.ownsRow w3.heap.size 9 1 (.slice A 3 c) 3 [.string ⟨#[72, 84, 84, 80, 47, 49, 46, 49]⟩, .string ⟨#[53, 48, 52]⟩, .string ⟨#[71, 97, 116, 101, 119, 97, 121, 32, 84, 105, 109, 101, 111, 117, 116]⟩] ∧ Below w3.heap.size w3 w' := by
    have q := refwords_any ⟨l504.toArray⟩ 2 w3 (by decide) (by omega)
    have hw : Rl.cutW 2 (⟨l504.toArray⟩ : ByteArray).data.toList = _ := w504
    rw [hw] at q
    exact q
  have bx3 := bx2.below b3
  go_wp2_with fail
  refine q3.mono ?_
  rintro e w4 ⟨A4, c4, rfl, o4, b4⟩
  have r4 := Rd.of_own o4
  obtain ⟨b5, rfl, hb5⟩ : ∃ b, A4 = some ⟨b, 0, none⟩ ∧ w3.heap.size ≤ b := by
    rcases o4.2 with ⟨h, -⟩ | ⟨b, c, cu, h, hb, -⟩
    · simp at h
    · simp at h; exact ⟨b, h.1, hb⟩
  obtain ⟨-, h5, f0, f1, f2⟩ : True ∧ b5 < w4.heap.size ∧ w4.cell? ⟨b5, 0, none⟩ = some (.string ⟨#[72, 84, 84, 80, 47, 49, 46, 49]⟩) ∧ w4.cell? ⟨b5, 1, none⟩ = some (.string ⟨#[53, 48, 52]⟩) ∧ w4.cell? ⟨b5, 2, none⟩ = some (.string ⟨#[71, 97, 116, 101, 119, 97, 121, 32, 84, 105, 109, 101, 111, 117, 116]⟩) := by
    obtain ⟨a, ha, hb, h⟩ := r4.at_ (k := 0) (by omega)
    cases ha
    exact ⟨trivial, hb, h 0 _ rfl, h 1 _ rfl, h 2 _ rfl⟩
  have bx4 := bx3.below b4
  have q4 := refminor11 w4
  have q5 : Calls Tryz.prog 40 #[.string ⟨#[71, 97, 116, 101, 119, 97, 121, 32, 84, 105, 109, 101, 111, 117, 116]⟩] w4 fun e w' => e = .returned (.bool true) ∧ Below w4.heap.size w4 w' := refreason_any _ w4 (by decide)
  clear o4 r4
  go_upto_region 10 with (fail)
  go_wp2_with fail
  refine q4.mono ?_
  rintro e w5 ⟨rfl, rfl⟩
  go_wp2_with fail
  refine q5.mono ?_
  rintro e w6 ⟨rfl, b6⟩
  have bx6 := bx4.below b6
  have g0 := (b6.cell (p := ⟨b5, 0, none⟩) h5).trans f0
  have g1 := (b6.cell (p := ⟨b5, 1, none⟩) h5).trans f1
  have g2 := (b6.cell (p := ⟨b5, 2, none⟩) h5).trans f2
  clear f0 f1 f2 q4 q5 e1 e0
  go_wp2_with fail
  go_loopw [9, 10] (fun v i W => W = w6 ∧ (i = .int .i64 0 ∧ v = .int .i64 0 ∨ i = .int .i64 1 ∧ v = .int .i64 5 ∨ i = .int .i64 2 ∧ v = .int .i64 50 ∨ i = .int .i64 3 ∧ v = .int .i64 504)) (fun _ i _ => 3 - (intOf i).toNat)
  case atStart => exact ⟨rfl, .inl ⟨rfl, rfl⟩⟩
  case round =>
    obtain ⟨rfl, ⟨rfl, rfl⟩ | ⟨rfl, rfl⟩ | ⟨rfl, rfl⟩ | ⟨rfl, rfl⟩⟩ := hrel
    · go_wp2_with fail
      go_roundw
      case rel => simp; decide
      case measure => simp [intOf]
    · go_wp2_with fail
      go_roundw
      case rel => simp; decide
      case measure => simp [intOf]
    · go_wp2_with fail
      go_roundw
      case rel => simp; decide
      case measure => simp [intOf]
    · go_upto_region 22 with (fail)
      obtain ⟨k0, k1, k2, k3⟩ := Box.four bx6
      have q6 := refminor11 wr.drew
      have bx7 : Box wr.drew g _ := bx6.below (below_drewN (k := 1) (Below.refl _ _))
      have b7 : Below g w wr.drew := by
        have z1 := ta.size
        have z2 := b2.size
        have z3 := b3.size
        have z4 := b4.size
        exact ((((ta.trans (b2.mono (by omega))).trans (b3.mono (by omega))).trans (b4.mono (by omega))).trans (b6.mono (by omega))).trans (below_drewN (k := 1) (Below.refl _ _))
      have r3 : Rd wr.drew w3.heap.size 2 A3 3 (fcells fs504) := (((Rd.of_own o3).below b4).below (b6.mono b4.size)).below (below_drewN (k := 1) (Below.refl _ _))
      obtain ⟨b8, rfl, hb8⟩ : ∃ b, A3 = some ⟨b, 0, none⟩ ∧ w2.heap.size ≤ b := by
        rcases o3.2 with ⟨h, -⟩ | ⟨b, c, cu, h, hb, -⟩
        · simp at h
        · simp at h; exact ⟨b, h.1, hb⟩
      have h8 : g ≠ b8 := by
        have := bx.1
        have := b2.size
        omega
      have h6 : b5 < wr.drew.heap.size := Nat.lt_of_lt_of_le h5 b6.size
      have h7 : b5 ≠ g := by
        have := bx.1
        have := b2.size
        have := b3.size
        omega
      have h9 : w3.heap.size ≤ wr.drew.heap.size := Nat.le_trans b4.size b6.size
      refine CalmP.hideN (fun K0 hQ => ?_)
      refine wp_region_held_drew (S := (fun W : World => (W.cell? ⟨b5, 0, none⟩ = some (.string ⟨#[72, 84, 84, 80, 47, 49, 46, 49]⟩) ∧ W.cell? ⟨b5, 2, none⟩ = some (.string ⟨#[71, 97, 116, 101, 119, 97, 121, 32, 84, 105, 109, 101, 111, 117, 116]⟩)))) (by kernel_rfl) ⟨g0, g2⟩ (fun hHeld => ?_)
      refine wpAnyH_take (i := 0) (v := ?_) rfl (by kernel_rfl) (by kernel_rfl) (by kernel_rfl) CalmP.onlyN_panic (Or.inl ⟨by kernel_rfl, ?_⟩) (by assumption) ?_
      rotate_left
      · (intro w_ hSw; go_simp; try with_reducible rfl)
      try simp only [List.getElem_toArray, List.getElem_cons_succ, List.getElem_cons_zero, Act.put, List.setIfInBounds_toArray, List.set_cons_zero, List.set_cons_succ]
      refine wpAnyH_take (i := 1) (v := ?_) rfl (by kernel_rfl) (by kernel_rfl) (by kernel_rfl) CalmP.onlyN_panic (Or.inl ⟨by kernel_rfl, ?_⟩) (by assumption) ?_
      rotate_left
      · (intro w_ hSw; go_simp; try with_reducible rfl)
      try simp only [List.getElem_toArray, List.getElem_cons_succ, List.getElem_cons_zero, Act.put, List.setIfInBounds_toArray, List.set_cons_zero, List.set_cons_succ]
      refine wpAnyH_take (i := 2) (v := ?_) rfl (by kernel_rfl) (by kernel_rfl) (by kernel_rfl) CalmP.onlyN_panic (Or.inl ⟨by kernel_rfl, ?_⟩) (by assumption) ?_
      rotate_left
      · (intro w_ hSw; go_simp; try with_reducible rfl)
      try simp only [List.getElem_toArray, List.getElem_cons_succ, List.getElem_cons_zero, Act.put, List.setIfInBounds_toArray, List.set_cons_zero, List.set_cons_succ]
      refine wpAnyH_take (i := 4) (v := ?_) rfl (by kernel_rfl) (by kernel_rfl) (by kernel_rfl) CalmP.onlyN_panic (Or.inl ⟨by kernel_rfl, ?_⟩) (by assumption) ?_
      rotate_left
      · (intro w_ hSw; go_simp; try with_reducible rfl)
      try simp only [List.getElem_toArray, List.getElem_cons_succ, List.getElem_cons_zero, Act.put, List.setIfInBounds_toArray, List.set_cons_zero, List.set_cons_succ]
      refine wpAnyH_take (i := 5) (v := ?_) rfl (by kernel_rfl) (by kernel_rfl) (by kernel_rfl) CalmP.onlyN_panic (Or.inl ⟨by kernel_rfl, ?_⟩) (by assumption) ?_
      rotate_left
      · (intro w_ hSw; go_simp; try with_reducible rfl)
      try simp only [List.getElem_toArray, List.getElem_cons_succ, List.getElem_cons_zero, Act.put, List.setIfInBounds_toArray, List.set_cons_zero, List.set_cons_succ]
      refine wpAnyH_take (i := 6) (v := ?_) rfl (by kernel_rfl) (by kernel_rfl) (by kernel_rfl) CalmP.onlyN_panic (Or.inl ⟨by kernel_rfl, ?_⟩) (by assumption) ?_
      rotate_left
      · (intro w_ hSw; go_simp; try with_reducible rfl)
      try simp only [List.getElem_toArray, List.getElem_cons_succ, List.getElem_cons_zero, Act.put, List.setIfInBounds_toArray, List.set_cons_zero, List.set_cons_succ]
      refine wpAnyH_take (i := 7) (v := ?_) rfl (by kernel_rfl) (by kernel_rfl) (by kernel_rfl) CalmP.onlyN_panic (Or.inl ⟨by kernel_rfl, ?_⟩) (by assumption) ?_
      rotate_left
      · (intro w_ hSw; go_simp; try with_reducible rfl)
      try simp only [List.getElem_toArray, List.getElem_cons_succ, List.getElem_cons_zero, Act.put, List.setIfInBounds_toArray, List.set_cons_zero, List.set_cons_succ]
      refine wpAnyH_take (i := 8) (v := ?_) rfl (by kernel_rfl) (by kernel_rfl) (by kernel_rfl) CalmP.onlyN_panic (Or.inl ⟨by kernel_rfl, ?_⟩) (by assumption) ?_
      rotate_left
      · (intro w_ hSw; go_simp; try with_reducible rfl)
      try simp only [List.getElem_toArray, List.getElem_cons_succ, List.getElem_cons_zero, Act.put, List.setIfInBounds_toArray, List.set_cons_zero, List.set_cons_succ]
      refine wpAnyH_ready (rs := [3]) (by kernel_rfl) (by simp) ?_
      refine AllReadyH.cons rfl (fun K_ hK => ?_) AllReadyH.nil
      go_simp
      refine q6.mono ?_
      rintro e w7 ⟨rfl, rfl⟩
      have g7 : wr.drew.cell? ⟨b5, 0, none⟩ = some (.string ⟨#[72, 84, 84, 80, 47, 49, 46, 49]⟩) := g0
      have g8 : wr.drew.cell? ⟨b5, 2, none⟩ = some (.string ⟨#[71, 97, 116, 101, 119, 97, 121, 32, 84, 105, 109, 101, 111, 117, 116]⟩) := g2
      generalize wr.drew = w7 at g7 g8 bx7 b7 r3 h9 h6 ⊢
      obtain ⟨k0, k1, k2, k3⟩ := Box.four bx7
      obtain ⟨f0, f1, f2, f3⟩ := bx7.free4
      refine hK.out _ _ ⟨g7, g8⟩ (fun hHeld => ?_)
      clear hK K_
      try simp only [List.getElem_toArray, List.getElem_cons_succ, List.getElem_cons_zero, Act.put, List.setIfInBounds_toArray, List.set_cons_zero, List.set_cons_succ]
      refine wpAnyH_take (i := 9) (v := ?_) rfl (by kernel_rfl) (by kernel_rfl) (by kernel_rfl) CalmP.onlyN_panic (Or.inl ⟨by kernel_rfl, ?_⟩) (by assumption) ?_
      rotate_left
      · (intro w_ hSw; go_simp; try with_reducible rfl)
      try simp only [List.getElem_toArray, List.getElem_cons_succ, List.getElem_cons_zero, Act.put, List.setIfInBounds_toArray, List.set_cons_zero, List.set_cons_succ]
      refine wpAnyH_ready (rs := [10]) (by kernel_rfl) (by simp) ?_
      refine AllReadyH.cons rfl (fun K_ hK => ?_) AllReadyH.nil
      go_simp
      have x1 := bx7.fill4 (.int .i64 1) (.int .i64 504) (.string ⟨#[71, 97, 116, 101, 119, 97, 121, 32, 84, 105, 109, 101, 111, 117, 116]⟩) (.slice (some ⟨b8, 0, none⟩) 3 c3)
      have t1 := below_fill4 b7 (Nat.le_refl g) (.int .i64 1) (.int .i64 504) (.string ⟨#[71, 97, 116, 101, 119, 97, 121, 32, 84, 105, 109, 101, 111, 117, 116]⟩) (.slice (some ⟨b8, 0, none⟩) 3 c3)
      have r4 := (r3.grown (w' := fill4 w7 g (.int .i64 1) (.int .i64 504) (.string ⟨#[71, 97, 116, 101, 119, 97, 121, 32, 84, 105, 109, 101, 111, 117, 116]⟩) (.slice (some ⟨b8, 0, none⟩) 3 c3)) (grown_setCells g [.int .i64 1, .int .i64 504, .string ⟨#[71, 97, 116, 101, 119, 97, 121, 32, 84, 105, 109, 101, 111, 117, 116]⟩, .slice (some ⟨b8, 0, none⟩) 3 c3] 0 w7) h9 (by intro a ha e; cases ha; exact h8 (Option.some.inj e)))
      have hsz := size4 w7 g (.int .i64 1) (.int .i64 504) (.string ⟨#[71, 97, 116, 101, 119, 97, 121, 32, 84, 105, 109, 101, 111, 117, 116]⟩) (.slice (some ⟨b8, 0, none⟩) 3 c3)
      have r5 := r4.mono (show w3.heap.size ≤ (fill4 w7 g (.int .i64 1) (.int .i64 504) (.string ⟨#[71, 97, 116, 101, 119, 97, 121, 32, 84, 105, 109, 101, 111, 117, 116]⟩) (.slice (some ⟨b8, 0, none⟩) 3 c3)).heap.size by rw [hsz]; exact h9)
      obtain ⟨w8, hw8⟩ : ∃ W, W = fill4 w7 g (.int .i64 1) (.int .i64 504) (.string ⟨#[71, 97, 116, 101, 119, 97, 121, 32, 84, 105, 109, 101, 111, 117, 116]⟩) (.slice (some ⟨b8, 0, none⟩) 3 c3) := ⟨_, rfl⟩
      have hw9 := hw8.symm
      unfold fill4 at hw9
      have hbl : w8.heap[b5]? = w7.heap[b5]? := hw8 ▸ (grown_setCells g [.int .i64 1, .int .i64 504, .string ⟨#[71, 97, 116, 101, 119, 97, 121, 32, 84, 105, 109, 101, 111, 117, 116]⟩, .slice (some ⟨b8, 0, none⟩) 3 c3] 0 w7).block b5 h6 (by simpa using h7)
      have m1 : w8.cell? ⟨b5, 0, none⟩ = some (.string ⟨#[72, 84, 84, 80, 47, 49, 46, 49]⟩) := (World.cell?_of_block (a := ⟨b5, 0, none⟩) hbl).trans g7
      have m2 : w8.cell? ⟨b5, 2, none⟩ = some (.string ⟨#[71, 97, 116, 101, 119, 97, 121, 32, 84, 105, 109, 101, 111, 117, 116]⟩) := (World.cell?_of_block (a := ⟨b5, 2, none⟩) hbl).trans g8
      rw [hw9]
      rw [← hw8] at x1 t1 r5
      clear hw8 hw9 r4 hsz
      refine hK.out _ _ ⟨m1, m2⟩ (fun hHeld => ?_)
      clear hK K_
      try simp only [List.getElem_toArray, List.getElem_cons_succ, List.getElem_cons_zero, Act.put, List.setIfInBounds_toArray, List.set_cons_zero, List.set_cons_succ]
      refine wpAnyH_take (i := 11) (v := ?_) rfl (by kernel_rfl) (by kernel_rfl) (by kernel_rfl) CalmP.onlyN_panic (Or.inl ⟨by kernel_rfl, ?_⟩) (by assumption) ?_
      rotate_left
      · (intro w_ hSw; go_simp; try with_reducible rfl)
      try simp only [List.getElem_toArray, List.getElem_cons_succ, List.getElem_cons_zero, Act.put, List.setIfInBounds_toArray, List.set_cons_zero, List.set_cons_succ]
      refine wpAnyH_done (by kernel_rfl) ?_ _
      refine CalmP.onlyN_here (hQ.out _ _ ?_)
      clear hQ K0
      go_wp2_with fail
      refine bodyPost_ret (v := .tuple #[.agg #[.int .i64 1, .int .i64 504, .string ⟨#[71, 97, 116, 101, 119, 97, 121, 32, 84, 105, 109, 101, 111, 117, 116]⟩, .slice (some ⟨b8, 0, none⟩) 3 c3], .int .i64 0]) (results_rsb Tryz.results19 _ w8 _ _ _ _ _ _ x1 rfl rfl) rfl ?_
      exact ⟨_, c3, rfl, r5, hg ▸ t1⟩
end Go.Proofs.YtijlaclngibekaaGreatDoor
/- The bytes of the gateway's own answer 504. -/
namespace Go.Proofs.YtijlaclngibekaaGreatDoor
open Go.RowKit
set_option linter.unusedVariables false

def b504 : List UInt8 := [71, 97, 116, 101, 119, 97, 121, 32, 84, 105, 109, 101, 111, 117, 116, 10]
theorem h504_len : h504.length = 97 := by decide +kernel
theorem pres504 : presE 1 504 (reasonL 504) (ansF 504 false) = 0 ∧ presB 1 504 (reasonL 504) (ansF 504 false) = h504 ∧ reasonL 504 ++ [10] = b504 := by
  refine ⟨?_, ?_, ?_⟩ <;> decide +kernel
theorem ansok : fsOk (ansF 504 false) := by unfold fsOk; decide +kernel
end Go.Proofs.YtijlaclngibekaaGreatDoor
