/- FieldJoins returns true, whatever its arguments. -/
import Derived.Test.YtmijkefdnfmpiaaDoorJoinSpec
import Derived.Test.YtmijkefdnfmpiaaDoorFlds
import Derived.Deep.DeepCutAuto
import Derived.Deep.CutBlock
namespace Go.Proofs.YtmijkefdnfmpiaaDoor.FieldJoinsP
open Go.RowKit

theorem str_add (a b : ByteArray) : (a ++ b).data.toList = a.data.toList ++ b.data.toList := by simp

set_option maxRecDepth 100000 in
set_option maxHeartbeats 6400000 in
theorem walk (A : Option Addr) (n c : Nat) (ls : List (List UInt8)) (bl : Int) (w : World) (h : Rd w w.heap.size 1 A n (scells ls)) (hn : n ≤ 9223372036854775807) (hz : ∀ l ∈ ls, l.length ≤ 9223372036854775807) (hwf : (Lit.int .u8 bl).wf = true) :
    Calls Tryd.prog 4 #[.slice A n c, .int .u8 bl] w fun e w' => e = .returned (.bool true) ∧ Below w.heap.size w w' := by
  have hb01 : 0 ≤ bl ∧ bl < 256 := by simp [Lit.wf, IntKind.min, IntKind.max, IntKind.signed, IntKind.bits] at hwf; omega
  obtain ⟨hb0, hb1⟩ := hb01
  clear hwf
  obtain ⟨i0, hi0, hz0, hz1, hz2⟩ := info_parts infoStr
  have hlen : ls.length = n := by have := h.1; simpa [scells] using this
  by_cases hbig : n ≤ 60
  · obtain ⟨q, hq0, hq4⟩ : ∃ q : Nat, Int.tmod bl 4 = q ∧ q < 4 := ⟨(Int.tmod bl 4).toNat, by rw [Int.tmod_eq_emod_of_nonneg hb0]; omega, by rw [Int.tmod_eq_emod_of_nonneg hb0]; omega⟩
    go_enter Tryd.func4, Tryd.ntmps4
    go_wp2_with fail
    go_loopw [5, 6, 7] (fun v o i wr => ∃ (k : Nat) (sv : ByteArray), k ≤ n ∧ i = .int .i64 k ∧ v = .string sv ∧ sv.data.toList = joinL (sepL q) (itemsL ls k) ∧ wr.ownsRow w.heap.size 9 1 o (itemsL ls k).length (scells (itemsL ls k)) ∧ Below w.heap.size w wr) (fun _ _ i _ => n - (intOf i).toNat)
    case atStart => exact ⟨0, ⟨#[]⟩, Nat.zero_le _, rfl, rfl, rfl, World.ownsRow_nil _ _ _ _, Below.refl _ _⟩
    case round =>
      obtain ⟨k, sv, hk, rfl, rfl, hsv, ho, hb⟩ := hrel
      have hia := (itemsL_all ls k)
      have hjl := joinL_len (sepL q) (sepL_len q) (itemsL ls k) fun x hx => (hia.2 x hx).2
      rw [← hsv, ← size_of] at hjl
      have hil := hia.1
      by_cases hlt : k < n
      · have hkl : k < ls.length := by omega
        obtain ⟨a, rfl, haB, hcell⟩ := (h.below hb).text hlt hkl
        have hsucc := itemsL_succ ls k hkl
        have hzk := hz ls[k] (List.getElem_mem hkl)
        obtain ⟨x, hx⟩ : ∃ x, x = ls[k] := ⟨_, rfl⟩
        rw [← hx] at hcell hsucc hzk
        have hrn := fun w => refname_any ⟨x.toArray⟩ w (by rw [mk_size]; exact hzk)
        rw [mk_list] at hrn
        have hms := mk_size x
        obtain ⟨sx, hsx⟩ : ∃ sx : ByteArray, sx = ⟨x.toArray⟩ := ⟨_, rfl⟩
        have hsxl : sx.data.toList = x := by rw [hsx]
        rw [← hsx] at hcell hrn hms
        clear hx hsx hia hz
        rcases hg : goodNameL x with _ | _
        · have hit : itemsL ls (k + 1) = itemsL ls k := by rw [hsucc, itemL, hg]; simp
          rw [hg] at hrn
          have HI := hide hit
          have HV := hide hsv
          clear hit hsucc hsv hg hsxl
          go_wp2_with (go_at_call 20; refine (hrn _).mono ?_; rintro e w2 ⟨rfl, rfl⟩)
          go_roundw
          case rel => exact ⟨k + 1, sv, by omega, by go_num, rfl, by rw [HI.out, HV.out], by rw [HI.out]; exact ho, hb⟩
          case measure => simp [intOf]; omega
        · have hit : itemsL ls (k + 1) = itemsL ls k ++ [if k % 3 = 2 then quotedL x else x] := by rw [hsucc, itemL, hg]; simp
          have hx256 : x.length ≤ 256 := by simp only [goodNameL, Bool.and_eq_true, decide_eq_true_eq] at hg; exact hg.2
          rw [hg] at hrn
          have HI := hide hit
          have HV := hide hsv
          have HX := hide hsxl
          obtain ⟨its, hits⟩ : ∃ its, its = itemsL ls k := ⟨_, rfl⟩
          rw [← hits] at HI HV ho hjl hil
          obtain ⟨jts, hjts⟩ : ∃ jts, jts = itemsL ls (k + 1) := ⟨_, rfl⟩
          have HJ := hide hjts
          rw [← hjts] at HI
          clear hit hsucc hsv hg hsxl hits hjts
          have hbz := hb.size
          obtain ⟨m, hm⟩ : ∃ m, its.length = m := ⟨_, rfl⟩
          rw [hm] at ho hjl hil
          have HM := hide hm
          clear hm
          obtain ⟨Ao, co, rfl, hco, -⟩ := own_shape ho
          have hk3 : Int.tmod (k : Int) 3 = ((k % 3 : Nat) : Int) := by rw [Int.tmod_eq_emod_of_nonneg (by omega)]; omega
          rcases m with _ | m
          · by_cases h3 : k % 3 = 2
            · rw [if_pos h3] at HI
              have ht : (Int.tmod (k : Int) 3 == 2) = true := by rw [hk3, h3]; rfl
              go_wp2_with (first | (go_at_call 20; refine (hrn _).mono ?_; rintro e w2 ⟨rfl, rfl⟩) | (at_builtin; refine wpl_push rfl _ _ _ rfl w.heap.size i0 _ 1 16 Tryd.underlying23 hi0 hz0 hz1 hz2 rfl (by omega) _ _ _ rfl _ rfl ho rfl (by simp [Value.oneCell']) (by unfold maxLen; omega) (by omega) hbz ?_; intro v1 w3 hown1 hbel1 _))
              go_roundw
              case rel =>
                have hnil : its = [] := List.eq_nil_of_length_eq_zero HM.out
                have hj2 := HJ.out
                have hi2 := HI.out
                refine ⟨k + 1, _, by omega, by go_num, rfl, by rw [← HJ.out, HI.out, hnil, List.nil_append, str_add, HV.out, hnil]; simp [joinL, quotedL, HX.out], ?_, hb.trans hbel1⟩
                rw [← hj2, hi2, List.length_append, HM.out]
                exact own_snoc_str hown1 (by simp [quotedL, HX.out])
              case measure => simp [intOf]; omega
            · rw [if_neg h3] at HI
              have ht : (Int.tmod (k : Int) 3 == 2) = false := by rw [hk3]; simp; omega
              go_wp2_with (first | (go_at_call 20; refine (hrn _).mono ?_; rintro e w2 ⟨rfl, rfl⟩) | (at_builtin; refine wpl_push rfl _ _ _ rfl w.heap.size i0 _ 1 16 Tryd.underlying23 hi0 hz0 hz1 hz2 rfl (by omega) _ _ _ rfl _ rfl ho rfl (by simp [Value.oneCell']) (by unfold maxLen; omega) (by omega) hbz ?_; intro v1 w3 hown1 hbel1 _))
              go_roundw
              case rel =>
                have hnil : its = [] := List.eq_nil_of_length_eq_zero HM.out
                have hj2 := HJ.out
                have hi2 := HI.out
                refine ⟨k + 1, _, by omega, by go_num, rfl, by rw [← HJ.out, HI.out, hnil, List.nil_append, str_add, HV.out, hnil]; simp [joinL, HX.out], ?_, hb.trans hbel1⟩
                rw [← hj2, hi2, List.length_append, HM.out]
                exact own_snoc_str hown1 (HX.out)
              case measure => simp [intOf]; omega
          · have hq : q = 0 ∨ q = 1 ∨ q = 2 ∨ q = 3 := by omega
            rcases hq with rfl | rfl | rfl | rfl
            · go_upto_region 11 with (go_at_call 20; refine (hrn _).mono ?_; rintro e w2 ⟨rfl, rfl⟩)
              generalize hw5 : wr.alloc _ = w5
              obtain ⟨ho5, hc5, hb5⟩ : w5.ownsRow w.heap.size 9 1 (.slice Ao (m + 1) co) (m + 1) (scells its) ∧ w5.cell? (a.add k) = some (.string sx) ∧ Below w.heap.size w w5 := by
                subst hw5; exact ⟨ho.alloc _, (World.cell?_alloc_lt wr _ (a.add k) (by rw [addr_add_block]; omega)).trans hcell, hb.alloc hbz _⟩
              have hb5z := hb5.size
              clear hw5 hcell ho
              by_cases h3 : k % 3 = 2
              · rw [if_pos h3] at HI
                have ht : (Int.tmod (k : Int) 3 == 2) = true := by rw [hk3, h3]; rfl
                go_wp2_with (at_builtin; refine wpl_push rfl _ _ _ rfl w.heap.size i0 _ 1 16 Tryd.underlying23 hi0 hz0 hz1 hz2 rfl (by omega) _ _ _ rfl _ rfl ho5 rfl (by simp [Value.oneCell']) (by unfold maxLen; omega) (by omega) hb5z ?_; intro v1 w3 hown1 hbel1 _)
                go_roundw
                case rel =>
                  have hne : its ≠ [] := fun e => by have := HM.out; rw [e] at this; simp at this
                  have hj2 := HJ.out
                  have hi2 := HI.out
                  refine ⟨k + 1, _, by omega, by go_num, rfl, by rw [← HJ.out, HI.out, joinL_snoc _ _ _ hne, str_add, str_add, HV.out]; simp [sepL, quotedL, HX.out], ?_, hb5.trans hbel1⟩
                  rw [← hj2, hi2, List.length_append, HM.out]
                  exact own_snoc_str hown1 (by simp [quotedL, HX.out])
                case measure => simp [intOf]; omega
              · rw [if_neg h3] at HI
                have ht : (Int.tmod (k : Int) 3 == 2) = false := by rw [hk3]; simp; omega
                go_wp2_with (at_builtin; refine wpl_push rfl _ _ _ rfl w.heap.size i0 _ 1 16 Tryd.underlying23 hi0 hz0 hz1 hz2 rfl (by omega) _ _ _ rfl _ rfl ho5 rfl (by simp [Value.oneCell']) (by unfold maxLen; omega) (by omega) hb5z ?_; intro v1 w3 hown1 hbel1 _)
                go_roundw
                case rel =>
                  have hne : its ≠ [] := fun e => by have := HM.out; rw [e] at this; simp at this
                  have hj2 := HJ.out
                  have hi2 := HI.out
                  refine ⟨k + 1, _, by omega, by go_num, rfl, by rw [← HJ.out, HI.out, joinL_snoc _ _ _ hne, str_add, str_add, HV.out]; simp [sepL, HX.out], ?_, hb5.trans hbel1⟩
                  rw [← hj2, hi2, List.length_append, HM.out]
                  exact own_snoc_str hown1 (HX.out)
                case measure => simp [intOf]; omega
            · go_upto_region 11 with (go_at_call 20; refine (hrn _).mono ?_; rintro e w2 ⟨rfl, rfl⟩)
              generalize hw5 : wr.alloc _ = w5
              obtain ⟨ho5, hc5, hb5⟩ : w5.ownsRow w.heap.size 9 1 (.slice Ao (m + 1) co) (m + 1) (scells its) ∧ w5.cell? (a.add k) = some (.string sx) ∧ Below w.heap.size w w5 := by
                subst hw5; exact ⟨ho.alloc _, (World.cell?_alloc_lt wr _ (a.add k) (by rw [addr_add_block]; omega)).trans hcell, hb.alloc hbz _⟩
              have hb5z := hb5.size
              clear hw5 hcell ho
              by_cases h3 : k % 3 = 2
              · rw [if_pos h3] at HI
                have ht : (Int.tmod (k : Int) 3 == 2) = true := by rw [hk3, h3]; rfl
                go_wp2_with (at_builtin; refine wpl_push rfl _ _ _ rfl w.heap.size i0 _ 1 16 Tryd.underlying23 hi0 hz0 hz1 hz2 rfl (by omega) _ _ _ rfl _ rfl ho5 rfl (by simp [Value.oneCell']) (by unfold maxLen; omega) (by omega) hb5z ?_; intro v1 w3 hown1 hbel1 _)
                go_roundw
                case rel =>
                  have hne : its ≠ [] := fun e => by have := HM.out; rw [e] at this; simp at this
                  have hj2 := HJ.out
                  have hi2 := HI.out
                  refine ⟨k + 1, _, by omega, by go_num, rfl, by rw [← HJ.out, HI.out, joinL_snoc _ _ _ hne, str_add, str_add, HV.out]; simp [sepL, quotedL, HX.out], ?_, hb5.trans hbel1⟩
                  rw [← hj2, hi2, List.length_append, HM.out]
                  exact own_snoc_str hown1 (by simp [quotedL, HX.out])
                case measure => simp [intOf]; omega
              · rw [if_neg h3] at HI
                have ht : (Int.tmod (k : Int) 3 == 2) = false := by rw [hk3]; simp; omega
                go_wp2_with (at_builtin; refine wpl_push rfl _ _ _ rfl w.heap.size i0 _ 1 16 Tryd.underlying23 hi0 hz0 hz1 hz2 rfl (by omega) _ _ _ rfl _ rfl ho5 rfl (by simp [Value.oneCell']) (by unfold maxLen; omega) (by omega) hb5z ?_; intro v1 w3 hown1 hbel1 _)
                go_roundw
                case rel =>
                  have hne : its ≠ [] := fun e => by have := HM.out; rw [e] at this; simp at this
                  have hj2 := HJ.out
                  have hi2 := HI.out
                  refine ⟨k + 1, _, by omega, by go_num, rfl, by rw [← HJ.out, HI.out, joinL_snoc _ _ _ hne, str_add, str_add, HV.out]; simp [sepL, HX.out], ?_, hb5.trans hbel1⟩
                  rw [← hj2, hi2, List.length_append, HM.out]
                  exact own_snoc_str hown1 (HX.out)
                case measure => simp [intOf]; omega
            · go_upto_region 11 with (go_at_call 20; refine (hrn _).mono ?_; rintro e w2 ⟨rfl, rfl⟩)
              generalize hw5 : wr.alloc _ = w5
              obtain ⟨ho5, hc5, hb5⟩ : w5.ownsRow w.heap.size 9 1 (.slice Ao (m + 1) co) (m + 1) (scells its) ∧ w5.cell? (a.add k) = some (.string sx) ∧ Below w.heap.size w w5 := by
                subst hw5; exact ⟨ho.alloc _, (World.cell?_alloc_lt wr _ (a.add k) (by rw [addr_add_block]; omega)).trans hcell, hb.alloc hbz _⟩
              have hb5z := hb5.size
              clear hw5 hcell ho
              by_cases h3 : k % 3 = 2
              · rw [if_pos h3] at HI
                have ht : (Int.tmod (k : Int) 3 == 2) = true := by rw [hk3, h3]; rfl
                go_wp2_with (at_builtin; refine wpl_push rfl _ _ _ rfl w.heap.size i0 _ 1 16 Tryd.underlying23 hi0 hz0 hz1 hz2 rfl (by omega) _ _ _ rfl _ rfl ho5 rfl (by simp [Value.oneCell']) (by unfold maxLen; omega) (by omega) hb5z ?_; intro v1 w3 hown1 hbel1 _)
                go_roundw
                case rel =>
                  have hne : its ≠ [] := fun e => by have := HM.out; rw [e] at this; simp at this
                  have hj2 := HJ.out
                  have hi2 := HI.out
                  refine ⟨k + 1, _, by omega, by go_num, rfl, by rw [← HJ.out, HI.out, joinL_snoc _ _ _ hne, str_add, str_add, HV.out]; simp [sepL, quotedL, HX.out], ?_, hb5.trans hbel1⟩
                  rw [← hj2, hi2, List.length_append, HM.out]
                  exact own_snoc_str hown1 (by simp [quotedL, HX.out])
                case measure => simp [intOf]; omega
              · rw [if_neg h3] at HI
                have ht : (Int.tmod (k : Int) 3 == 2) = false := by rw [hk3]; simp; omega
                go_wp2_with (at_builtin; refine wpl_push rfl _ _ _ rfl w.heap.size i0 _ 1 16 Tryd.underlying23 hi0 hz0 hz1 hz2 rfl (by omega) _ _ _ rfl _ rfl ho5 rfl (by simp [Value.oneCell']) (by unfold maxLen; omega) (by omega) hb5z ?_; intro v1 w3 hown1 hbel1 _)
                go_roundw
                case rel =>
                  have hne : its ≠ [] := fun e => by have := HM.out; rw [e] at this; simp at this
                  have hj2 := HJ.out
                  have hi2 := HI.out
                  refine ⟨k + 1, _, by omega, by go_num, rfl, by rw [← HJ.out, HI.out, joinL_snoc _ _ _ hne, str_add, str_add, HV.out]; simp [sepL, HX.out], ?_, hb5.trans hbel1⟩
                  rw [← hj2, hi2, List.length_append, HM.out]
                  exact own_snoc_str hown1 (HX.out)
                case measure => simp [intOf]; omega
            · go_upto_region 11 with (go_at_call 20; refine (hrn _).mono ?_; rintro e w2 ⟨rfl, rfl⟩)
              generalize hw5 : wr.alloc _ = w5
              obtain ⟨ho5, hc5, hb5⟩ : w5.ownsRow w.heap.size 9 1 (.slice Ao (m + 1) co) (m + 1) (scells its) ∧ w5.cell? (a.add k) = some (.string sx) ∧ Below w.heap.size w w5 := by
                subst hw5; exact ⟨ho.alloc _, (World.cell?_alloc_lt wr _ (a.add k) (by rw [addr_add_block]; omega)).trans hcell, hb.alloc hbz _⟩
              have hb5z := hb5.size
              clear hw5 hcell ho
              by_cases h3 : k % 3 = 2
              · rw [if_pos h3] at HI
                have ht : (Int.tmod (k : Int) 3 == 2) = true := by rw [hk3, h3]; rfl
                go_wp2_with (at_builtin; refine wpl_push rfl _ _ _ rfl w.heap.size i0 _ 1 16 Tryd.underlying23 hi0 hz0 hz1 hz2 rfl (by omega) _ _ _ rfl _ rfl ho5 rfl (by simp [Value.oneCell']) (by unfold maxLen; omega) (by omega) hb5z ?_; intro v1 w3 hown1 hbel1 _)
                go_roundw
                case rel =>
                  have hne : its ≠ [] := fun e => by have := HM.out; rw [e] at this; simp at this
                  have hj2 := HJ.out
                  have hi2 := HI.out
                  refine ⟨k + 1, _, by omega, by go_num, rfl, by rw [← HJ.out, HI.out, joinL_snoc _ _ _ hne, str_add, str_add, HV.out]; simp [sepL, quotedL, HX.out], ?_, hb5.trans hbel1⟩
                  rw [← hj2, hi2, List.length_append, HM.out]
                  exact own_snoc_str hown1 (by simp [quotedL, HX.out])
                case measure => simp [intOf]; omega
              · rw [if_neg h3] at HI
                have ht : (Int.tmod (k : Int) 3 == 2) = false := by rw [hk3]; simp; omega
                go_wp2_with (at_builtin; refine wpl_push rfl _ _ _ rfl w.heap.size i0 _ 1 16 Tryd.underlying23 hi0 hz0 hz1 hz2 rfl (by omega) _ _ _ rfl _ rfl ho5 rfl (by simp [Value.oneCell']) (by unfold maxLen; omega) (by omega) hb5z ?_; intro v1 w3 hown1 hbel1 _)
                go_roundw
                case rel =>
                  have hne : its ≠ [] := fun e => by have := HM.out; rw [e] at this; simp at this
                  have hj2 := HJ.out
                  have hi2 := HI.out
                  refine ⟨k + 1, _, by omega, by go_num, rfl, by rw [← HJ.out, HI.out, joinL_snoc _ _ _ hne, str_add, str_add, HV.out]; simp [sepL, HX.out], ?_, hb5.trans hbel1⟩
                  rw [← hj2, hi2, List.length_append, HM.out]
                  exact own_snoc_str hown1 (HX.out)
                case measure => simp [intOf]; omega
      · have hkn : k = n := by omega
        have hsplit := split_items q ls k
        rw [← hsv] at hsplit
        have hsp := fun w => split_any sv w (by omega)
        rw [hsplit] at hsp
        obtain ⟨Ao, co, rfl, hco, -⟩ := own_shape ho
        obtain ⟨its, hits⟩ : ∃ its, its = itemsL ls k := ⟨_, rfl⟩
        rw [← hits] at hsp ho hjl hil hco ⊢
        have hbz := hb.size
        clear hsplit hsv hia hits
        go_wp2_with fail
        refine (ans16_any _).mono ?_
        rintro e w2 ⟨rfl, b2⟩
        go_wp2_with fail
        refine (hsp _).mono ?_
        rintro e w3 ⟨A3, c3, rfl, o3, hc3, b3⟩
        have r2 := ((Rd.of_own ho).below b2).below (b3.mono b2.size)
        have r3 := Rd.of_own o3
        have hbb := hb.trans ((b2.trans (b3.mono b2.size)).mono hbz)
        go_wp2_with fail
        refine (texts_any _ _ _ _ _ _ _ _ _ _ _ r3 r2 (by omega) (by omega)).mono ?_
        rintro e w4 ⟨rfl, kq, rfl⟩
        have hee : (its == its) = true := by simp
        rw [hee]
        go_wp2
        go_ret
        exact ⟨rfl, below_drewN hbb⟩
  · go_enter Tryd.func4, Tryd.ntmps4
    go_wp2_with (go_at_call 15; refine (ans16_any _).mono ?_; rintro e w' ⟨rfl, hB⟩)
    go_ret
    exact ⟨rfl, hB⟩
end Go.Proofs.YtmijkefdnfmpiaaDoor.FieldJoinsP
