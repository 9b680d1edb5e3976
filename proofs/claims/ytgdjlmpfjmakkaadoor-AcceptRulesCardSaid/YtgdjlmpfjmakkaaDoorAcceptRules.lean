/- AcceptRules returns true, whatever its arguments. -/
import Derived.Test.YtgdjlmpfjmakkaaDoorAns20
import Derived.Test.YtgdjlmpfjmakkaaDoorRuleSpec
import Derived.Test.YtgdjlmpfjmakkaaDoorItemArgs
import Derived.Test.YtgdjlmpfjmakkaaDoorWtxt
namespace Go.Proofs.YtgdjlmpfjmakkaaDoor.AcceptRulesP
open Go.RowKit

/-- The thousandths that the law takes from a number. -/
def normQ (q : Int) : Nat := ((if q < 0 then -(q + 1) else q) % 1001).toNat
theorem normQ_le (q : Int) : normQ q ≤ 1000 := by unfold normQ; omega
theorem ba_app (a b : ByteArray) : (a ++ b).data.toList = a.data.toList ++ b.data.toList := by simp
def ruleB : Nat → ByteArray
  | 0 => ⟨#[103, 122, 105, 112]⟩
  | 1 => ⟨#[100, 101, 102, 108, 97, 116, 101]⟩
  | 2 => ⟨#[105, 100, 101, 110, 116, 105, 116, 121]⟩
  | _ => ⟨#[98, 114]⟩

theorem want_g (qs : List Nat) (has : Bool) (s : Nat) : (gzI qs < 0 ∧ wantG qs has s = if has then s else 0) ∨ (0 ≤ gzI qs ∧ gzI qs = (wantG qs has s : Int)) := by
  rcases qs with _ | ⟨a, l⟩
  · left; exact ⟨by decide, rfl⟩
  · right; exact ⟨by simp [gzI], rfl⟩
theorem want_i (qs : List Nat) (has : Bool) (s : Nat) : (idI qs < 0 ∧ wantI qs has s = if has then s else 1000) ∨ (0 ≤ idI qs ∧ idI qs = (wantI qs has s : Int)) := by
  rcases qs with _ | ⟨a, _ | ⟨b, _ | ⟨c, l⟩⟩⟩
  · left; exact ⟨by decide, rfl⟩
  · left; exact ⟨by simp [idI], rfl⟩
  · left; exact ⟨by simp [idI], rfl⟩
  · right; exact ⟨by simp [idI], rfl⟩
theorem step_ {w w' : World} {s n : Nat} {A : Option Addr} {xs : List Value} (h : Rd w w.heap.size s A n xs) (hb : Below w.heap.size w w') : Rd w' w'.heap.size s A n xs := (h.below hb).mono hb.size

set_option maxRecDepth 100000 in
set_option maxHeartbeats 6400000 in
theorem walk (A : Option Addr) (n c : Nat) (its : List (ByteArray × Int)) (star : Int) (has : Bool) (w : World) (h : Rd w w.heap.size 2 A n (acells its)) (hn : n ≤ 9223372036854775807) (hz : ∀ f ∈ its, (Lit.int .i64 f.2).wf = true) (hst : (Lit.int .u16 star).wf = true) :
    Calls Tryd.prog 7 #[.slice A n c, .int .u16 star, .bool has] w fun e w' => e = .returned (.bool true) ∧ Below w.heap.size w w' := by
  have hlen := h.alen
  by_cases hbig : n ≤ 20
  · obtain ⟨qs, hqs⟩ : ∃ qs, qs = its.map fun f => normQ f.2 := ⟨_, rfl⟩
    have hql : ∀ q ∈ qs, q ≤ 1000 := by intro q hq; rw [hqs] at hq; obtain ⟨f, _, rfl⟩ := List.mem_map.1 hq; exact normQ_le _
    have hqn : qs.length = n := by rw [hqs, List.length_map, hlen]
    have HLEN := hide hlen
    have HZ := hide hz
    have HQS := hide hqs
    have HQN := hide hqn
    have HQL := hide hql
    clear hlen hz hqs hqn hql
    go_enter Tryd.func7, Tryd.ntmps7
    go_wp2_with fail
    go_loopw [7, 8, 9, 10] (fun v g d i wr => ∃ k : Nat, k ≤ n ∧ i = .int .i64 k ∧ (∃ bv, v = .string bv ∧ Hid (bv.data.toList = catR (rulesL (qs.take k)))) ∧
      (∃ gv, g = .int .i64 gv ∧ Hid (gv = gzI (qs.take k))) ∧ (∃ dv, d = .int .i64 dv ∧ Hid (dv = idI (qs.take k))) ∧ Below w.heap.size w wr) (fun _ _ _ i _ => n - (intOf i).toNat)
    case atStart => exact ⟨0, Nat.zero_le _, rfl, ⟨_, rfl, hide rfl⟩, ⟨_, rfl, hide rfl⟩, ⟨_, rfl, hide rfl⟩, Below.refl _ _⟩
    case round =>
      obtain ⟨k, hk, rfl, ⟨bv, rfl, HV⟩, ⟨gv, rfl, HG⟩, ⟨dv, rfl, HD⟩, hb⟩ := hrel
      have zv : bv.size ≤ 1000 := by
        rw [size_of, HV.out]
        have := catR_le (qs.take k) (fun q hq => HQL.out q (List.mem_of_mem_take hq))
        rw [List.length_take] at this
        omega
      by_cases hlt : k < n
      · have hkl : k < its.length := by have := HLEN.out; omega
        have hkq : k < qs.length := by have := HQN.out; omega
        obtain ⟨blk, off, rfl, hbl, -, hcell⟩ := (h.below hb).aitem hlt hkl
        have hwf := HZ.out its[k] (List.getElem_mem hkl)
        have hqk : qs[k] = normQ its[k].2 := by simp only [HQS.out, List.getElem_map]
        have hgs := gz_snoc qs k hkq
        have hds := id_snoc qs k hkq
        have hrs := rules_snoc qs k hkq
        have hsg := gz_sign qs k (Nat.le_of_lt hkq)
        have hsd := id_sign qs k (Nat.le_of_lt hkq)
        rw [hqk] at hgs hds hrs
        rw [← HG.out] at hsg hgs
        rw [← HD.out] at hsd hds
        rw [← HV.out] at hrs
        obtain ⟨q, hqq⟩ : ∃ q, q = its[k].2 := ⟨_, rfl⟩
        rw [← hqq] at hcell hwf hgs hds hrs
        have hq1 : -9223372036854775808 ≤ q ∧ q < 9223372036854775808 := by simp [Lit.wf, IntKind.min, IntKind.max, IntKind.signed, IntKind.bits] at hwf; omega
        have hle := normQ_le q
        clear hqk hqq hwf
        have HGS := hide hgs
        have HDS := hide hds
        have HRS := hide hrs
        clear hgs hds hrs
        have hwt := fun w => wtxt_any (normQ q) hle w
        obtain ⟨bwt, hbw⟩ : ∃ b : ByteArray, b = ⟨(wtxt (normQ q)).toArray⟩ := ⟨_, rfl⟩
        simp only [← hbw] at hwt
        have hbwl : bwt.data.toList = wtxt (normQ q) := by rw [hbw]
        have zw : bwt.size ≤ 5 := by rw [size_of, hbwl, (wtxt_plain _ hle).2]; omega
        obtain ⟨wn, hwn⟩ : ∃ x, x = wr.alloc (.cells #[.string ⟨#[103, 122, 105, 112]⟩, .string ⟨#[100, 101, 102, 108, 97, 116, 101]⟩, .string ⟨#[105, 100, 101, 110, 116, 105, 116, 121]⟩, .string ⟨#[98, 114]⟩] 9) := ⟨_, rfl⟩
        have bn : Below wr.heap.size wr wn := by rw [hwn]; exact (Below.refl _ _).alloc (Nat.le_refl _) _
        have cn : wn.cell? ⟨blk, off + k * 2 + 1, none⟩ = some (.int .i64 q) := (bn.cell (World.block_lt_of_cell? wr _ hcell)).trans hcell
        have hcases : k % 4 = 0 ∨ k % 4 = 1 ∨ k % 4 = 2 ∨ k % 4 = 3 := by omega
        obtain ⟨bnm, hbn⟩ : ∃ b : ByteArray, b = ruleB (k % 4) := ⟨_, rfl⟩
        have dn : wn.cell? ⟨wr.heap.size, k % 4, none⟩ = some (.string bnm) := by
          rw [hwn, World.cell?_alloc_new, hbn]
          rcases hcases with e | e | e | e <;> rw [e] <;> rfl
        have hbnl : bnm.data.toList = nameR (k % 4) := by
          rw [hbn]
          rcases hcases with e | e | e | e <;> rw [e] <;> rfl
        have zn : bnm.size ≤ 8 := by rw [size_of, hbnl]; exact (nameR_facts (k % 4) (by omega)).2.2.2.2
        have hbg : (bnm.toList == [103, 122, 105, 112]) = decide (k % 4 = 0) := by
          rw [ByteArray.toList_eq, hbnl]
          rcases hcases with e | e | e | e <;> rw [e] <;> rfl
        have hbi : (bnm.toList == [105, 100, 101, 110, 116, 105, 116, 121]) = decide (k % 4 = 2) := by
          rw [ByteArray.toList_eq, hbnl]
          rcases hcases with e | e | e | e <;> rw [e] <;> rfl
        have hwn' := hwn.symm
        have HN := hide hbnl
        have HW := hide hbwl
        clear hwn hbn hbnl hbwl hbw
        obtain ⟨bg, hg1⟩ : ∃ bg, bg = decide (k % 4 = 0) := ⟨_, rfl⟩
        obtain ⟨bi, hi1⟩ : ∃ bi, bi = decide (k % 4 = 2) := ⟨_, rfl⟩
        rw [← hg1] at hbg
        rw [← hi1] at hbi
        have HB1 := hide hg1
        have HB2 := hide hi1
        have HC := hide hcases
        have HS1 := hide hsg
        have HS2 := hide hsd
        clear hg1 hi1 hcases hsg hsd
        have hkind : (k = 0 ∧ bg = true ∧ bi = false ∧ gv = -1) ∨ (k = 2 ∧ bg = false ∧ bi = true ∧ dv = -1) ∨ (k ≠ 0 ∧ k ≠ 2 ∧ bg = true ∧ bi = false ∧ 0 ≤ gv) ∨ (k ≠ 0 ∧ k ≠ 2 ∧ bg = false ∧ bi = true ∧ 0 ≤ dv) ∨ (k ≠ 0 ∧ k ≠ 2 ∧ bg = false ∧ bi = false ∧ True) := by
          have h1 := HB1.out
          have h2 := HB2.out
          have h3 := HS1.out
          have h4 := HS2.out
          rcases HC.out with e | e | e | e
          · rw [e] at h1 h2
            by_cases h0 : k = 0
            · exact .inl ⟨h0, h1, h2, h3.1 h0⟩
            · exact .inr (.inr (.inl ⟨h0, by omega, h1, h2, h3.2 (by omega)⟩))
          · rw [e] at h1 h2
            exact .inr (.inr (.inr (.inr ⟨by omega, by omega, h1, h2, trivial⟩)))
          · rw [e] at h1 h2
            by_cases h0 : k = 2
            · exact .inr (.inl ⟨h0, h1, h2, h4.1 (by omega)⟩)
            · exact .inr (.inr (.inr (.inl ⟨by omega, h0, h1, h2, h4.2 (by omega)⟩)))
          · rw [e] at h1 h2
            exact .inr (.inr (.inr (.inr ⟨by omega, by omega, h1, h2, trivial⟩)))
        clear HB1 HB2 HC HS1 HS2
        have hsplit : (q < 0 ∧ IntKind.i64.wrap (q + 1) = q + 1 ∧ -((q + 1).tmod 1001) = (normQ q : Int)) ∨ (0 ≤ q ∧ q % 1001 = (normQ q : Int)) := by
          unfold normQ
          by_cases hneg : q < 0
          · refine .inl ⟨hneg, by simp [IntKind.wrap, IntKind.bits, IntKind.signed]; omega, ?_⟩
            rw [if_pos hneg, ← Int.neg_tmod, Int.tmod_eq_emod_of_nonneg (by omega)]; omega
          · refine .inr ⟨by omega, ?_⟩
            rw [if_neg hneg]; omega
        obtain ⟨nq, hnq⟩ : ∃ nq, nq = normQ q := ⟨_, rfl⟩
        rw [← hnq] at hsplit HGS HDS HRS HW
        simp only [← hnq] at hwt
        clear hnq hle
        rcases hsplit with ⟨hneg, e1, e2⟩ | ⟨hneg, e1⟩
        · rcases hkind with ⟨hk0, rfl, rfl, rfl⟩ | ⟨hk0, rfl, rfl, rfl⟩ | ⟨hk0, hk2, rfl, rfl, hge⟩ | ⟨hk0, hk2, rfl, rfl, hge⟩ | ⟨hk0, hk2, rfl, rfl, -⟩
          · have HK := hide hk0
            clear hk0
            go_wp2_with fail
            refine (hwt wn).mono ?_
            rintro e w3 ⟨rfl, b3⟩
            go_wp2
            go_roundw
            case rel => exact ⟨k + 1, by omega, by go_num, ⟨_, rfl, hide (by rw [HRS.out]; simp [ruleL, HN.out, HW.out])⟩, ⟨_, rfl, hide (by rw [HGS.out, if_pos HK.out])⟩, ⟨_, rfl, hide (by rw [HDS.out, if_neg (by have := HK.out; omega)])⟩, hb.trans ((bn.trans (b3.mono bn.size)).mono hb.size)⟩
            case measure => simp [intOf]; omega
          · have HK := hide hk0
            clear hk0
            go_wp2_with fail
            refine (hwt wn).mono ?_
            rintro e w3 ⟨rfl, b3⟩
            go_wp2
            go_roundw
            case rel => exact ⟨k + 1, by omega, by go_num, ⟨_, rfl, hide (by rw [HRS.out]; simp [ruleL, HN.out, HW.out])⟩, ⟨_, rfl, hide (by rw [HGS.out, if_neg (by have := HK.out; omega)])⟩, ⟨_, rfl, hide (by rw [HDS.out, if_pos HK.out])⟩, hb.trans ((bn.trans (b3.mono bn.size)).mono hb.size)⟩
            case measure => simp [intOf]; omega
          · have HK := hide hk0
            have HK2 := hide hk2
            clear hk0 hk2
            go_wp2_with fail
            refine (hwt wn).mono ?_
            rintro e w3 ⟨rfl, b3⟩
            go_wp2
            go_roundw
            case rel => exact ⟨k + 1, by omega, by go_num, ⟨_, rfl, hide (by rw [HRS.out]; simp [ruleL, HN.out, HW.out])⟩, ⟨_, rfl, hide (by rw [HGS.out, if_neg HK.out])⟩, ⟨_, rfl, hide (by rw [HDS.out, if_neg HK2.out])⟩, hb.trans ((bn.trans (b3.mono bn.size)).mono hb.size)⟩
            case measure => simp [intOf]; omega
          · have HK := hide hk0
            have HK2 := hide hk2
            clear hk0 hk2
            go_wp2_with fail
            refine (hwt wn).mono ?_
            rintro e w3 ⟨rfl, b3⟩
            go_wp2
            go_roundw
            case rel => exact ⟨k + 1, by omega, by go_num, ⟨_, rfl, hide (by rw [HRS.out]; simp [ruleL, HN.out, HW.out])⟩, ⟨_, rfl, hide (by rw [HGS.out, if_neg HK.out])⟩, ⟨_, rfl, hide (by rw [HDS.out, if_neg HK2.out])⟩, hb.trans ((bn.trans (b3.mono bn.size)).mono hb.size)⟩
            case measure => simp [intOf]; omega
          · have HK := hide hk0
            have HK2 := hide hk2
            clear hk0 hk2
            go_wp2_with fail
            refine (hwt wn).mono ?_
            rintro e w3 ⟨rfl, b3⟩
            go_wp2
            go_roundw
            case rel => exact ⟨k + 1, by omega, by go_num, ⟨_, rfl, hide (by rw [HRS.out]; simp [ruleL, HN.out, HW.out])⟩, ⟨_, rfl, hide (by rw [HGS.out, if_neg HK.out])⟩, ⟨_, rfl, hide (by rw [HDS.out, if_neg HK2.out])⟩, hb.trans ((bn.trans (b3.mono bn.size)).mono hb.size)⟩
            case measure => simp [intOf]; omega
        · rcases hkind with ⟨hk0, rfl, rfl, rfl⟩ | ⟨hk0, rfl, rfl, rfl⟩ | ⟨hk0, hk2, rfl, rfl, hge⟩ | ⟨hk0, hk2, rfl, rfl, hge⟩ | ⟨hk0, hk2, rfl, rfl, -⟩
          · have HK := hide hk0
            clear hk0
            go_wp2_with fail
            refine (hwt wn).mono ?_
            rintro e w3 ⟨rfl, b3⟩
            go_wp2
            go_roundw
            case rel => exact ⟨k + 1, by omega, by go_num, ⟨_, rfl, hide (by rw [HRS.out]; simp [ruleL, HN.out, HW.out])⟩, ⟨_, rfl, hide (by rw [HGS.out, if_pos HK.out])⟩, ⟨_, rfl, hide (by rw [HDS.out, if_neg (by have := HK.out; omega)])⟩, hb.trans ((bn.trans (b3.mono bn.size)).mono hb.size)⟩
            case measure => simp [intOf]; omega
          · have HK := hide hk0
            clear hk0
            go_wp2_with fail
            refine (hwt wn).mono ?_
            rintro e w3 ⟨rfl, b3⟩
            go_wp2
            go_roundw
            case rel => exact ⟨k + 1, by omega, by go_num, ⟨_, rfl, hide (by rw [HRS.out]; simp [ruleL, HN.out, HW.out])⟩, ⟨_, rfl, hide (by rw [HGS.out, if_neg (by have := HK.out; omega)])⟩, ⟨_, rfl, hide (by rw [HDS.out, if_pos HK.out])⟩, hb.trans ((bn.trans (b3.mono bn.size)).mono hb.size)⟩
            case measure => simp [intOf]; omega
          · have HK := hide hk0
            have HK2 := hide hk2
            clear hk0 hk2
            go_wp2_with fail
            refine (hwt wn).mono ?_
            rintro e w3 ⟨rfl, b3⟩
            go_wp2
            go_roundw
            case rel => exact ⟨k + 1, by omega, by go_num, ⟨_, rfl, hide (by rw [HRS.out]; simp [ruleL, HN.out, HW.out])⟩, ⟨_, rfl, hide (by rw [HGS.out, if_neg HK.out])⟩, ⟨_, rfl, hide (by rw [HDS.out, if_neg HK2.out])⟩, hb.trans ((bn.trans (b3.mono bn.size)).mono hb.size)⟩
            case measure => simp [intOf]; omega
          · have HK := hide hk0
            have HK2 := hide hk2
            clear hk0 hk2
            go_wp2_with fail
            refine (hwt wn).mono ?_
            rintro e w3 ⟨rfl, b3⟩
            go_wp2
            go_roundw
            case rel => exact ⟨k + 1, by omega, by go_num, ⟨_, rfl, hide (by rw [HRS.out]; simp [ruleL, HN.out, HW.out])⟩, ⟨_, rfl, hide (by rw [HGS.out, if_neg HK.out])⟩, ⟨_, rfl, hide (by rw [HDS.out, if_neg HK2.out])⟩, hb.trans ((bn.trans (b3.mono bn.size)).mono hb.size)⟩
            case measure => simp [intOf]; omega
          · have HK := hide hk0
            have HK2 := hide hk2
            clear hk0 hk2
            go_wp2_with fail
            refine (hwt wn).mono ?_
            rintro e w3 ⟨rfl, b3⟩
            go_wp2
            go_roundw
            case rel => exact ⟨k + 1, by omega, by go_num, ⟨_, rfl, hide (by rw [HRS.out]; simp [ruleL, HN.out, HW.out])⟩, ⟨_, rfl, hide (by rw [HGS.out, if_neg HK.out])⟩, ⟨_, rfl, hide (by rw [HDS.out, if_neg HK2.out])⟩, hb.trans ((bn.trans (b3.mono bn.size)).mono hb.size)⟩
            case measure => simp [intOf]; omega
      · have hk2 : k = n := by omega
        subst hk2
        rw [List.take_of_length_le (by have := HQN.out; omega)] at HV HG HD
        have hV := HV.out
        have hwg := want_g qs has
        have hwi := want_i qs has
        rw [← HG.out] at hwg
        rw [← HD.out] at hwi
        obtain ⟨st, rfl, hstn⟩ : ∃ st : Nat, star = st ∧ st < 65536 := by
          simp [Lit.wf, IntKind.min, IntKind.max, IntKind.signed, IntKind.bits] at hst
          exact ⟨star.toNat, by omega, by omega⟩
        obtain ⟨s, hs⟩ : ∃ s, s = st % 1001 := ⟨_, rfl⟩
        have hs1 : s ≤ 1000 := by omega
        have hsI : (st : Int) % 1001 = (s : Int) := by omega
        have qg := q_gz HQL.out has s hs1
        have qi := q_id HQL.out has s hs1
        have hvL : listR qs has s = (if has then starL s else []) ++ bv.data.toList := by unfold listR; rw [hV]
        have hwg := hwg s
        have hwi := hwi s
        obtain ⟨wg, hwg0⟩ : ∃ x, x = wantG qs has s := ⟨_, rfl⟩
        obtain ⟨wi, hwi0⟩ : ∃ x, x = wantI qs has s := ⟨_, rfl⟩
        rw [hvL, ← hwg0] at qg
        rw [hvL, ← hwi0] at qi
        rw [← hwg0] at hwg
        rw [← hwi0] at hwi
        have q0 : qL [[]] gzipL = 0 := q_gz (qs := []) (by simp) false 0 (by omega)
        have q1 : qL [[]] identL = 1000 := q_id (qs := []) (by simp) false 0 (by omega)
        have qe0 := fun (W : World) => q_any (some ⟨W.heap.size, 0, none⟩) 1 1 (W.heap.size + 1) [[]] ⟨#[103, 122, 105, 112]⟩ _ (rd_text W ⟨#[]⟩) (by simp) (by omega) (by simp)
        have qe1 := fun (W : World) => q_any (some ⟨W.heap.size, 0, none⟩) 1 1 (W.heap.size + 1) [[]] ⟨#[105, 100, 101, 110, 116, 105, 116, 121]⟩ _ (rd_text W ⟨#[]⟩) (by simp) (by omega) (by simp)
        change ∀ W : World, Calls Tryd.prog 32 _ _ (fun e w' => e = .returned (.int .i64 (qL [[]] gzipL)) ∧ _) at qe0
        change ∀ W : World, Calls Tryd.prog 32 _ _ (fun e w' => e = .returned (.int .i64 (qL [[]] identL)) ∧ _) at qe1
        rw [q0] at qe0
        rw [q1] at qe1
        have hql : (((if has then starL s else []) ++ bv.data.toList).length) ≤ 2000 := by
          have h2 := (wtxt_plain s hs1).2
          rw [List.length_append, ← size_of]
          split
          · unfold starL; simp [h2]; omega
          · simp; omega
        obtain ⟨L, hL⟩ : ∃ L, L = (if has then starL s else []) ++ bv.data.toList := ⟨_, rfl⟩
        rw [← hL] at qg qi hql
        have qv0 := fun (g : Nat) (W : World) (r : Rd W W.heap.size 1 (some ⟨g, 0, none⟩) 1 (scells [L])) => q_any (some ⟨g, 0, none⟩) 1 1 _ [L] ⟨#[103, 122, 105, 112]⟩ W r (Nat.le_refl _) (by omega) (by intro v hv; rw [List.mem_singleton.1 hv]; omega)
        have qv1 := fun (g : Nat) (W : World) (r : Rd W W.heap.size 1 (some ⟨g, 0, none⟩) 1 (scells [L])) => q_any (some ⟨g, 0, none⟩) 1 1 _ [L] ⟨#[105, 100, 101, 110, 116, 105, 116, 121]⟩ W r (Nat.le_refl _) (by omega) (by intro v hv; rw [List.mem_singleton.1 hv]; omega)
        change ∀ (g : Nat) (W : World), _ → Calls Tryd.prog 32 _ _ (fun e w' => e = .returned (.int .i64 (qL [L] gzipL)) ∧ _) at qv0
        change ∀ (g : Nat) (W : World), _ → Calls Tryd.prog 32 _ _ (fun e w' => e = .returned (.int .i64 (qL [L] identL)) ∧ _) at qv1
        rw [qg] at qv0
        rw [qi] at qv1
        have HL := hide hL
        have rt := fun (W : World) (b : ByteArray) (hb : b.data.toList = L) => by have := (rd_text W b).mono (show W.heap.size + 1 ≤ (W.alloc (.cells #[.string b] 9)).heap.size by simp); rw [hb] at this; exact this
        clear HQL HQN HQS HLEN HZ HV HG HD hV hL hvL hwg0 hwi0 q0 q1 qg qi h hql hs hst hlt hk
        have hwt := fun w => wtxt_any s hs1 w
        obtain ⟨bwt, hbw⟩ : ∃ b : ByteArray, b = ⟨(wtxt s).toArray⟩ := ⟨_, rfl⟩
        simp only [← hbw] at hwt
        have hbwl : bwt.data.toList = wtxt s := by rw [hbw]
        have zw : bwt.size ≤ 5 := by rw [size_of, hbwl, (wtxt_plain _ hs1).2]; omega
        have HW := hide hbwl
        clear hbw hbwl
        cases has
        · have t3 := hb
          have hbf : bv.data.toList = L := by rw [HL.out]; simp
          have rv := rt wr _ hbf
          clear hbf
          go_upto_region 22 with (fail)
          have t4 := t3.alloc t3.size (.cells #[.string (bv)] 9)
          clear t3 hwt rt
          obtain ⟨g, hg⟩ : ∃ g, g = wr.heap.size := ⟨_, rfl⟩
          rw [← hg] at rv
          rw [← hg]
          generalize wr.alloc _ = w4 at rv t4 ⊢
          clear hg
          rcases hwg with ⟨hg0, hwg⟩ | ⟨hg0, hwg⟩
          · (obtain rfl : wg = 0 := hwg); clear hwg
            rcases hwi with ⟨hi0, hwi⟩ | ⟨hi0, hwi⟩
            · (obtain rfl : wi = 1000 := hwi); clear hwi
              go_wp2_with fail
              refine (ans20_any w4).mono ?_
              rintro e w5 ⟨rfl, b⟩
              have t5 := t4.trans (b.mono t4.size)
              have r5 := step_ rv b
              clear rv b t4
              go_wp2_with fail
              refine (qv0 g w5 r5).mono ?_
              rintro e w6 ⟨rfl, b⟩
              have t6 := t5.trans (b.mono t5.size)
              have r6 := step_ r5 b
              clear r5 b t5 qv0
              go_wp2_with fail
              refine (qv1 g w6 r6).mono ?_
              rintro e w7 ⟨rfl, b⟩
              have t7 := t6.trans (b.mono t6.size)
              clear r6 b t6 qv1
              go_wp2_with fail
              refine (qe1 w7).mono ?_
              rintro e w8 ⟨rfl, b⟩
              have t8 := (t7.alloc t7.size (.cells #[.string ⟨#[]⟩] 9)).trans (b.mono (t7.alloc t7.size _).size)
              clear b t7 qe1
              go_wp2_with fail
              refine (qe0 w8).mono ?_
              rintro e w9 ⟨rfl, b⟩
              have t9 := (t8.alloc t8.size (.cells #[.string ⟨#[]⟩] 9)).trans (b.mono (t8.alloc t8.size _).size)
              clear b t8 qe0
              go_wp2
              go_ret
              exact ⟨rfl, t9⟩
            · subst hwi
              go_wp2_with fail
              refine (ans20_any w4).mono ?_
              rintro e w5 ⟨rfl, b⟩
              have t5 := t4.trans (b.mono t4.size)
              have r5 := step_ rv b
              clear rv b t4
              go_wp2_with fail
              refine (qv0 g w5 r5).mono ?_
              rintro e w6 ⟨rfl, b⟩
              have t6 := t5.trans (b.mono t5.size)
              have r6 := step_ r5 b
              clear r5 b t5 qv0
              go_wp2_with fail
              refine (qv1 g w6 r6).mono ?_
              rintro e w7 ⟨rfl, b⟩
              have t7 := t6.trans (b.mono t6.size)
              clear r6 b t6 qv1
              go_wp2_with fail
              refine (qe1 w7).mono ?_
              rintro e w8 ⟨rfl, b⟩
              have t8 := (t7.alloc t7.size (.cells #[.string ⟨#[]⟩] 9)).trans (b.mono (t7.alloc t7.size _).size)
              clear b t7 qe1
              go_wp2_with fail
              refine (qe0 w8).mono ?_
              rintro e w9 ⟨rfl, b⟩
              have t9 := (t8.alloc t8.size (.cells #[.string ⟨#[]⟩] 9)).trans (b.mono (t8.alloc t8.size _).size)
              clear b t8 qe0
              go_wp2
              go_ret
              exact ⟨rfl, t9⟩
          · subst hwg
            rcases hwi with ⟨hi0, hwi⟩ | ⟨hi0, hwi⟩
            · (obtain rfl : wi = 1000 := hwi); clear hwi
              go_wp2_with fail
              refine (ans20_any w4).mono ?_
              rintro e w5 ⟨rfl, b⟩
              have t5 := t4.trans (b.mono t4.size)
              have r5 := step_ rv b
              clear rv b t4
              go_wp2_with fail
              refine (qv0 g w5 r5).mono ?_
              rintro e w6 ⟨rfl, b⟩
              have t6 := t5.trans (b.mono t5.size)
              have r6 := step_ r5 b
              clear r5 b t5 qv0
              go_wp2_with fail
              refine (qv1 g w6 r6).mono ?_
              rintro e w7 ⟨rfl, b⟩
              have t7 := t6.trans (b.mono t6.size)
              clear r6 b t6 qv1
              go_wp2_with fail
              refine (qe1 w7).mono ?_
              rintro e w8 ⟨rfl, b⟩
              have t8 := (t7.alloc t7.size (.cells #[.string ⟨#[]⟩] 9)).trans (b.mono (t7.alloc t7.size _).size)
              clear b t7 qe1
              go_wp2_with fail
              refine (qe0 w8).mono ?_
              rintro e w9 ⟨rfl, b⟩
              have t9 := (t8.alloc t8.size (.cells #[.string ⟨#[]⟩] 9)).trans (b.mono (t8.alloc t8.size _).size)
              clear b t8 qe0
              go_wp2
              go_ret
              exact ⟨rfl, t9⟩
            · subst hwi
              go_wp2_with fail
              refine (ans20_any w4).mono ?_
              rintro e w5 ⟨rfl, b⟩
              have t5 := t4.trans (b.mono t4.size)
              have r5 := step_ rv b
              clear rv b t4
              go_wp2_with fail
              refine (qv0 g w5 r5).mono ?_
              rintro e w6 ⟨rfl, b⟩
              have t6 := t5.trans (b.mono t5.size)
              have r6 := step_ r5 b
              clear r5 b t5 qv0
              go_wp2_with fail
              refine (qv1 g w6 r6).mono ?_
              rintro e w7 ⟨rfl, b⟩
              have t7 := t6.trans (b.mono t6.size)
              clear r6 b t6 qv1
              go_wp2_with fail
              refine (qe1 w7).mono ?_
              rintro e w8 ⟨rfl, b⟩
              have t8 := (t7.alloc t7.size (.cells #[.string ⟨#[]⟩] 9)).trans (b.mono (t7.alloc t7.size _).size)
              clear b t7 qe1
              go_wp2_with fail
              refine (qe0 w8).mono ?_
              rintro e w9 ⟨rfl, b⟩
              have t9 := (t8.alloc t8.size (.cells #[.string ⟨#[]⟩] 9)).trans (b.mono (t8.alloc t8.size _).size)
              clear b t8 qe0
              go_wp2
              go_ret
              exact ⟨rfl, t9⟩
        · go_wp2_with fail
          refine (hwt wr).mono ?_
          rintro e w3 ⟨rfl, b3⟩
          have t3 := hb.trans (b3.mono hb.size)
          have hbf : ((⟨#[42, 59, 113, 61]⟩ : ByteArray) ++ bwt ++ bv).data.toList = L := by rw [HL.out]; simp [starL, HW.out]
          have rv := rt w3 _ hbf
          clear hbf b3
          go_upto_region 22 with (fail)
          have t4 := t3.alloc t3.size (.cells #[.string ((⟨#[42, 59, 113, 61]⟩ : ByteArray) ++ bwt ++ bv)] 9)
          clear t3 hwt rt
          obtain ⟨g, hg⟩ : ∃ g, g = w3.heap.size := ⟨_, rfl⟩
          rw [← hg] at rv
          rw [← hg]
          generalize w3.alloc _ = w4 at rv t4 ⊢
          clear hg
          rcases hwg with ⟨hg0, hwg⟩ | ⟨hg0, hwg⟩
          · (obtain rfl : s = wg := hwg.symm); clear hwg
            rcases hwi with ⟨hi0, hwi⟩ | ⟨hi0, hwi⟩
            · (obtain rfl : s = wi := hwi.symm); clear hwi
              go_wp2_with fail
              refine (ans20_any w4).mono ?_
              rintro e w5 ⟨rfl, b⟩
              have t5 := t4.trans (b.mono t4.size)
              have r5 := step_ rv b
              clear rv b t4
              go_wp2_with fail
              refine (qv0 g w5 r5).mono ?_
              rintro e w6 ⟨rfl, b⟩
              have t6 := t5.trans (b.mono t5.size)
              have r6 := step_ r5 b
              clear r5 b t5 qv0
              go_wp2_with fail
              refine (qv1 g w6 r6).mono ?_
              rintro e w7 ⟨rfl, b⟩
              have t7 := t6.trans (b.mono t6.size)
              clear r6 b t6 qv1
              go_wp2_with fail
              refine (qe1 w7).mono ?_
              rintro e w8 ⟨rfl, b⟩
              have t8 := (t7.alloc t7.size (.cells #[.string ⟨#[]⟩] 9)).trans (b.mono (t7.alloc t7.size _).size)
              clear b t7 qe1
              go_wp2_with fail
              refine (qe0 w8).mono ?_
              rintro e w9 ⟨rfl, b⟩
              have t9 := (t8.alloc t8.size (.cells #[.string ⟨#[]⟩] 9)).trans (b.mono (t8.alloc t8.size _).size)
              clear b t8 qe0
              go_wp2
              go_ret
              exact ⟨rfl, t9⟩
            · subst hwi
              go_wp2_with fail
              refine (ans20_any w4).mono ?_
              rintro e w5 ⟨rfl, b⟩
              have t5 := t4.trans (b.mono t4.size)
              have r5 := step_ rv b
              clear rv b t4
              go_wp2_with fail
              refine (qv0 g w5 r5).mono ?_
              rintro e w6 ⟨rfl, b⟩
              have t6 := t5.trans (b.mono t5.size)
              have r6 := step_ r5 b
              clear r5 b t5 qv0
              go_wp2_with fail
              refine (qv1 g w6 r6).mono ?_
              rintro e w7 ⟨rfl, b⟩
              have t7 := t6.trans (b.mono t6.size)
              clear r6 b t6 qv1
              go_wp2_with fail
              refine (qe1 w7).mono ?_
              rintro e w8 ⟨rfl, b⟩
              have t8 := (t7.alloc t7.size (.cells #[.string ⟨#[]⟩] 9)).trans (b.mono (t7.alloc t7.size _).size)
              clear b t7 qe1
              go_wp2_with fail
              refine (qe0 w8).mono ?_
              rintro e w9 ⟨rfl, b⟩
              have t9 := (t8.alloc t8.size (.cells #[.string ⟨#[]⟩] 9)).trans (b.mono (t8.alloc t8.size _).size)
              clear b t8 qe0
              go_wp2
              go_ret
              exact ⟨rfl, t9⟩
          · subst hwg
            rcases hwi with ⟨hi0, hwi⟩ | ⟨hi0, hwi⟩
            · (obtain rfl : s = wi := hwi.symm); clear hwi
              go_wp2_with fail
              refine (ans20_any w4).mono ?_
              rintro e w5 ⟨rfl, b⟩
              have t5 := t4.trans (b.mono t4.size)
              have r5 := step_ rv b
              clear rv b t4
              go_wp2_with fail
              refine (qv0 g w5 r5).mono ?_
              rintro e w6 ⟨rfl, b⟩
              have t6 := t5.trans (b.mono t5.size)
              have r6 := step_ r5 b
              clear r5 b t5 qv0
              go_wp2_with fail
              refine (qv1 g w6 r6).mono ?_
              rintro e w7 ⟨rfl, b⟩
              have t7 := t6.trans (b.mono t6.size)
              clear r6 b t6 qv1
              go_wp2_with fail
              refine (qe1 w7).mono ?_
              rintro e w8 ⟨rfl, b⟩
              have t8 := (t7.alloc t7.size (.cells #[.string ⟨#[]⟩] 9)).trans (b.mono (t7.alloc t7.size _).size)
              clear b t7 qe1
              go_wp2_with fail
              refine (qe0 w8).mono ?_
              rintro e w9 ⟨rfl, b⟩
              have t9 := (t8.alloc t8.size (.cells #[.string ⟨#[]⟩] 9)).trans (b.mono (t8.alloc t8.size _).size)
              clear b t8 qe0
              go_wp2
              go_ret
              exact ⟨rfl, t9⟩
            · subst hwi
              go_wp2_with fail
              refine (ans20_any w4).mono ?_
              rintro e w5 ⟨rfl, b⟩
              have t5 := t4.trans (b.mono t4.size)
              have r5 := step_ rv b
              clear rv b t4
              go_wp2_with fail
              refine (qv0 g w5 r5).mono ?_
              rintro e w6 ⟨rfl, b⟩
              have t6 := t5.trans (b.mono t5.size)
              have r6 := step_ r5 b
              clear r5 b t5 qv0
              go_wp2_with fail
              refine (qv1 g w6 r6).mono ?_
              rintro e w7 ⟨rfl, b⟩
              have t7 := t6.trans (b.mono t6.size)
              clear r6 b t6 qv1
              go_wp2_with fail
              refine (qe1 w7).mono ?_
              rintro e w8 ⟨rfl, b⟩
              have t8 := (t7.alloc t7.size (.cells #[.string ⟨#[]⟩] 9)).trans (b.mono (t7.alloc t7.size _).size)
              clear b t7 qe1
              go_wp2_with fail
              refine (qe0 w8).mono ?_
              rintro e w9 ⟨rfl, b⟩
              have t9 := (t8.alloc t8.size (.cells #[.string ⟨#[]⟩] 9)).trans (b.mono (t8.alloc t8.size _).size)
              clear b t8 qe0
              go_wp2
              go_ret
              exact ⟨rfl, t9⟩
  · go_enter Tryd.func7, Tryd.ntmps7
    go_wp2_with (refine (ans20_any _).mono ?_; rintro e w' ⟨rfl, hB⟩)
    go_ret
    exact ⟨rfl, hB⟩
end Go.Proofs.YtgdjlmpfjmakkaaDoor.AcceptRulesP
