/- coding.lower, coding.Of, policy.Members and policy.Coding. -/
import Derived.Test.YtgdjlmpfjmakkaaGreatDoorCoding
import Derived.Test.YtgdjlmpfjmakkaaGreatDoorPolicySpec
import Derived.Test.YtgdjlmpfjmakkaaGreatDoorEditSmall
import Derived.Test.YtgdjlmpfjmakkaaGreatDoorBox
namespace Go.Proofs.YtgdjlmpfjmakkaaGreatDoor
open Go.RowKit
theorem lowL_stay (l : List UInt8) (k : Nat) (h : k < l.length) (hm : lowB l[k] = l[k]) : lowL (l.take (k + 1)) ++ l.drop (k + 1) = lowL (l.take k) ++ l.drop k := by
  have h1 : l.drop k = l[k] :: l.drop (k + 1) := List.drop_eq_getElem_cons h
  have h2 : lowL (l.take (k + 1)) = lowL (l.take k) ++ [lowB l[k]] := by rw [list_take_snoc l k h]; simp only [lowL, List.map_append, List.map_cons, List.map_nil]
  rw [h1, h2, hm, List.append_assoc]; rfl
set_option maxRecDepth 100000 in
set_option maxHeartbeats 3200000 in
theorem colower_any (s : ByteArray) (w : World) (hs : s.size ≤ 140737488355328) :
    Calls Tryz.prog 43 #[.string s] w fun e w' => e = .returned (.string ⟨(lowL s.data.toList).toArray⟩) ∧ Below w.heap.size w w' := by
  have hcv := fun w => run_bytes_of_string (P := Tryz.prog) w 9 68 5 s Tryz.underlying9 Tryz.underlying68 Tryz.underlying5
  obtain ⟨c, hc⟩ : ∃ c, c = grownCap w s.size 0 5 := ⟨_, rfl⟩
  have hc1 : s.size ≤ c := by rw [hc]; exact grownCap_ge _ _ _ _
  have hc2 : c ≤ maxLen := by rw [hc]; exact grownCap_le_maxLen _ _ _ _ (by simp [maxLen]; omega)
  have hcv1 := hcv w
  rw [← hc] at hcv1
  have ho := ow_of_string w 5 s c hc1 hc2
  clear hcv hc
  have HL := hide (size_of s)
  go_enter Tryz.func43, Tryz.ntmps43
  go_wp2_with fail
  go_loopw [10] (fun i wr => ∃ k : Nat, k ≤ s.size ∧ i = .int .i64 k ∧ Ow wr w.heap.size 1 (.slice (some ⟨w.heap.size, 0, none⟩) s.size c) s.size (bcells (lowL (s.data.toList.take k) ++ s.data.toList.drop k)) ∧ Below w.heap.size w wr) (fun i _ => s.size - (intOf i).toNat)
  case atStart => exact ⟨0, Nat.zero_le _, rfl, ho, (Below.refl _ _).drew.alloc (Nat.le_refl _) _⟩
  case round =>
    clear ho hcv1
    obtain ⟨k, hk, rfl, ho, hb⟩ := hrel
    by_cases hlt : k < s.size
    · obtain ⟨g, off, hA, -, hg2, hcell, hfr⟩ := ho.at_ (j := k) (by omega)
      cases hA
      have hl := HL.out
      have hkl : k < s.data.toList.length := by omega
      have hkk : (lowL (s.data.toList.take k)).length = k := by rw [lowL_length, List.length_take]; omega
      have hget : (bcells (lowL (s.data.toList.take k) ++ s.data.toList.drop k))[k]? = some (.int .u8 s.data.toList[k].toNat) := by
        rw [bcells_get _ k (by rw [List.length_append, hkk, List.length_drop]; omega)]
        simp [hkk]
      rw [hget] at hcell
      have hst := ho.store (j := k) (by omega) (.int .u8 (lowB s.data.toList[k]).toNat)
      rw [bcells_set, lowL_step _ k hkl] at hst
      obtain ⟨b, hbb⟩ : ∃ b, b = s.data.toList[k] := ⟨_, rfl⟩
      rw [← hbb] at hcell hst
      simp only [Nat.zero_add] at hcell hfr hst
      have hb256 := b.toNat_lt
      by_cases hin : 65 ≤ b.toNat ∧ b.toNat ≤ 90
      · have hlb := lowB_hit b hin
        have e1 : (b.toNat : Int) - 65 + 97 = ((lowB b).toNat : Int) := by omega
        obtain ⟨q, hq⟩ : ∃ q : Int, q = ((lowB b).toNat : Int) := ⟨_, rfl⟩
        rw [← hq] at e1 hst hlb
        obtain ⟨hi1, hi2⟩ := hin
        clear hbb hget hl hkl hkk ho hq hlb
        go_wp2
        go_roundw
        case rel => exact ⟨k + 1, by omega, by go_num, by first | exact hst | (rw [e1]; exact hst), hb.setCell (Nat.le_refl _) _⟩
        case measure => simp [intOf]; omega
      · have hlb := lowB_miss b hin
        clear hst
        have hst := ho
        rw [← lowL_stay s.data.toList k hkl (by rw [← hbb]; exact hlb)] at hst
        clear hbb hget hl hkl hkk ho hlb
        by_cases hi1 : 65 ≤ b.toNat
        · have hi2 : 90 < b.toNat := by omega
          clear hin
          go_wp2
          go_roundw
          case rel => exact ⟨k + 1, by omega, by go_num, hst, hb⟩
          case measure => simp [intOf]; omega
        · clear hin
          go_wp2
          go_roundw
          case rel => exact ⟨k + 1, by omega, by go_num, hst, hb⟩
          case measure => simp [intOf]; omega
    · have hrs := run_string_of (P := Tryz.prog) 68 9 5 Tryz.underlying68 Tryz.underlying5 Tryz.underlying9 wr _ s.size c _ _ ho.rd
      have hfin : lowL (s.data.toList.take k) ++ s.data.toList.drop k = lowL s.data.toList := by
        have hl := HL.out
        rw [List.take_of_length_le (by omega), List.drop_eq_nil_of_le (by omega), List.append_nil]
      rw [hfin] at hrs
      clear hfin ho
      go_wp2_with fail
      go_ret
      exact ⟨rfl, hb⟩
set_option maxRecDepth 100000 in
set_option maxHeartbeats 3200000 in
theorem coof_any (s : ByteArray) (w : World) (hs : s.size ≤ 1000000) :
    Calls Tryz.prog 30 #[.string s] w fun e w' => e = .returned (.int .i64 (ofL s.data.toList)) ∧ Below w.heap.size w w' := by
  have hlw := colower_any s w (by omega)
  obtain ⟨x, hx⟩ : ∃ x, x = lowL s.data.toList := ⟨_, rfl⟩
  obtain ⟨r, hr⟩ : ∃ r, r = ofL s.data.toList := ⟨_, rfl⟩
  rw [← hr]
  unfold ofL at hr
  rw [← hx] at hr hlw
  obtain ⟨b, hb⟩ : ∃ b : ByteArray, b = ⟨x.toArray⟩ := ⟨_, rfl⟩
  rw [← hb] at hlw
  have q0 : (b.toList == [105, 100, 101, 110, 116, 105, 116, 121]) = decide (x = cnameL 0) := by rw [ByteArray.toList_eq, hb, Bool.eq_iff_iff, decide_eq_true_iff]; simp [cnameL]
  have q1 : (b.toList == [103, 122, 105, 112]) = decide (x = cnameL 1) := by rw [ByteArray.toList_eq, hb, Bool.eq_iff_iff, decide_eq_true_iff]; simp [cnameL]
  have q2 : (b.toList == [120, 45, 103, 122, 105, 112]) = decide (x = [120, 45, 103, 122, 105, 112]) := by rw [ByteArray.toList_eq, hb, Bool.eq_iff_iff, decide_eq_true_iff]; simp
  have q3 : (b.toList == [100, 101, 102, 108, 97, 116, 101]) = decide (x = cnameL 2) := by rw [ByteArray.toList_eq, hb, Bool.eq_iff_iff, decide_eq_true_iff]; simp [cnameL]
  by_cases h0 : x = cnameL 0
  · rw [if_pos h0] at hr
    rw [decide_eq_true h0] at q0
    subst hr
    clear hb hx h0 q1 q2 q3
    go_enter Tryz.func30, Tryz.ntmps30
    go_wp2_with fail
    refine hlw.mono ?_
    rintro e w1 ⟨rfl, b1⟩
    go_wp2
    go_ret
    exact ⟨rfl, b1⟩
  rw [if_neg h0] at hr
  rw [decide_eq_false h0] at q0
  by_cases h1 : x = cnameL 1
  · rw [if_pos (.inl h1)] at hr
    rw [decide_eq_true h1] at q1
    subst hr
    clear hb hx h0 h1 q2 q3
    go_enter Tryz.func30, Tryz.ntmps30
    go_wp2_with fail
    refine hlw.mono ?_
    rintro e w1 ⟨rfl, b1⟩
    go_wp2
    go_ret
    exact ⟨rfl, b1⟩
  rw [decide_eq_false h1] at q1
  by_cases h2 : x = [120, 45, 103, 122, 105, 112]
  · rw [if_pos (.inr h2)] at hr
    rw [decide_eq_true h2] at q2
    subst hr
    clear hb hx h0 h1 h2 q3
    go_enter Tryz.func30, Tryz.ntmps30
    go_wp2_with fail
    refine hlw.mono ?_
    rintro e w1 ⟨rfl, b1⟩
    go_wp2
    go_ret
    exact ⟨rfl, b1⟩
  rw [decide_eq_false h2] at q2
  rw [if_neg (fun h => h.elim h1 h2)] at hr
  by_cases h3 : x = cnameL 2
  · rw [if_pos h3] at hr
    rw [decide_eq_true h3] at q3
    subst hr
    clear hb hx h0 h1 h2 h3
    go_enter Tryz.func30, Tryz.ntmps30
    go_wp2_with fail
    refine hlw.mono ?_
    rintro e w1 ⟨rfl, b1⟩
    go_wp2
    go_ret
    exact ⟨rfl, b1⟩
  rw [if_neg h3] at hr
  rw [decide_eq_false h3] at q3
  subst hr
  clear hb hx h0 h1 h2 h3
  go_enter Tryz.func30, Tryz.ntmps30
  go_wp2_with fail
  refine hlw.mono ?_
  rintro e w1 ⟨rfl, b1⟩
  go_wp2
  go_ret
  exact ⟨rfl, b1⟩
set_option maxRecDepth 100000 in
set_option maxHeartbeats 3200000 in
theorem pomembers_any (minor status : Int) (s_ : ByteArray) (A : Option Addr) (n c B : Nat) (fs : List (List UInt8 × List UInt8)) (w : World) (h : Rd w B 2 A n (fcells fs)) (hB : B ≤ w.heap.size) (hn : n ≤ 1000) (hok : fsOk fs) :
    Calls Tryz.prog 29 #[.agg #[.int .i64 minor, .int .i64 status, .string s_, .slice A n c]] w fun e w' => ∃ A' c', e = .returned (.slice A' (allL fs codeL).length c') ∧
      w'.ownsRow w.heap.size 9 1 (.slice A' (allL fs codeL).length c') (allL fs codeL).length (scells (allL fs codeL)) ∧ (allL fs codeL).length ≤ c' ∧ Below w.heap.size w w' := by
  obtain ⟨i0, hi0, hz0, hz1, hz2⟩ := info_parts infoStr
  have tW : Below w.heap.size w (w.alloc (.cells #[.int .i64 minor, .int .i64 status, .string s_, .slice A n c] 30)) := (Below.refl _ _).alloc (Nat.le_refl _) _
  have b1 := Box.new w #[.int .i64 minor, .int .i64 status, .string s_, .slice A n c] 30
  have hg := fun (W : World) (b : Below w.heap.size w W) => get_any A n c B fs ⟨#[67, 111, 110, 116, 101, 110, 116, 45, 69, 110, 99, 111, 100, 105, 110, 103]⟩ W (h.below (b.mono hB)) (Nat.le_trans hB b.size) (by omega) hok (by decide)
  have e1 : getL fs (⟨#[67, 111, 110, 116, 101, 110, 116, 45, 69, 110, 99, 111, 100, 105, 110, 103]⟩ : ByteArray).data.toList = getL fs codeL := getL_congr (by decide) fs
  simp only [e1] at hg
  have hmem := getL_mem hok codeL
  have hvl := getL_len fs codeL
  have hfl := h.flen
  rw [hfl] at hvl
  unfold allL
  obtain ⟨vs, hvs⟩ : ∃ vs, vs = getL fs codeL := ⟨_, rfl⟩
  simp only [← hvs] at hg
  rw [← hvs] at hmem hvl ⊢
  have HM := hide hmem
  clear hmem hfl h hok hvs e1
  go_enter Tryz.func29, Tryz.ntmps29
  go_upto_region 1 with (fail)
  generalize w.alloc _ = w0 at b1 tW ⊢
  obtain ⟨x0, x1, x2, x3⟩ := b1.four
  go_wp2_with fail
  refine (hg w0 tW).mono ?_
  rintro e w1 ⟨A1, c1, rfl, o1, hc1, k1⟩
  have b1 := tW.trans (k1.mono tW.size)
  have r1 := Rd.of_own o1
  clear o1 x0 x1 x2 x3 k1
  go_wp2_with fail
  go_loopw [3, 10] (fun o i wr => ∃ k : Nat, k ≤ vs.length ∧ i = .int .i64 k ∧ wr.ownsRow w1.heap.size 9 1 o (allV (vs.take k)).length (scells (allV (vs.take k))) ∧ Below w1.heap.size w1 wr) (fun _ i _ => vs.length - (intOf i).toNat)
  case atStart => exact ⟨0, Nat.zero_le _, rfl, World.ownsRow_nil _ _ _ _, Below.refl _ _⟩
  case round =>
    obtain ⟨k, hk, rfl, ho, hb⟩ := hrel
    by_cases hlt : k < vs.length
    · obtain ⟨a, rfl, -, hcell⟩ := (r1.below hb).text hlt hlt
      have hsn := allV_snoc vs k hlt
      have hal := allV_len (vs.take k) fun v hv => HM.out v (List.mem_of_mem_take hv)
      rw [List.length_take, Nat.min_eq_left hk] at hal
      have hxs := HM.out vs[k] (List.getElem_mem hlt)
      have hbz := hb.size
      obtain ⟨x, hx⟩ : ∃ x, x = vs[k] := ⟨_, rfl⟩
      rw [← hx] at hcell hsn hxs
      have hs := fun w => split_any ⟨x.toArray⟩ w (by rw [mk_size]; omega)
      rw [mk_list] at hs
      have hsl := split_length x
      obtain ⟨ys, hys⟩ : ∃ ys, ys = splitL x := ⟨_, rfl⟩
      rw [← hys] at hs hsn hsl
      obtain ⟨gk, hgk⟩ : ∃ gk, gk = allV (vs.take k) := ⟨_, rfl⟩
      rw [← hgk] at hsn hal ho
      obtain ⟨sx, hsx⟩ : ∃ sx : ByteArray, sx = ⟨x.toArray⟩ := ⟨_, rfl⟩
      rw [← hsx] at hcell hs
      have HS := hide hsn
      clear hsn hx hys hgk hsx
      go_wp2_with fail
      refine (hs _).mono ?_
      rintro e w2 ⟨A2, c2, rfl, o2, hc2, b2⟩
      have r2 := Rd.of_own o2
      have ho2 := own_below ho b2
      have hb2 := hb.trans (b2.mono hbz)
      have hb2z := hb2.size
      clear o2 hs ho
      go_wp2_with (at_builtin; refine wpl_append _ rfl _ _ _ rfl w1.heap.size _ i0 _ 1 16 Tryz.underlying23 hi0 hz0 hz1 hz2 rfl (by omega) _ _ _ rfl _ _ _ _ _ rfl ho2 r2 (scells_one ys) (by simp [maxLen]; omega) (by omega) hb2z ?_; intro v1 w3 hown1 hbel1 _)
      go_roundw
      case rel => exact ⟨k + 1, by omega, by go_num, by rw [HS.out, List.length_append, ← scells_append]; exact hown1, hb2.trans hbel1⟩
      case measure => simp [intOf]; omega
    · rw [List.take_of_length_le (by omega)] at ho
      go_wp2
      go_ret
      obtain ⟨A', c', rfl, hc', -⟩ := own_shape ho
      exact ⟨A', c', rfl, own_base ho b1.size, hc', b1.trans (hb.mono b1.size)⟩

set_option maxRecDepth 100000 in
set_option maxHeartbeats 3200000 in
theorem pocoding_any (minor status : Int) (s_ : ByteArray) (A : Option Addr) (n c B : Nat) (fs : List (List UInt8 × List UInt8)) (w : World) (h : Rd w B 2 A n (fcells fs)) (hB : B ≤ w.heap.size) (hn : n ≤ 1000) (hok : fsOk fs) :
    Calls Tryz.prog 17 #[.agg #[.int .i64 minor, .int .i64 status, .string s_, .slice A n c]] w fun e w' => e = .returned (.int .i64 (codingL (allL fs codeL))) ∧ Below w.heap.size w w' := by
  have tW : Below w.heap.size w (w.alloc (.cells #[.int .i64 minor, .int .i64 status, .string s_, .slice A n c] 30)) := (Below.refl _ _).alloc (Nat.le_refl _) _
  have b1 := Box.new w #[.int .i64 minor, .int .i64 status, .string s_, .slice A n c] 30
  have q := fun (W : World) (b : Below w.heap.size w W) => pomembers_any minor status s_ A n c B fs W (h.below (b.mono hB)) (Nat.le_trans hB b.size) hn hok
  have hmem := allV_mem _ (getL_mem hok codeL)
  change ∀ x ∈ allL fs codeL, _ at hmem
  obtain ⟨T, hT⟩ : ∃ T, T = allL fs codeL := ⟨_, rfl⟩
  simp only [← hT] at q
  rw [← hT] at hmem ⊢
  clear hT h hok
  rcases T with _ | ⟨x, _ | ⟨y, T⟩⟩
  · simp only [List.length_nil] at q
    go_enter Tryz.func17, Tryz.ntmps17
    go_upto_region 1 with (fail)
    generalize w.alloc _ = w1 at b1 tW ⊢
    obtain ⟨x0, x1, x2, x3⟩ := b1.four
    go_wp2_with fail
    refine (q w1 tW).mono ?_
    rintro e w2 ⟨A2, c2, rfl, o2, hc2, k2⟩
    have t2 := tW.trans (k2.mono tW.size)
    clear x0 x1 x2 x3 k2
    go_wp2
    go_ret
    exact ⟨rfl, t2⟩
  · simp only [List.length_cons, List.length_nil, Nat.zero_add] at q
    have hxl := hmem x (by simp)
    rw [codingL_one]
    go_enter Tryz.func17, Tryz.ntmps17
    go_upto_region 1 with (fail)
    generalize w.alloc _ = w1 at b1 tW ⊢
    obtain ⟨x0, x1, x2, x3⟩ := b1.four
    go_wp2_with fail
    refine (q w1 tW).mono ?_
    rintro e w2 ⟨A2, c2, rfl, o2, hc2, k2⟩
    have t2 := tW.trans (k2.mono tW.size)
    clear x0 x1 x2 x3 k2
    have rT := Rd.of_own o2
    obtain ⟨a, rfl, -, hcell⟩ := rT.text (k := 0) (by omega) (by simp)
    rw [Addr.add_zero'] at hcell
    have hcell' : w2.cell? a = some (.string ⟨x.toArray⟩) := hcell
    have ho := coof_any ⟨x.toArray⟩ w2 (by rw [mk_size]; omega)
    rw [mk_list] at ho
    obtain ⟨sx, hsx⟩ : ∃ s : ByteArray, s = ⟨x.toArray⟩ := ⟨_, rfl⟩
    rw [← hsx] at hcell' ho
    clear hcell o2 rT hsx
    go_wp2_with fail
    refine ho.mono ?_
    rintro e w3 ⟨rfl, b3⟩
    go_wp2
    go_ret
    exact ⟨rfl, t2.trans (b3.mono t2.size)⟩
  · obtain ⟨m, hm⟩ : ∃ m, m = T.length := ⟨_, rfl⟩
    have e : (x :: y :: T).length = m + 2 := by rw [hm]; rfl
    simp only [e] at q
    have e0 : ((m : Int) + 2 == 0) = false := by simp; omega
    have e1 : ((m : Int) + 2 == 1) = false := by simp; omega
    have e3 : codingL (x :: y :: T) = 3 := rfl
    rw [e3]
    clear e3 e hm hmem
    go_enter Tryz.func17, Tryz.ntmps17
    go_upto_region 1 with (fail)
    generalize w.alloc _ = w1 at b1 tW ⊢
    obtain ⟨x0, x1, x2, x3⟩ := b1.four
    go_wp2_with fail
    refine (q w1 tW).mono ?_
    rintro e w2 ⟨A2, c2, rfl, o2, hc2, k2⟩
    have t2 := tW.trans (k2.mono tW.size)
    clear x0 x1 x2 x3 k2
    go_wp2
    go_ret
    exact ⟨rfl, t2⟩
end Go.Proofs.YtgdjlmpfjmakkaaGreatDoor
