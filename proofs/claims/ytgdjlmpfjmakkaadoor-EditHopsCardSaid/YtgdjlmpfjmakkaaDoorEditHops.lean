/- EditHops returns true, whatever its arguments. -/
import Derived.Test.YtgdjlmpfjmakkaaDoorHopsLaw
import Derived.Test.YtgdjlmpfjmakkaaDoorEditReq
import Derived.Test.YtgdjlmpfjmakkaaDoorEditSmall
import Derived.Test.YtgdjlmpfjmakkaaDoorStructs
import Derived.Test.YtgdjlmpfjmakkaaDoorFrameTells
namespace Go.Proofs.YtgdjlmpfjmakkaaDoor.EditHopsP
open Go.RowKit
open FrameLengthsP (step_ rd_put rd_two)
open FrameSmugglesP (allocs allocs_size allocs_below allocs_cell allocs_rd)
open FrameTellsP (of_drew cell_keep)

theorem below_drew' {w : World} {B : Nat} : Below B w w.drew := below_drewN (k := 1) (Below.refl _ _)
theorem arr_list (b : ByteArray) : (⟨b.data.toList.toArray⟩ : ByteArray) = b := bytes_ext (by simp)
def stayB' : Nat → ByteArray
  | 0 => ⟨#[67, 111, 110, 116, 101, 110, 116, 45, 76, 101, 110, 103, 116, 104]⟩
  | 1 => ⟨#[99, 111, 110, 116, 101, 110, 116, 45, 101, 110, 99, 111, 100, 105, 110, 103]⟩
  | 2 => ⟨#[72, 79, 83, 84]⟩
  | 3 => ⟨#[86, 97, 114, 121]⟩
  | _ => ⟨#[101, 116, 97, 103]⟩
def fixB : Nat → ByteArray
  | 0 => ⟨#[99, 111, 110, 116, 101, 110, 116, 45, 108, 101, 110, 103, 116, 104]⟩
  | 1 => ⟨#[99, 111, 110, 116, 101, 110, 116, 45, 101, 110, 99, 111, 100, 105, 110, 103]⟩
  | 2 => ⟨#[104, 111, 115, 116]⟩
  | 3 => ⟨#[118, 97, 114, 121]⟩
  | _ => ⟨#[101, 116, 97, 103]⟩
theorem stay_bytes : ∀ k, k < 5 → (stayB' k).data.toList = stayN k ∧ (fixB k).data.toList = fixN k := by decide

set_option maxRecDepth 100000 in
set_option maxHeartbeats 6400000 in
theorem walk (A : Option Addr) (n c : Nat) (fs : List (List UInt8 × List UInt8)) (name value : ByteArray) (which : Int) (w : World)
    (h : Rd w w.heap.size 2 A n (fcells fs)) (hn : n ≤ 9223372036854775807) (hz : ∀ f ∈ fs, f.1.length ≤ reachBytes ∧ f.2.length ≤ reachBytes) (hns : name.size ≤ 9223372036854775807) (_hvs : value.size ≤ 9223372036854775807) (hwf : (Lit.int .u8 which).wf = true) :
    Calls Tryd.prog 4 #[.slice A n c, .string name, .string value, .int .u8 which] w fun e w' => e = .returned (.bool true) ∧ Below w.heap.size w w' := by
  have hl := of_drew (light23_any A n c _ fs w h hn hz)
  have hnm := fun W => refname_any name W hns
  have hfl := h.flen
  rcases hL : lightS 70 5000 fs with _ | _
  · rw [hL] at hl
    go_enter Tryd.func4, Tryd.ntmps4
    go_wp2_with fail
    refine hl.mono ?_
    rintro e w2 ⟨rfl, k2⟩
    go_upto_region 2 with (fail)
    go_wp2_with fail
    refine (ans23_any w2).mono ?_
    rintro e w' ⟨rfl, hB⟩
    go_wp2
    go_ret
    exact ⟨rfl, k2.trans (hB.mono k2.size)⟩
  rw [hL] at hl
  rcases hG : goodNameL name.data.toList with _ | _
  · simp only [hG] at hnm
    go_enter Tryd.func4, Tryd.ntmps4
    go_wp2_with fail
    refine hl.mono ?_
    rintro e w2 ⟨rfl, k2⟩
    go_wp2_with fail
    refine (hnm w2).mono ?_
    rintro e w3 ⟨rfl, rfl⟩
    go_upto_region 2 with (fail)
    go_wp2_with fail
    refine (ans23_any w2).mono ?_
    rintro e w' ⟨rfl, hB⟩
    go_wp2
    go_ret
    exact ⟨rfl, k2.trans (hB.mono k2.size)⟩
  simp only [hG] at hnm
  by_cases hv : 300 < value.size
  · have hvd : decide ((300 : Int) < (value.size : Int)) = true := decide_eq_true (by omega)
    go_enter Tryd.func4, Tryd.ntmps4
    go_wp2_with fail
    refine hl.mono ?_
    rintro e w2 ⟨rfl, k2⟩
    go_wp2_with fail
    refine (hnm w2).mono ?_
    rintro e w3 ⟨rfl, rfl⟩
    go_upto_region 2 with (fail)
    go_wp2_with fail
    refine (ans23_any w2).mono ?_
    rintro e w' ⟨rfl, hB⟩
    go_wp2
    go_ret
    exact ⟨rfl, k2.trans (hB.mono k2.size)⟩
  have hvd : decide ((300 : Int) < (value.size : Int)) = false := decide_eq_false (by omega)
  obtain ⟨hok, h70, -⟩ := lightS_ok hL (by omega)
  rw [hfl] at h70
  obtain ⟨i0, hi0, hz0, hz1, hz2⟩ := info_parts infoFld
  obtain ⟨z, rfl, hz5⟩ : ∃ z : Nat, which = z ∧ z < 256 := by
    simp [Lit.wf, IntKind.min, IntKind.max, IntKind.signed, IntKind.bits] at hwf
    exact ⟨which.toNat, by omega, by omega⟩
  have hsz : name.data.toList.length ≤ 256 := by unfold goodNameL at hG; simp at hG; simp; omega
  have hnz : name.size ≤ 256 := by rw [size_of]; exact hsz
  have hvz : value.size ≤ 300 := by omega
  obtain ⟨st, hst⟩ : ∃ st, st = stayN (z % 5) := ⟨_, rfl⟩
  obtain ⟨hs1, hs2, hs3⟩ := stay_facts (z % 5) (by omega)
  rw [← hst] at hs1 hs2 hs3
  obtain ⟨bst, hbst⟩ : ∃ b, b = stayB' (z % 5) := ⟨_, rfl⟩
  have hbl : bst.data.toList = st := by rw [hbst, hst]; exact (stay_bytes (z % 5) (by omega)).1
  have hbz : bst.size ≤ 16 := by rw [size_of, hbl]; exact hs3
  have hlw := fun W => reflower_any name W (by omega)
  obtain ⟨bl, hbl2⟩ : ∃ b : ByteArray, b = ⟨(lowL name.data.toList).toArray⟩ := ⟨_, rfl⟩
  simp only [← hbl2] at hlw
  have hbll : bl.data.toList = lowL name.data.toList := by rw [hbl2]
  have hblz : bl.size ≤ 256 := by rw [size_of, hbll, lowL_length]; exact hsz
  obtain ⟨qs, hqs⟩ : ∃ q, q = hopF fs name.data.toList value.data.toList st := ⟨_, rfl⟩
  have hqok : fsOk qs := by rw [hqs]; exact hop_ok hok (by omega) (by rw [← size_of]; omega) (by omega)
  have hql : qs.length = n + 3 := by rw [hqs]; unfold hopF; rw [List.length_append, hfl]; rfl
  obtain ⟨G, hlast⟩ := hop_last fs name.data.toList value.data.toList st hs1
  have hgone := hop_gone fs name.data.toList value.data.toList st hG hs2
  rw [← hqs] at hlast hgone
  have hconn := request_conn qs 0
  have hr0 : requestF qs 0 = withoutL qs := by unfold requestF; rw [if_neg (by decide)]
  rw [hr0] at hconn
  have hwok := fsOk_without hqok
  have hwl : (withoutL qs).length ≤ n + 3 := by have : (withoutL qs).length ≤ qs.length := dropsL_len _ _; omega
  have g1 := fun (A : Option Addr) (c : Nat) (W : World) (r : Rd W W.heap.size 2 A (n + 3) (fcells qs)) => editreq_any ⟨#[]⟩ ⟨#[]⟩ 1 A (n + 3) c _ qs 0 0 W r (Nat.le_refl _) (by omega) hqok
  simp only [hr0] at g1
  obtain ⟨ls, hls⟩ : ∃ l, l = withoutL qs := ⟨_, rfl⟩
  rw [← hls] at hlast hgone hconn hwok hwl
  simp only [← hls] at g1
  obtain ⟨L, hLL⟩ : ∃ L, ls.length = L := ⟨_, rfl⟩
  rw [hLL] at hwl
  simp only [hLL] at g1
  have HQS := hide hqs
  have HLAST := hide hlast
  have HGONE := hide hgone
  have HCONN := hide hconn
  have HBL := hide hbll
  have HST := hide hbl
  have HBST := hide hbst
  clear hqs hlast hgone hconn hbll hbl hst hbst hbl2 hls hLL hr0 hL hG hv hz hwf hql hs1 hs2 hs3 hsz
  go_enter Tryd.func4, Tryd.ntmps4
  go_wp2_with fail
  refine hl.mono ?_
  rintro e w2 ⟨rfl, k2⟩
  go_wp2_with fail
  refine (hnm w2).mono ?_
  rintro e w3 ⟨rfl, rfl⟩
  clear hl hnm
  have r2 := step_ h k2
  obtain ⟨wn, hwn⟩ : ∃ x, x = w2.alloc (.cells #[.string ⟨#[67, 111, 110, 116, 101, 110, 116, 45, 76, 101, 110, 103, 116, 104]⟩, .string ⟨#[99, 111, 110, 116, 101, 110, 116, 45, 101, 110, 99, 111, 100, 105, 110, 103]⟩, .string ⟨#[72, 79, 83, 84]⟩, .string ⟨#[86, 97, 114, 121]⟩, .string ⟨#[101, 116, 97, 103]⟩] 9) := ⟨_, rfl⟩
  have kn : Below w2.heap.size w2 wn := by rw [hwn]; exact (Below.refl _ _).alloc (Nat.le_refl _) _
  have dn : wn.cell? ⟨w2.heap.size, z % 5, none⟩ = some (.string bst) := by
    rw [hwn, World.cell?_alloc_new, HBST.out]
    have : z % 5 = 0 ∨ z % 5 = 1 ∨ z % 5 = 2 ∨ z % 5 = 3 ∨ z % 5 = 4 := by omega
    rcases this with e | e | e | e | e <;> rw [e] <;> rfl
  have hwn' := hwn.symm
  clear hwn
  go_upto_region 4 with (fail)
  clear dn hwn'
  have r3 := step_ r2 kn
  have t3 := k2.trans (kn.mono k2.size)
  clear r2 h k2 kn
  have ho := own_new wn #[] 38 2 0 rfl (by unfold maxLen; omega) wn.heap.size (Nat.le_refl _)
  have hr := r3.alloc (Nat.le_refl _) (.cells #[] 38)
  have ta : Below wn.heap.size wn (wn.alloc (.cells #[] 38)) := (Below.refl _ _).alloc (Nat.le_refl _) _
  go_wp2_with (at_builtin; refine wpl_append _ rfl _ _ _ rfl wn.heap.size _ i0 _ 2 32 Tryd.underlying22 hi0 hz0 hz1 hz2 rfl (by omega) _ _ _ rfl _ _ _ _ _ rfl ho hr (fcells_one fs) (by unfold maxLen; omega) (by omega) ta.size ?_; intro v1 w4 hown1 hbel1 _; rw [Nat.zero_add] at hown1; have hown2 : w4.ownsRow wn.heap.size 38 2 v1 n (fcells fs) := hown1)
  refine (hlw w4).mono ?_
  rintro e w5 ⟨rfl, k5⟩
  have t4 := t3.trans ((ta.trans hbel1).mono t3.size)
  have t5 := t4.trans (k5.mono t4.size)
  have hown5 := own_below hown2 (k5.mono (Nat.le_refl _))
  have hz5n : wn.heap.size ≤ w5.heap.size := Nat.le_trans (ta.trans hbel1).size k5.size
  clear ho hr hown1 hown2 r3 k5 hbel1 ta t4 hlw
  have rn := rd_new w5 #[.string ⟨#[99, 111, 110, 110, 101, 99, 116, 105, 111, 110]⟩, .string (bl ++ ⟨#[32, 44, 32]⟩ ++ bst), .string name, .string value, .string bst, .string ⟨#[53]⟩] 38 2 3 rfl
  have hown6 := own_below hown5 ((Below.refl _ _).alloc (Nat.le_refl _) (.cells #[.string ⟨#[99, 111, 110, 110, 101, 99, 116, 105, 111, 110]⟩, .string (bl ++ ⟨#[32, 44, 32]⟩ ++ bst), .string name, .string value, .string bst, .string ⟨#[53]⟩] 38))
  have t6 := t5.alloc t5.size (.cells #[.string ⟨#[99, 111, 110, 110, 101, 99, 116, 105, 111, 110]⟩, .string (bl ++ ⟨#[32, 44, 32]⟩ ++ bst), .string name, .string value, .string bst, .string ⟨#[53]⟩] 38)
  have hone : ∀ u ∈ (#[.string ⟨#[99, 111, 110, 110, 101, 99, 116, 105, 111, 110]⟩, .string (bl ++ ⟨#[32, 44, 32]⟩ ++ bst), .string name, .string value, .string bst, .string ⟨#[53]⟩] : Array Value).toList, u.oneCell' = true := by simp [Value.oneCell']
  go_upto_region 5 with (at_builtin; refine wpl_append _ rfl _ _ _ rfl wn.heap.size _ i0 _ 2 32 Tryd.underlying22 hi0 hz0 hz1 hz2 rfl (by omega) _ _ _ rfl _ _ _ _ _ rfl hown6 rn hone (by unfold maxLen; omega) (by omega) (by simp; omega) ?_; intro v2 w7 hown7 hbel7 _)
  have hcat : fcells fs ++ [.string ⟨#[99, 111, 110, 110, 101, 99, 116, 105, 111, 110]⟩, .string (bl ++ ⟨#[32, 44, 32]⟩ ++ bst), .string name, .string value, .string bst, .string ⟨#[53]⟩] = fcells qs := by
    have e1 : (⟨(lowL name.data.toList ++ [32, 44, 32] ++ st).toArray⟩ : ByteArray) = bl ++ ⟨#[32, 44, 32]⟩ ++ bst := bytes_ext (by simp [HBL.out, HST.out])
    have e2 : (⟨st.toArray⟩ : ByteArray) = bst := bytes_ext (by simp [HST.out])
    rw [HQS.out]
    unfold hopF
    rw [← fcells_append]
    simp only [fcells, arr_list, e1, e2]
    rfl
  rw [hcat] at hown7
  obtain ⟨A7, c7, rfl, -, -⟩ := own_shape hown7
  have r7 := Rd.of_own hown7
  have t7 := t6.trans (hbel7.mono (Nat.le_trans t3.size (Nat.le_refl _)))
  clear hown7 hown6 hown5 rn hone hcat hbel7 t6 t5 t3 hz5n hi0 hz0 hz1 hz2 HQS
  go_wp2_with fail
  refine (g1 A7 c7 w7 r7).mono ?_
  rintro e w8 ⟨A8, c8, rfl, o8, hc8, k8⟩
  go_upto_region 6 with (fail)
  have bx := Box.new w8 #[.string ⟨#[]⟩, .string ⟨#[]⟩, .int .i64 1, .slice A8 L c8] 24
  have rx := (o8.alloc (.cells #[.string ⟨#[]⟩, .string ⟨#[]⟩, .int .i64 1, .slice A8 L c8] 24)).rd
  have t8 := t7.trans ((k8.alloc k8.size (.cells #[.string ⟨#[]⟩, .string ⟨#[]⟩, .int .i64 1, .slice A8 L c8] 24)).mono t7.size)
  obtain ⟨gx, hgx⟩ : ∃ g, g = w8.heap.size := ⟨_, rfl⟩
  rw [← hgx] at bx
  rw [← hgx]
  generalize w8.alloc _ = w9 at bx rx t8 ⊢
  clear hgx k8 o8 g1 t7 r7
  obtain ⟨wf, hwf⟩ : ∃ x, x = w9.alloc (.cells #[.string ⟨#[99, 111, 110, 116, 101, 110, 116, 45, 108, 101, 110, 103, 116, 104]⟩, .string ⟨#[99, 111, 110, 116, 101, 110, 116, 45, 101, 110, 99, 111, 100, 105, 110, 103]⟩, .string ⟨#[104, 111, 115, 116]⟩, .string ⟨#[118, 97, 114, 121]⟩, .string ⟨#[101, 116, 97, 103]⟩] 9) := ⟨_, rfl⟩
  have kf : Below w9.heap.size w9 wf := by rw [hwf]; exact (Below.refl _ _).alloc (Nat.le_refl _) _
  have KN : ∀ X, Below wf.heap.size wf X → ∀ j, j < 5 → X.cell? ⟨w9.heap.size, j, none⟩ = some (.string (fixB j)) := by
    intro X b j hj
    rw [b.cell (p := ⟨w9.heap.size, j, none⟩) (by rw [hwf]; simp), hwf, World.cell?_alloc_new]
    have : j = 0 ∨ j = 1 ∨ j = 2 ∨ j = 3 ∨ j = 4 := by omega
    rcases this with e | e | e | e | e <;> rw [e] <;> rfl
  have hwf' := hwf.symm
  clear hwf
  go_upto_region 8 with (fail)
  clear hwf'
  obtain ⟨gf, hgf⟩ : ∃ g, g = w9.heap.size := ⟨_, rfl⟩
  rw [← hgf] at KN
  rw [← hgf]
  clear hgf
  replace bx := bx.below kf
  replace rx := step_ rx kf
  have t9 := t8.trans (kf.mono t8.size)
  clear kf t8
  have hlw := fun W => reflower_any name W (by omega)
  have hbla : (⟨(lowL name.data.toList).toArray⟩ : ByteArray) = bl := bytes_ext (by simp [HBL.out])
  simp only [hbla] at hlw
  have hcmp : ∀ j, j < 5 → (bl.toList == (fixB j).toList) = decide (lowL name.data.toList = fixN j) := fun j hj => by
    rw [ByteArray.toList_eq, ByteArray.toList_eq, HBL.out, (stay_bytes j hj).2, Bool.eq_iff_iff, decide_eq_true_iff]; simp
  clear hbla
  go_wp2_with fail
  go_loopw [12, 14] (fun kv i wr => ∃ j : Nat, j ≤ 5 ∧ i = .int .i64 j ∧ kv = .bool (keptB name.data.toList j) ∧ Below wf.heap.size wf wr) (fun _ i _ => 5 - (intOf i).toNat)
  case atStart => exact ⟨0, by omega, rfl, rfl, Below.refl _ _⟩
  case round =>
    obtain ⟨j, hj, rfl, rfl, hb⟩ := hrel
    by_cases hlt : j < 5
    · have hji : (j : Int) < 5 := by omega
      have hks := kept_snoc name.data.toList j
      have hcj := hcmp j hlt
      have d0 := KN wr hb j hlt
      obtain ⟨kb, hkb⟩ : ∃ b, b = keptB name.data.toList j := ⟨_, rfl⟩
      obtain ⟨eb, heb⟩ : ∃ b, b = decide (lowL name.data.toList = fixN j) := ⟨_, rfl⟩
      rw [← hkb, ← heb] at hks
      rw [← heb] at hcj
      rw [← hkb]
      have HKS := hide hks
      obtain ⟨bf, hbf⟩ : ∃ b, b = fixB j := ⟨_, rfl⟩
      rw [← hbf] at d0 hcj
      clear hks hkb heb hbf hcmp KN
      go_upto_region 11 with (fail)
      have d1 : wr.drew.cell? ⟨gf, j, none⟩ = some (.string bf) := d0
      rcases kb with _ | _
      · go_region_held3 (fun W => W.cell? ⟨gf, j, none⟩ = some (.string bf))
          (first | exact d1 | exact cell_keep d1 k12 | assumption)
          (first
            | (go_at_call 22; refine (hlw _).mono ?_; rintro e w12 ⟨rfl, k12⟩))
        go_wp2
        go_roundw
        case rel => exact ⟨j + 1, by omega, by go_num, by rw [HKS.out]; rfl, hb.trans ((below_drew'.trans (k12.mono (Nat.le_refl _))).mono hb.size)⟩
        case measure => simp [intOf]; omega
      · go_quiet (fail)
        go_wp2
        go_roundw
        case rel => exact ⟨j + 1, by omega, by go_num, by rw [HKS.out]; rfl, by first | exact hb | exact hb.trans (below_drew'.mono hb.size) | exact below_drewN hb⟩
        case measure => simp [intOf]; omega
    · have hj5 : j = 5 := by omega
      subst hj5
      rw [kept_all]
      clear KN hcmp hlw hlt hj
      replace bx := bx.below hb
      replace rx := step_ rx hb
      have t10 := t9.trans (hb.mono t9.size)
      clear hb t9
      have q1 := fun (W : World) (r : Rd W W.heap.size 2 A8 L (fcells ls)) => refget_any A8 L c8 _ ls bst W r (Nat.le_refl _) (by omega) hwok (by omega)
      have e1 : getL ls bst.data.toList = G ++ [[53]] := by rw [HST.out, HLAST.out]
      rw [e1] at q1
      obtain ⟨M, hM⟩ : ∃ M, M = G.length := ⟨_, rfl⟩
      have e2 : (G ++ [[53]]).length = M + 1 := by rw [List.length_append, hM]; rfl
      rw [e2] at q1
      have hG : M ≤ 100 := by
        have := getL_len ls bst.data.toList
        rw [e1, e2] at this
        have := rx.flen
        omega
      obtain ⟨T, hT⟩ : ∃ T, T = G ++ [[53]] := ⟨_, rfl⟩
      rw [← hT] at q1 e2
      have e3 : ∀ h : M < T.length, T[M] = [53] := fun h => by
        have h1 : T[M]? = some [53] := by rw [hT, hM, List.getElem?_append_right (Nat.le_refl _)]; simp
        rw [List.getElem?_eq_getElem h] at h1
        exact Option.some.inj h1
      have HT := hide e2
      have HE3 := hide e3
      clear e1 e2 e3 hT hM
      have q2 := fun (W : World) (r : Rd W W.heap.size 2 A8 L (fcells ls)) => refget_any A8 L c8 _ ls name W r (Nat.le_refl _) (by omega) hwok (by omega)
      have q3 := fun (W : World) (r : Rd W W.heap.size 2 A8 L (fcells ls)) => refget_any A8 L c8 _ ls ⟨#[67, 111, 110, 110, 101, 99, 116, 105, 111, 110]⟩ W r (Nat.le_refl _) (by omega) hwok (by decide)
      have e4 : getL ls (⟨#[67, 111, 110, 110, 101, 99, 116, 105, 111, 110]⟩ : ByteArray).data.toList = [] := HCONN.out
      rw [e4] at q3
      simp only [List.length_nil] at q3
      clear e4
      obtain ⟨x0, x1, x2, x3⟩ := bx.four
      go_wp2_with fail
      refine (q1 wr rx).mono ?_
      rintro e w10 ⟨A10, c10, rfl, o10, hc10, k⟩
      have rT := Rd.of_own o10
      obtain ⟨a, rfl, -, hcell⟩ := rT.text (k := M) (by omega) (by rw [HT.out]; omega)
      rw [HE3.out] at hcell
      replace bx := bx.below k
      replace rx := step_ rx k
      have t11 := t10.trans (k.mono t10.size)
      clear k t10 o10 q1 x0 x1 x2 x3
      have hM1 : ((M : Int) + 1 - 1) = M := by omega
      have hM2 : decide ((1 : Int) ≤ (M : Int) + 1) = true := decide_eq_true (by omega)
      rcases hkp : staysB name.data.toList with _ | _
      · have e5 := HGONE.out hkp
        rw [e5] at q2
        simp only [List.length_nil] at q2
        clear e5 hkp
        go_wp2_with fail
        refine (ans23_any w10).mono ?_
        rintro e w11 ⟨rfl, k⟩
        replace bx := bx.below k
        replace rx := step_ rx k
        have hcell' := cell_keep hcell k
        have t12 := t11.trans (k.mono t11.size)
        clear k t11 hcell rT
        obtain ⟨x0, x1, x2, x3⟩ := bx.four
        go_wp2_with fail
        refine (q2 w11 rx).mono ?_
        rintro e w12 ⟨A12, c12, rfl, -, -, k⟩
        replace bx := bx.below k
        replace rx := step_ rx k
        have t13 := t12.trans (k.mono t12.size)
        clear k t12 x0 x1 x2 x3 hcell'
        obtain ⟨x0, x1, x2, x3⟩ := bx.four
        go_wp2_with fail
        refine (q3 w12 rx).mono ?_
        rintro e w13 ⟨A13, c13, rfl, -, -, k⟩
        go_wp2
        go_ret
        exact ⟨rfl, t13.trans (k.mono t13.size)⟩
      · clear hkp
        go_wp2_with fail
        refine (ans23_any w10).mono ?_
        rintro e w11 ⟨rfl, k⟩
        replace bx := bx.below k
        replace rx := step_ rx k
        have hcell' := cell_keep hcell k
        have t12 := t11.trans (k.mono t11.size)
        clear k t11 hcell rT
        obtain ⟨x0, x1, x2, x3⟩ := bx.four
        go_wp2_with fail
        refine (q3 w11 rx).mono ?_
        rintro e w13 ⟨A13, c13, rfl, -, -, k⟩
        go_wp2
        go_ret
        exact ⟨rfl, t12.trans (k.mono t12.size)⟩
end Go.Proofs.YtgdjlmpfjmakkaaDoor.EditHopsP
