/- accept.member: one of a list. -/
import Derived.Test.YtgdjlmpfjmakkaaDoorRefWeight
import Derived.Test.YtgdjlmpfjmakkaaDoorTold
import Derived.Test.YtgdjlmpfjmakkaaDoorRefName
namespace Go.Proofs.YtgdjlmpfjmakkaaDoor
open Go.RowKit

def xgzipL : List UInt8 := [120, 45, 103, 122, 105, 112]
def gzipL : List UInt8 := [103, 122, 105, 112]
def qeqL : List UInt8 := [113, 61]
/-- A member's name: x-gzip is gzip. -/
def mnameL (s : List UInt8) : List UInt8 := if lowL (trimL (cutHead 59 s)) = xgzipL then gzipL else lowL (trimL (cutHead 59 s))
/-- One of a list, and whether it is one. -/
def memberL (s : List UInt8) : (List UInt8 × Nat) × Bool :=
  if goodNameL (lowL (trimL (cutHead 59 s))) = true then
    (if cutHas 59 s = true then
      (if 2 ≤ (trimL (cutTail 59 s)).length ∧ sameL ((trimL (cutTail 59 s)).take 2) qeqL = true ∧ (weightL ((trimL (cutTail 59 s)).drop 2)).2 = true then ((mnameL s, (weightL ((trimL (cutTail 59 s)).drop 2)).1), true) else (([], 0), false))
    else ((mnameL s, 1000), true))
  else (([], 0), false)
def itV (m : (List UInt8 × Nat) × Bool) : Value := .tuple #[.agg #[.string ⟨m.1.1.toArray⟩, .int .i64 m.1.2], .bool m.2]
theorem results_it {fn : Func} {p u : Tmp} (h : fn.results = #[.cell p 59, .tmp u]) (tmps : Array Value) (w2 : World) (g : Nat) (x y e : Value) (a0 a1 : Value) (h0 : w2.cell? ⟨g, 0, none⟩ = some a0) (h1 : w2.cell? ⟨g, 1, none⟩ = some a1)
    (hp : tmps.getD p undef = .pointer (some ⟨g, 0, none⟩)) (hu : tmps.getD u undef = e) :
    (results fn tmps).run Tryd.prog ((w2.setCell ⟨g, 0, none⟩ x).setCell ⟨g, 1, none⟩ y) = .ok (.tuple #[.agg #[x, y], e]) ((w2.setCell ⟨g, 0, none⟩ x).setCell ⟨g, 1, none⟩ y) := by
  have k0 : (w2.setCell ⟨g, 0, none⟩ x).cell? ⟨g, 0, none⟩ = some x := World.cell?_setCell_same' w2 _ _ (by rw [h0]; rfl)
  have k1 : ((w2.setCell ⟨g, 0, none⟩ x).setCell ⟨g, 1, none⟩ y).cell? ⟨g, 1, none⟩ = some y := World.cell?_setCell_same' _ _ _ (by rw [World.cell?_setCell_other _ _ _ _ (by simp), h1]; rfl)
  have hp' : tmps[p]?.getD undef = .pointer (some ⟨g, 0, none⟩) := by simpa using hp
  have hu' : tmps[u]?.getD undef = e := by simpa using hu
  simp [results, h, hp', hu', go_sem, k0, k1]
theorem trimL_le (l : List UInt8) : (trimL l).length ≤ l.length := by
  show (List.dropWhile blankB (l.reverse.dropWhile blankB).reverse).length ≤ l.length
  have h1 := (List.dropWhile_sublist (l := (l.reverse.dropWhile blankB).reverse) blankB).length_le
  have h2 := (List.dropWhile_sublist (l := l.reverse) blankB).length_le
  rw [List.length_reverse] at h1 h2
  omega

set_option maxRecDepth 100000 in
set_option maxHeartbeats 3200000 in
theorem member_any (s : ByteArray) (w : World) (hs : s.size ≤ 1000000) :
    Calls Tryd.prog 90 #[.string s] w fun e w' => e = .returned (itV (memberL s.data.toList)) ∧ Below w.heap.size w w' := by
  have hc := fun w => strcut_any s 59 w (by omega)
  have hh1 := cutHead_le 59 s.data.toList
  have ht1 : (cutTail 59 s.data.toList).length ≤ s.data.toList.length := by unfold cutTail; rw [List.length_drop]; omega
  rw [← size_of] at hh1 ht1
  have hle1 := trimL_le (cutHead 59 s.data.toList)
  have hle2 := trimL_le (cutTail 59 s.data.toList)
  obtain ⟨r, hr⟩ : ∃ r, r = memberL s.data.toList := ⟨_, rfl⟩
  rw [← hr]
  unfold memberL mnameL at hr
  obtain ⟨hd, hhd⟩ : ∃ hd, hd = cutHead 59 s.data.toList := ⟨_, rfl⟩
  obtain ⟨tl, htl⟩ : ∃ tl, tl = cutTail 59 s.data.toList := ⟨_, rfl⟩
  rw [← hhd, ← htl] at hr
  simp only [← hhd, ← htl] at hc
  rw [← hhd] at hle1 hh1
  rw [← htl] at hle2 ht1
  obtain ⟨bs, hbs⟩ : ∃ h, h = cutHas 59 s.data.toList := ⟨_, rfl⟩
  rw [← hbs] at hr
  simp only [← hbs] at hc
  obtain ⟨th, hth⟩ : ∃ t, t = trimL hd := ⟨_, rfl⟩
  obtain ⟨tt, htt⟩ : ∃ t, t = trimL tl := ⟨_, rfl⟩
  rw [← hth] at hr hle1
  rw [← htt] at hr hle2
  have q1 := fun w => trim_any ⟨hd.toArray⟩ w (by rw [mk_size]; omega)
  have q2 := fun w => lower_any ⟨th.toArray⟩ w (by rw [mk_size]; omega)
  have q3 := fun w => goodName_any ⟨(lowL th).toArray⟩ w (by rw [mk_size, lowL_length]; omega)
  have q4 := fun w => trim_any ⟨tl.toArray⟩ w (by rw [mk_size]; omega)
  simp only [← hth, ← htt] at q1 q2 q3 q4
  obtain ⟨nm, hnm⟩ : ∃ n, n = lowL th := ⟨_, rfl⟩
  rw [← hnm] at hr
  simp only [← hnm] at q2 q3
  have q5 := fun w => fieldsame_any ⟨(tt.take 2).toArray⟩ ⟨#[113, 61]⟩ w (by rw [mk_size, List.length_take]; omega) (by decide)
  have q6 := fun w => weight_any ⟨(tt.drop 2).toArray⟩ w (by rw [mk_size, List.length_drop]; omega)
  change ∀ w, Calls Tryd.prog 92 _ w (fun e w' => e = .returned (.bool (sameL (tt.take 2) qeqL)) ∧ Below w.heap.size w w') at q5
  change ∀ w, Calls Tryd.prog 65 _ w (fun e w' => e = .returned (.tuple #[.int .i64 (weightL (tt.drop 2)).1, .bool (weightL (tt.drop 2)).2]) ∧ Below w.heap.size w w') at q6
  have hx1 : (⟨tt.toArray⟩ : ByteArray).extract 0 2 = ⟨(tt.take 2).toArray⟩ := bytes_ext (by rw [extract_list, mk_list, mk_list]; simp)
  have hx2 : (⟨tt.toArray⟩ : ByteArray).extract 2 (⟨tt.toArray⟩ : ByteArray).size = ⟨(tt.drop 2).toArray⟩ := bytes_ext (by rw [extract_list, mk_list, mk_list, mk_size]; simp)
  have hcx : ((⟨nm.toArray⟩ : ByteArray).toList == [120, 45, 103, 122, 105, 112]) = decide (nm = xgzipL) := by rw [ByteArray.toList_eq, Bool.eq_iff_iff, decide_eq_true_iff]; simp [xgzipL]
  have hzt := mk_size tt
  obtain ⟨bhd, e1⟩ : ∃ b : ByteArray, b = ⟨hd.toArray⟩ := ⟨_, rfl⟩
  obtain ⟨btl, e2⟩ : ∃ b : ByteArray, b = ⟨tl.toArray⟩ := ⟨_, rfl⟩
  obtain ⟨bth, e3⟩ : ∃ b : ByteArray, b = ⟨th.toArray⟩ := ⟨_, rfl⟩
  obtain ⟨btt, e4⟩ : ∃ b : ByteArray, b = ⟨tt.toArray⟩ := ⟨_, rfl⟩
  obtain ⟨bnm, e5⟩ : ∃ b : ByteArray, b = ⟨nm.toArray⟩ := ⟨_, rfl⟩
  obtain ⟨bq, e6⟩ : ∃ b : ByteArray, b = ⟨(tt.take 2).toArray⟩ := ⟨_, rfl⟩
  obtain ⟨br, e7⟩ : ∃ b : ByteArray, b = ⟨(tt.drop 2).toArray⟩ := ⟨_, rfl⟩
  simp only [← e1, ← e2] at hc
  simp only [← e1, ← e3] at q1
  simp only [← e3, ← e5] at q2
  simp only [← e5] at q3 hcx
  simp only [← e2, ← e4] at q4
  simp only [← e6] at q5
  simp only [← e7] at q6
  rw [← e4, ← e6] at hx1
  rw [← e4, ← e7] at hx2
  rw [← e4] at hzt
  have HN := hide e5
  obtain ⟨wv, hwv⟩ : ∃ x, x = (weightL (tt.drop 2)).1 := ⟨_, rfl⟩
  obtain ⟨wb, hwb⟩ : ∃ x, x = (weightL (tt.drop 2)).2 := ⟨_, rfl⟩
  obtain ⟨sm, hsm⟩ : ∃ x, x = sameL (tt.take 2) qeqL := ⟨_, rfl⟩
  obtain ⟨gd, hgd⟩ : ∃ x, x = goodNameL nm := ⟨_, rfl⟩
  rw [← hwv, ← hwb, ← hsm, ← hgd] at hr
  simp only [← hwv, ← hwb] at q6
  simp only [← hsm] at q5
  simp only [← hgd] at q3
  obtain ⟨nt, hnt⟩ : ∃ n, n = tt.length := ⟨_, rfl⟩
  rw [← hnt] at hr hzt
  have HZ := hide hzt
  have HR := hide hr
  clear hr hh1 ht1 hle1 hle2 hhd htl hbs hth htt hnm e1 e2 e3 e4 e5 e6 e7 hwv hwb hsm hgd hnt hzt
  rcases gd with _ | _
  · go_enter Tryd.func90, Tryd.ntmps90
    go_wp2_with fail
    refine (hc _).mono ?_
    rintro e w1 ⟨rfl, T⟩
    go_wp2_with fail
    refine (q1 w1).mono ?_
    rintro e w2 ⟨rfl, k⟩
    replace T := T.trans (k.mono T.size)
    clear k
    go_wp2_with fail
    refine (q2 w2).mono ?_
    rintro e w3 ⟨rfl, k⟩
    replace T := T.trans (k.mono T.size)
    clear k
    go_wp2_with fail
    refine (q3 w3).mono ?_
    rintro e w4 ⟨rfl, rfl⟩
    have k0 : w3.cell? ⟨w.heap.size, 0, none⟩ = some (.string ⟨#[]⟩) := new_kept (i := 0) T (by simp) rfl
    have k1 : w3.cell? ⟨w.heap.size, 1, none⟩ = some (.int .i64 0) := new_kept (i := 1) T (by simp) rfl
    have f0 := new_free (i := 0) T (by simp)
    have f1 := new_free (i := 1) T (by simp)
    have t := ((Below.refl _ w).alloc (Nat.le_refl _) _).trans (T.mono (by simp))
    clear T
    go_wp2
    refine bodyPost_ret (v := .tuple #[.agg #[.string ⟨#[]⟩, .int .i64 0], .bool false]) (results_it Tryd.results90 _ w3 _ _ _ _ _ _ k0 k1 rfl rfl) rfl ?_
    exact ⟨by rw [HR.out, if_neg (by simp)] <;> rfl, (t.setCell (Nat.le_refl _) _).setCell (Nat.le_refl _) _⟩
  · by_cases hxg : nm = xgzipL
    · have hcx' : (bnm.toList == [120, 45, 103, 122, 105, 112]) = true := by rw [hcx]; simpa using hxg
      have HX := hide hxg
      clear hcx hxg
      rcases bs with _ | _
      · go_enter Tryd.func90, Tryd.ntmps90
        go_wp2_with fail
        refine (hc _).mono ?_
        rintro e w1 ⟨rfl, T⟩
        go_wp2_with fail
        refine (q1 w1).mono ?_
        rintro e w2 ⟨rfl, k⟩
        replace T := T.trans (k.mono T.size)
        clear k
        go_wp2_with fail
        refine (q2 w2).mono ?_
        rintro e w3 ⟨rfl, k⟩
        replace T := T.trans (k.mono T.size)
        clear k
        go_wp2_with fail
        refine (q3 w3).mono ?_
        rintro e w4 ⟨rfl, rfl⟩
        have k0 : w3.cell? ⟨w.heap.size, 0, none⟩ = some (.string ⟨#[]⟩) := new_kept (i := 0) T (by simp) rfl
        have k1 : w3.cell? ⟨w.heap.size, 1, none⟩ = some (.int .i64 0) := new_kept (i := 1) T (by simp) rfl
        have f0 := new_free (i := 0) T (by simp)
        have f1 := new_free (i := 1) T (by simp)
        have t := ((Below.refl _ w).alloc (Nat.le_refl _) _).trans (T.mono (by simp))
        clear T
        go_wp2
        refine bodyPost_ret (v := .tuple #[.agg #[.string ⟨#[103, 122, 105, 112]⟩, .int .i64 1000], .bool true]) (results_it Tryd.results90 _ w3 _ _ _ _ _ _ k0 k1 rfl rfl) rfl ?_
        exact ⟨by rw [HR.out, if_pos (by trivial), if_neg (by simp), itV, if_pos HX.out] <;> rfl, (t.setCell (Nat.le_refl _) _).setCell (Nat.le_refl _) _⟩
      · by_cases h2 : btt.size < 2
        · go_enter Tryd.func90, Tryd.ntmps90
          go_wp2_with fail
          refine (hc _).mono ?_
          rintro e w1 ⟨rfl, T⟩
          go_wp2_with fail
          refine (q1 w1).mono ?_
          rintro e w2 ⟨rfl, k⟩
          replace T := T.trans (k.mono T.size)
          clear k
          go_wp2_with fail
          refine (q2 w2).mono ?_
          rintro e w3 ⟨rfl, k⟩
          replace T := T.trans (k.mono T.size)
          clear k
          go_wp2_with fail
          refine (q3 w3).mono ?_
          rintro e w4 ⟨rfl, rfl⟩
          go_wp2_with fail
          refine (q4 w3).mono ?_
          rintro e w5 ⟨rfl, k⟩
          replace T := T.trans (k.mono T.size)
          clear k
          have k0 : w5.cell? ⟨w.heap.size, 0, none⟩ = some (.string ⟨#[]⟩) := new_kept (i := 0) T (by simp) rfl
          have k1 : w5.cell? ⟨w.heap.size, 1, none⟩ = some (.int .i64 0) := new_kept (i := 1) T (by simp) rfl
          have f0 := new_free (i := 0) T (by simp)
          have f1 := new_free (i := 1) T (by simp)
          have t := ((Below.refl _ w).alloc (Nat.le_refl _) _).trans (T.mono (by simp))
          clear T
          go_wp2
          refine bodyPost_ret (v := .tuple #[.agg #[.string ⟨#[]⟩, .int .i64 0], .bool false]) (results_it Tryd.results90 _ w5 _ _ _ _ _ _ k0 k1 rfl rfl) rfl ?_
          exact ⟨by rw [HR.out, if_pos (by trivial), if_pos (by trivial), if_neg (fun h => by have := HZ.out; omega)] <;> rfl, (t.setCell (Nat.le_refl _) _).setCell (Nat.le_refl _) _⟩
        · have h2' : 2 ≤ btt.size := by omega
          rcases sm with _ | _
          · go_enter Tryd.func90, Tryd.ntmps90
            go_wp2_with fail
            refine (hc _).mono ?_
            rintro e w1 ⟨rfl, T⟩
            go_wp2_with fail
            refine (q1 w1).mono ?_
            rintro e w2 ⟨rfl, k⟩
            replace T := T.trans (k.mono T.size)
            clear k
            go_wp2_with fail
            refine (q2 w2).mono ?_
            rintro e w3 ⟨rfl, k⟩
            replace T := T.trans (k.mono T.size)
            clear k
            go_wp2_with fail
            refine (q3 w3).mono ?_
            rintro e w4 ⟨rfl, rfl⟩
            go_wp2_with fail
            refine (q4 w3).mono ?_
            rintro e w5 ⟨rfl, k⟩
            replace T := T.trans (k.mono T.size)
            clear k
            go_wp2_with fail
            refine (q5 w5).mono ?_
            rintro e w6 ⟨rfl, k⟩
            replace T := T.trans (k.mono T.size)
            clear k
            have k0 : w6.cell? ⟨w.heap.size, 0, none⟩ = some (.string ⟨#[]⟩) := new_kept (i := 0) T (by simp) rfl
            have k1 : w6.cell? ⟨w.heap.size, 1, none⟩ = some (.int .i64 0) := new_kept (i := 1) T (by simp) rfl
            have f0 := new_free (i := 0) T (by simp)
            have f1 := new_free (i := 1) T (by simp)
            have t := ((Below.refl _ w).alloc (Nat.le_refl _) _).trans (T.mono (by simp))
            clear T
            go_wp2
            refine bodyPost_ret (v := .tuple #[.agg #[.string ⟨#[]⟩, .int .i64 0], .bool false]) (results_it Tryd.results90 _ w6 _ _ _ _ _ _ k0 k1 rfl rfl) rfl ?_
            exact ⟨by rw [HR.out, if_pos (by trivial), if_pos (by trivial), if_neg (fun h => by simp at h)] <;> rfl, (t.setCell (Nat.le_refl _) _).setCell (Nat.le_refl _) _⟩
          · rcases wb with _ | _
            · go_enter Tryd.func90, Tryd.ntmps90
              go_wp2_with fail
              refine (hc _).mono ?_
              rintro e w1 ⟨rfl, T⟩
              go_wp2_with fail
              refine (q1 w1).mono ?_
              rintro e w2 ⟨rfl, k⟩
              replace T := T.trans (k.mono T.size)
              clear k
              go_wp2_with fail
              refine (q2 w2).mono ?_
              rintro e w3 ⟨rfl, k⟩
              replace T := T.trans (k.mono T.size)
              clear k
              go_wp2_with fail
              refine (q3 w3).mono ?_
              rintro e w4 ⟨rfl, rfl⟩
              go_wp2_with fail
              refine (q4 w3).mono ?_
              rintro e w5 ⟨rfl, k⟩
              replace T := T.trans (k.mono T.size)
              clear k
              go_wp2_with fail
              refine (q5 w5).mono ?_
              rintro e w6 ⟨rfl, k⟩
              replace T := T.trans (k.mono T.size)
              clear k
              go_wp2_with fail
              refine (q6 w6).mono ?_
              rintro e w7 ⟨rfl, k⟩
              replace T := T.trans (k.mono T.size)
              clear k
              have k0 : w7.cell? ⟨w.heap.size, 0, none⟩ = some (.string ⟨#[]⟩) := new_kept (i := 0) T (by simp) rfl
              have k1 : w7.cell? ⟨w.heap.size, 1, none⟩ = some (.int .i64 0) := new_kept (i := 1) T (by simp) rfl
              have f0 := new_free (i := 0) T (by simp)
              have f1 := new_free (i := 1) T (by simp)
              have t := ((Below.refl _ w).alloc (Nat.le_refl _) _).trans (T.mono (by simp))
              clear T
              go_wp2
              refine bodyPost_ret (v := .tuple #[.agg #[.string ⟨#[]⟩, .int .i64 0], .bool false]) (results_it Tryd.results90 _ w7 _ _ _ _ _ _ k0 k1 rfl rfl) rfl ?_
              exact ⟨by rw [HR.out, if_pos (by trivial), if_pos (by trivial), if_neg (fun h => by simp at h)] <;> rfl, (t.setCell (Nat.le_refl _) _).setCell (Nat.le_refl _) _⟩
            · go_enter Tryd.func90, Tryd.ntmps90
              go_wp2_with fail
              refine (hc _).mono ?_
              rintro e w1 ⟨rfl, T⟩
              go_wp2_with fail
              refine (q1 w1).mono ?_
              rintro e w2 ⟨rfl, k⟩
              replace T := T.trans (k.mono T.size)
              clear k
              go_wp2_with fail
              refine (q2 w2).mono ?_
              rintro e w3 ⟨rfl, k⟩
              replace T := T.trans (k.mono T.size)
              clear k
              go_wp2_with fail
              refine (q3 w3).mono ?_
              rintro e w4 ⟨rfl, rfl⟩
              go_wp2_with fail
              refine (q4 w3).mono ?_
              rintro e w5 ⟨rfl, k⟩
              replace T := T.trans (k.mono T.size)
              clear k
              go_wp2_with fail
              refine (q5 w5).mono ?_
              rintro e w6 ⟨rfl, k⟩
              replace T := T.trans (k.mono T.size)
              clear k
              go_wp2_with fail
              refine (q6 w6).mono ?_
              rintro e w7 ⟨rfl, k⟩
              replace T := T.trans (k.mono T.size)
              clear k
              have k0 : w7.cell? ⟨w.heap.size, 0, none⟩ = some (.string ⟨#[]⟩) := new_kept (i := 0) T (by simp) rfl
              have k1 : w7.cell? ⟨w.heap.size, 1, none⟩ = some (.int .i64 0) := new_kept (i := 1) T (by simp) rfl
              have f0 := new_free (i := 0) T (by simp)
              have f1 := new_free (i := 1) T (by simp)
              have t := ((Below.refl _ w).alloc (Nat.le_refl _) _).trans (T.mono (by simp))
              clear T
              go_wp2
              refine bodyPost_ret (v := .tuple #[.agg #[.string ⟨#[103, 122, 105, 112]⟩, .int .i64 wv], .bool true]) (results_it Tryd.results90 _ w7 _ _ _ _ _ _ k0 k1 rfl rfl) rfl ?_
              exact ⟨by rw [HR.out, if_pos (by trivial), if_pos (by trivial), if_pos (by refine ⟨?_, ?_, ?_⟩ <;> first | trivial | (have := HZ.out; omega)), itV, if_pos HX.out] <;> rfl, (t.setCell (Nat.le_refl _) _).setCell (Nat.le_refl _) _⟩
    · have hcx' : (bnm.toList == [120, 45, 103, 122, 105, 112]) = false := by rw [hcx]; simpa using hxg
      have HX := hide hxg
      clear hcx hxg
      rcases bs with _ | _
      · go_enter Tryd.func90, Tryd.ntmps90
        go_wp2_with fail
        refine (hc _).mono ?_
        rintro e w1 ⟨rfl, T⟩
        go_wp2_with fail
        refine (q1 w1).mono ?_
        rintro e w2 ⟨rfl, k⟩
        replace T := T.trans (k.mono T.size)
        clear k
        go_wp2_with fail
        refine (q2 w2).mono ?_
        rintro e w3 ⟨rfl, k⟩
        replace T := T.trans (k.mono T.size)
        clear k
        go_wp2_with fail
        refine (q3 w3).mono ?_
        rintro e w4 ⟨rfl, rfl⟩
        have k0 : w3.cell? ⟨w.heap.size, 0, none⟩ = some (.string ⟨#[]⟩) := new_kept (i := 0) T (by simp) rfl
        have k1 : w3.cell? ⟨w.heap.size, 1, none⟩ = some (.int .i64 0) := new_kept (i := 1) T (by simp) rfl
        have f0 := new_free (i := 0) T (by simp)
        have f1 := new_free (i := 1) T (by simp)
        have t := ((Below.refl _ w).alloc (Nat.le_refl _) _).trans (T.mono (by simp))
        clear T
        go_wp2
        refine bodyPost_ret (v := .tuple #[.agg #[.string bnm, .int .i64 1000], .bool true]) (results_it Tryd.results90 _ w3 _ _ _ _ _ _ k0 k1 rfl rfl) rfl ?_
        exact ⟨by rw [HR.out, if_pos (by trivial), if_neg (by simp), itV, if_neg HX.out, ← HN.out] <;> rfl, (t.setCell (Nat.le_refl _) _).setCell (Nat.le_refl _) _⟩
      · by_cases h2 : btt.size < 2
        · go_enter Tryd.func90, Tryd.ntmps90
          go_wp2_with fail
          refine (hc _).mono ?_
          rintro e w1 ⟨rfl, T⟩
          go_wp2_with fail
          refine (q1 w1).mono ?_
          rintro e w2 ⟨rfl, k⟩
          replace T := T.trans (k.mono T.size)
          clear k
          go_wp2_with fail
          refine (q2 w2).mono ?_
          rintro e w3 ⟨rfl, k⟩
          replace T := T.trans (k.mono T.size)
          clear k
          go_wp2_with fail
          refine (q3 w3).mono ?_
          rintro e w4 ⟨rfl, rfl⟩
          go_wp2_with fail
          refine (q4 w3).mono ?_
          rintro e w5 ⟨rfl, k⟩
          replace T := T.trans (k.mono T.size)
          clear k
          have k0 : w5.cell? ⟨w.heap.size, 0, none⟩ = some (.string ⟨#[]⟩) := new_kept (i := 0) T (by simp) rfl
          have k1 : w5.cell? ⟨w.heap.size, 1, none⟩ = some (.int .i64 0) := new_kept (i := 1) T (by simp) rfl
          have f0 := new_free (i := 0) T (by simp)
          have f1 := new_free (i := 1) T (by simp)
          have t := ((Below.refl _ w).alloc (Nat.le_refl _) _).trans (T.mono (by simp))
          clear T
          go_wp2
          refine bodyPost_ret (v := .tuple #[.agg #[.string ⟨#[]⟩, .int .i64 0], .bool false]) (results_it Tryd.results90 _ w5 _ _ _ _ _ _ k0 k1 rfl rfl) rfl ?_
          exact ⟨by rw [HR.out, if_pos (by trivial), if_pos (by trivial), if_neg (fun h => by have := HZ.out; omega)] <;> rfl, (t.setCell (Nat.le_refl _) _).setCell (Nat.le_refl _) _⟩
        · have h2' : 2 ≤ btt.size := by omega
          rcases sm with _ | _
          · go_enter Tryd.func90, Tryd.ntmps90
            go_wp2_with fail
            refine (hc _).mono ?_
            rintro e w1 ⟨rfl, T⟩
            go_wp2_with fail
            refine (q1 w1).mono ?_
            rintro e w2 ⟨rfl, k⟩
            replace T := T.trans (k.mono T.size)
            clear k
            go_wp2_with fail
            refine (q2 w2).mono ?_
            rintro e w3 ⟨rfl, k⟩
            replace T := T.trans (k.mono T.size)
            clear k
            go_wp2_with fail
            refine (q3 w3).mono ?_
            rintro e w4 ⟨rfl, rfl⟩
            go_wp2_with fail
            refine (q4 w3).mono ?_
            rintro e w5 ⟨rfl, k⟩
            replace T := T.trans (k.mono T.size)
            clear k
            go_wp2_with fail
            refine (q5 w5).mono ?_
            rintro e w6 ⟨rfl, k⟩
            replace T := T.trans (k.mono T.size)
            clear k
            have k0 : w6.cell? ⟨w.heap.size, 0, none⟩ = some (.string ⟨#[]⟩) := new_kept (i := 0) T (by simp) rfl
            have k1 : w6.cell? ⟨w.heap.size, 1, none⟩ = some (.int .i64 0) := new_kept (i := 1) T (by simp) rfl
            have f0 := new_free (i := 0) T (by simp)
            have f1 := new_free (i := 1) T (by simp)
            have t := ((Below.refl _ w).alloc (Nat.le_refl _) _).trans (T.mono (by simp))
            clear T
            go_wp2
            refine bodyPost_ret (v := .tuple #[.agg #[.string ⟨#[]⟩, .int .i64 0], .bool false]) (results_it Tryd.results90 _ w6 _ _ _ _ _ _ k0 k1 rfl rfl) rfl ?_
            exact ⟨by rw [HR.out, if_pos (by trivial), if_pos (by trivial), if_neg (fun h => by simp at h)] <;> rfl, (t.setCell (Nat.le_refl _) _).setCell (Nat.le_refl _) _⟩
          · rcases wb with _ | _
            · go_enter Tryd.func90, Tryd.ntmps90
              go_wp2_with fail
              refine (hc _).mono ?_
              rintro e w1 ⟨rfl, T⟩
              go_wp2_with fail
              refine (q1 w1).mono ?_
              rintro e w2 ⟨rfl, k⟩
              replace T := T.trans (k.mono T.size)
              clear k
              go_wp2_with fail
              refine (q2 w2).mono ?_
              rintro e w3 ⟨rfl, k⟩
              replace T := T.trans (k.mono T.size)
              clear k
              go_wp2_with fail
              refine (q3 w3).mono ?_
              rintro e w4 ⟨rfl, rfl⟩
              go_wp2_with fail
              refine (q4 w3).mono ?_
              rintro e w5 ⟨rfl, k⟩
              replace T := T.trans (k.mono T.size)
              clear k
              go_wp2_with fail
              refine (q5 w5).mono ?_
              rintro e w6 ⟨rfl, k⟩
              replace T := T.trans (k.mono T.size)
              clear k
              go_wp2_with fail
              refine (q6 w6).mono ?_
              rintro e w7 ⟨rfl, k⟩
              replace T := T.trans (k.mono T.size)
              clear k
              have k0 : w7.cell? ⟨w.heap.size, 0, none⟩ = some (.string ⟨#[]⟩) := new_kept (i := 0) T (by simp) rfl
              have k1 : w7.cell? ⟨w.heap.size, 1, none⟩ = some (.int .i64 0) := new_kept (i := 1) T (by simp) rfl
              have f0 := new_free (i := 0) T (by simp)
              have f1 := new_free (i := 1) T (by simp)
              have t := ((Below.refl _ w).alloc (Nat.le_refl _) _).trans (T.mono (by simp))
              clear T
              go_wp2
              refine bodyPost_ret (v := .tuple #[.agg #[.string ⟨#[]⟩, .int .i64 0], .bool false]) (results_it Tryd.results90 _ w7 _ _ _ _ _ _ k0 k1 rfl rfl) rfl ?_
              exact ⟨by rw [HR.out, if_pos (by trivial), if_pos (by trivial), if_neg (fun h => by simp at h)] <;> rfl, (t.setCell (Nat.le_refl _) _).setCell (Nat.le_refl _) _⟩
            · go_enter Tryd.func90, Tryd.ntmps90
              go_wp2_with fail
              refine (hc _).mono ?_
              rintro e w1 ⟨rfl, T⟩
              go_wp2_with fail
              refine (q1 w1).mono ?_
              rintro e w2 ⟨rfl, k⟩
              replace T := T.trans (k.mono T.size)
              clear k
              go_wp2_with fail
              refine (q2 w2).mono ?_
              rintro e w3 ⟨rfl, k⟩
              replace T := T.trans (k.mono T.size)
              clear k
              go_wp2_with fail
              refine (q3 w3).mono ?_
              rintro e w4 ⟨rfl, rfl⟩
              go_wp2_with fail
              refine (q4 w3).mono ?_
              rintro e w5 ⟨rfl, k⟩
              replace T := T.trans (k.mono T.size)
              clear k
              go_wp2_with fail
              refine (q5 w5).mono ?_
              rintro e w6 ⟨rfl, k⟩
              replace T := T.trans (k.mono T.size)
              clear k
              go_wp2_with fail
              refine (q6 w6).mono ?_
              rintro e w7 ⟨rfl, k⟩
              replace T := T.trans (k.mono T.size)
              clear k
              have k0 : w7.cell? ⟨w.heap.size, 0, none⟩ = some (.string ⟨#[]⟩) := new_kept (i := 0) T (by simp) rfl
              have k1 : w7.cell? ⟨w.heap.size, 1, none⟩ = some (.int .i64 0) := new_kept (i := 1) T (by simp) rfl
              have f0 := new_free (i := 0) T (by simp)
              have f1 := new_free (i := 1) T (by simp)
              have t := ((Below.refl _ w).alloc (Nat.le_refl _) _).trans (T.mono (by simp))
              clear T
              go_wp2
              refine bodyPost_ret (v := .tuple #[.agg #[.string bnm, .int .i64 wv], .bool true]) (results_it Tryd.results90 _ w7 _ _ _ _ _ _ k0 k1 rfl rfl) rfl ?_
              exact ⟨by rw [HR.out, if_pos (by trivial), if_pos (by trivial), if_pos (by refine ⟨?_, ?_, ?_⟩ <;> first | trivial | (have := HZ.out; omega)), itV, if_neg HX.out, ← HN.out] <;> rfl, (t.setCell (Nat.le_refl _) _).setCell (Nat.le_refl _) _⟩
end Go.Proofs.YtgdjlmpfjmakkaaDoor
