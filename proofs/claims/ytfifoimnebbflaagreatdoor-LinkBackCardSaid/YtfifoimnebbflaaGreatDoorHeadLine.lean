/- A head's line, version, target: contracts of concertina/head's small functions. -/
import Derived.Test.YtfifoimnebbflaaGreatDoorPrintsSpec
import Derived.Test.YtfifoimnebbflaaGreatDoorBox
import Derived.Test.YtfifoimnebbflaaGreatDoorShelf3
import Derived.OwnWalk
namespace Go.Proofs.YtfifoimnebbflaaGreatDoor
open Go.RowKit

theorem trimL_short (l : List UInt8) : (trimL l).length ≤ l.length := by
  show ((l.reverse.dropWhile blankB).reverse.dropWhile blankB).length ≤ _
  have h1 := (List.dropWhile_suffix blankB (l := l.reverse)).length_le
  have h2 := (List.dropWhile_suffix blankB (l := (l.reverse.dropWhile blankB).reverse)).length_le
  simp only [List.length_reverse] at h1 h2
  omega
theorem results_f2 {fn : Func} {p u : Tmp} (h : fn.results = #[.cell p 68, .tmp u]) (tmps : Array Value) (w : World) (g : Nat) (a b e : Value) (hb : Box w g [a, b]) (hp : tmps.getD p undef = .pointer (some ⟨g, 0, none⟩)) (hu : tmps.getD u undef = e) :
    (results fn tmps).run Tryz.prog w = .ok (.tuple #[.agg #[a, b], e]) w := by
  have hp' : tmps[p]?.getD undef = .pointer (some ⟨g, 0, none⟩) := by simpa using hp
  have hu' : tmps[u]?.getD undef = e := by simpa using hu
  obtain ⟨k0, k1⟩ := hb.two
  simp [results, h, hp', hu', go_sem, k0, k1]

set_option maxRecDepth 100000 in
set_option maxHeartbeats 3200000 in
theorem line_any (s : ByteArray) (w : World) (hs : s.size ≤ 100000) :
    Calls Tryz.prog 76 #[.string s] w fun e w' => e = .returned (.tuple #[.agg #[.string ⟨(lineF s.data.toList).1.toArray⟩, .string ⟨(lineF s.data.toList).2.toArray⟩], .bool (lineOk s.data.toList)]) ∧ Below w.heap.size w w' := by
  have hc := fun w => strcut_any s 58 w (by omega)
  have hle1 := cutHead_le 58 s.data.toList
  have hss := size_of s
  have hle2 : (cutTail 58 s.data.toList).length ≤ s.data.toList.length := by unfold cutTail; simp
  unfold lineF lineOk
  obtain ⟨hd, hhd⟩ : ∃ hd, hd = cutHead 58 s.data.toList := ⟨_, rfl⟩
  obtain ⟨tl, htl⟩ : ∃ tl, tl = cutTail 58 s.data.toList := ⟨_, rfl⟩
  obtain ⟨bs, hbs⟩ : ∃ h, h = cutHas 58 s.data.toList := ⟨_, rfl⟩
  simp only [← hhd, ← htl, ← hbs] at hc hle1 hle2 ⊢
  have hle3 := trimL_short tl
  have q1 := fun w => trim_any ⟨tl.toArray⟩ w (by rw [mk_size]; omega)
  obtain ⟨th, hth⟩ : ∃ t, t = trimL tl := ⟨_, rfl⟩
  simp only [← hth] at q1 hle3 ⊢
  have q2 := fun w => goodName_any ⟨hd.toArray⟩ w (by rw [mk_size]; omega)
  have q3 := fun w => goodValue_any ⟨th.toArray⟩ w (by rw [mk_size]; omega)
  obtain ⟨gn, hgn⟩ : ∃ x, x = goodNameL hd := ⟨_, rfl⟩
  obtain ⟨gv, hgv⟩ : ∃ x, x = goodValueL th := ⟨_, rfl⟩
  simp only [← hgn, ← hgv] at q2 q3 ⊢
  obtain ⟨bhd, e1⟩ : ∃ b : ByteArray, b = ⟨hd.toArray⟩ := ⟨_, rfl⟩
  obtain ⟨btl, e2⟩ : ∃ b : ByteArray, b = ⟨tl.toArray⟩ := ⟨_, rfl⟩
  obtain ⟨bth, e3⟩ : ∃ b : ByteArray, b = ⟨th.toArray⟩ := ⟨_, rfl⟩
  simp only [← e1, ← e2, ← e3] at hc q1 q2 q3 ⊢
  clear e1 e2 e3 hgn hgv hth hle1 hle2 hle3 hss hhd htl hbs hs
  have fin : ∀ (w1 : World) (fn : Func) (tm : Array Value) (x y : Value) (r : Bool), Below (w.heap.size + 1) (w.alloc (.cells #[.string ⟨#[]⟩, .string ⟨#[]⟩] 68)) w1 → fn.results = #[.cell 2 68, .tmp 3] → tm.getD 2 undef = .pointer (some ⟨w.heap.size, 0, none⟩) → tm.getD 3 undef = .bool r →
      (results fn tm).run Tryz.prog (fill2 w1 w.heap.size x y) = .ok (.tuple #[.agg #[x, y], .bool r]) (fill2 w1 w.heap.size x y) := by
    intro w1 fn tm x y r T hf h2 h3
    have B0 : Box w1 w.heap.size [.string ⟨#[]⟩, .string ⟨#[]⟩] := (Box.new w #[.string ⟨#[]⟩, .string ⟨#[]⟩] 68).below (T.mono (by simp))
    exact results_f2 hf tm _ _ x y _ (B0.fill2 x y) h2 h3
  have fin2 : ∀ (w1 : World) (x y : Value), Below (w.heap.size + 1) (w.alloc (.cells #[.string ⟨#[]⟩, .string ⟨#[]⟩] 68)) w1 → Below w.heap.size w (fill2 w1 w.heap.size x y) := fun w1 x y T =>
    below_fill2 (((Below.refl _ w).alloc (Nat.le_refl _) _).trans (T.mono (by omega))) (Nat.le_refl _) _ _
  rcases bs with _ | _
  · go_enter Tryz.func76, Tryz.ntmps76
    go_wp2_with fail
    refine (hc _).mono ?_
    rintro e w1 ⟨rfl, T⟩
    go_wp2_with fail
    refine (q1 w1).mono ?_
    rintro e w2 ⟨rfl, k⟩
    replace T := T.trans (k.mono T.size)
    clear k
    have k0 : w2.cell? ⟨w.heap.size, 0, none⟩ = some (.string ⟨#[]⟩) := new_kept (i := 0) T (by simp) rfl
    have k1 : w2.cell? ⟨w.heap.size, 1, none⟩ = some (.string ⟨#[]⟩) := new_kept (i := 1) T (by simp) rfl
    have f0 := new_free (i := 0) T (by simp)
    have f1 := new_free (i := 1) T (by simp)
    go_wp2_with fail
    replace T : Below (w.heap.size + 1) (w.alloc (.cells #[.string ⟨#[]⟩, .string ⟨#[]⟩] 68)) w2 := by simpa using T
    exact bodyPost_ret (v := .tuple #[.agg #[.string bhd, .string bth], .bool false]) (fin w2 _ _ (.string bhd) (.string bth) false T Tryz.results76 rfl rfl) rfl ⟨rfl, fin2 w2 _ _ T⟩
  · rcases gn with _ | _
    · go_enter Tryz.func76, Tryz.ntmps76
      go_wp2_with fail
      refine (hc _).mono ?_
      rintro e w1 ⟨rfl, T⟩
      go_wp2_with fail
      refine (q1 w1).mono ?_
      rintro e w2 ⟨rfl, k⟩
      replace T := T.trans (k.mono T.size)
      clear k
      have k0 : w2.cell? ⟨w.heap.size, 0, none⟩ = some (.string ⟨#[]⟩) := new_kept (i := 0) T (by simp) rfl
      have k1 : w2.cell? ⟨w.heap.size, 1, none⟩ = some (.string ⟨#[]⟩) := new_kept (i := 1) T (by simp) rfl
      have f0 := new_free (i := 0) T (by simp)
      have f1 := new_free (i := 1) T (by simp)
      go_wp2_with fail
      refine (q2 w2).mono ?_
      rintro e w3 ⟨rfl, rfl⟩
      go_wp2_with fail
      replace T : Below (w.heap.size + 1) (w.alloc (.cells #[.string ⟨#[]⟩, .string ⟨#[]⟩] 68)) w2 := by simpa using T
      exact bodyPost_ret (v := .tuple #[.agg #[.string bhd, .string bth], .bool false]) (fin w2 _ _ (.string bhd) (.string bth) false T Tryz.results76 rfl rfl) rfl ⟨rfl, fin2 w2 _ _ T⟩
    · go_enter Tryz.func76, Tryz.ntmps76
      go_wp2_with fail
      refine (hc _).mono ?_
      rintro e w1 ⟨rfl, T⟩
      go_wp2_with fail
      refine (q1 w1).mono ?_
      rintro e w2 ⟨rfl, k⟩
      replace T := T.trans (k.mono T.size)
      clear k
      go_wp2_with fail
      refine (q2 w2).mono ?_
      rintro e w3 ⟨rfl, rfl⟩
      go_wp2_with fail
      refine (q3 w2).mono ?_
      rintro e w3 ⟨rfl, k⟩
      replace T := T.trans (k.mono T.size)
      clear k
      have k0 : w3.cell? ⟨w.heap.size, 0, none⟩ = some (.string ⟨#[]⟩) := new_kept (i := 0) T (by simp) rfl
      have k1 : w3.cell? ⟨w.heap.size, 1, none⟩ = some (.string ⟨#[]⟩) := new_kept (i := 1) T (by simp) rfl
      have f0 := new_free (i := 0) T (by simp)
      have f1 := new_free (i := 1) T (by simp)
      go_wp2_with fail
      replace T : Below (w.heap.size + 1) (w.alloc (.cells #[.string ⟨#[]⟩, .string ⟨#[]⟩] 68)) w3 := by simpa using T
      exact bodyPost_ret (v := .tuple #[.agg #[.string bhd, .string bth], .bool gv]) (fin w3 _ _ (.string bhd) (.string bth) gv T Tryz.results76 rfl rfl) rfl ⟨rfl, fin2 w3 _ _ T⟩

set_option maxRecDepth 100000 in
set_option maxHeartbeats 3200000 in
theorem minor_any (s : ByteArray) (w : World) :
    Calls Tryz.prog 50 #[.string s] w fun e w' => e = .returned (.tuple #[.int .i64 (if minorOk s.data.toList then minorN s.data.toList else 0 : Nat), .bool (minorOk s.data.toList)]) ∧ w = w' := by
  have hc := fun w => Tryz.strings_CutPrefix s ⟨#[72, 84, 84, 80, 47, 49, 46]⟩ w
  change ∀ w, Calls Tryz.prog 78 _ w (fun e w' => e = .returned (.tuple #[.string ⟨(Lib.trimPrefix s.data.toList verL).toArray⟩, .bool (Lib.hasPrefix s.data.toList verL)]) ∧ w' = w) at hc
  unfold minorOk minorN
  obtain ⟨t, ht⟩ : ∃ t, t = Lib.trimPrefix s.data.toList verL := ⟨_, rfl⟩
  obtain ⟨b, hb⟩ : ∃ t, t = Lib.hasPrefix s.data.toList verL := ⟨_, rfl⟩
  simp only [← ht, ← hb] at hc ⊢
  clear ht hb
  rcases b with _ | _
  · obtain ⟨bt, ebt⟩ : ∃ b : ByteArray, b = ⟨t.toArray⟩ := ⟨_, rfl⟩
    simp only [← ebt] at hc
    clear ebt
    go_enter Tryz.func50, Tryz.ntmps50
    go_wp2_with fail
    refine (hc _).mono ?_
    rintro e w1 ⟨rfl, rfl⟩
    go_wp2_with fail
    go_ret2
    exact ⟨rfl, rfl⟩
  · by_cases h0 : t = [48]
    · subst h0
      go_enter Tryz.func50, Tryz.ntmps50
      go_wp2_with fail
      refine (hc _).mono ?_
      rintro e w1 ⟨rfl, rfl⟩
      go_wp2_with fail
      go_ret2
      exact ⟨rfl, rfl⟩
    · by_cases h1 : t = [49]
      · subst h1
        go_enter Tryz.func50, Tryz.ntmps50
        go_wp2_with fail
        refine (hc _).mono ?_
        rintro e w1 ⟨rfl, rfl⟩
        go_wp2_with fail
        go_ret2
        exact ⟨rfl, rfl⟩
      · have e0 : (t == [48]) = false := by simpa using h0
        have e1 : (t == [49]) = false := by simpa using h1
        have x0 : ((⟨t.toArray⟩ : ByteArray).toList == [48]) = false := by rw [ByteArray.toList_eq]; exact e0
        have x1 : ((⟨t.toArray⟩ : ByteArray).toList == [49]) = false := by rw [ByteArray.toList_eq]; exact e1
        rw [e0, e1]
        obtain ⟨bt, ebt⟩ : ∃ b : ByteArray, b = ⟨t.toArray⟩ := ⟨_, rfl⟩
        simp only [← ebt] at hc x0 x1
        clear ebt h0 h1 e0 e1
        go_enter Tryz.func50, Tryz.ntmps50
        go_wp2_with fail
        refine (hc _).mono ?_
        rintro e w1 ⟨rfl, rfl⟩
        go_wp2_with fail
        go_ret2
        exact ⟨rfl, rfl⟩

set_option maxRecDepth 100000 in
set_option maxHeartbeats 3200000 in
theorem goodTarget_any (s : ByteArray) (w : World) (hs : s.size ≤ 140737488355328) :
    Calls Tryz.prog 43 #[.string s] w fun e w' => e = .returned (.bool (targetL s.data.toList)) ∧ w = w' := by
  have hc := fun w => Tryz.strings_HasPrefix s ⟨#[47]⟩ w
  change ∀ w, Calls Tryz.prog 68 _ w (fun e w' => e = .returned (.bool (Lib.hasPrefix s.data.toList [47])) ∧ w' = w) at hc
  have HL := hide (size_of s)
  unfold targetL slashOk
  obtain ⟨b, hb⟩ : ∃ t, t = Lib.hasPrefix s.data.toList [47] := ⟨_, rfl⟩
  simp only [← hb] at hc ⊢
  clear hb
  obtain ⟨r, hr⟩ : ∃ r, r = (s.data.toList.all slashB && (b && decide (s.data.toList.length ≤ 2048))) := ⟨_, rfl⟩
  rw [← hr]
  have HR := hide hr
  clear hr
  go_enter Tryz.func43, Tryz.ntmps43
  go_wp2_with fail
  go_loop [6] (fun i => ∃ k : Nat, k ≤ s.size ∧ i = .int .i64 k ∧ (s.data.toList.take k).all slashB = true) (fun i => s.size - (intOf i).toNat)
  case atStart => exact ⟨0, Nat.zero_le _, rfl, rfl⟩
  case round =>
    obtain ⟨k, hk, rfl, ha⟩ := hrel
    have HA := hide ha
    clear ha
    by_cases hlt : k < s.size
    · have hts := all_take_snoc (p := slashB) s k hlt
      have HT := hide hts
      clear hts
      have hfa : slashB s[k] = false → s.data.toList.all slashB = false := all_false (p := slashB) s k hlt
      have HF := hide hfa
      clear hfa
      obtain ⟨c, hcc⟩ : ∃ c, s[k] = c := ⟨_, rfl⟩
      rw [hcc] at HT HF
      have hc256 : c.toNat < 256 := c.toNat_lt
      by_cases h1 : (c.toNat : Int) < 33
      · have hv : slashB c = false := by unfold slashB; rw [decide_eq_false]; omega
        have HV := hide (HF.out hv)
        clear hv HF HT
        go_wp2_with fail
        go_ret
        exact ⟨ret_bool (by rw [HR.out, HV.out]; rfl), rfl⟩
      · by_cases h2 : 126 < (c.toNat : Int)
        · have hv : slashB c = false := by unfold slashB; rw [decide_eq_false]; omega
          have HV := hide (HF.out hv)
          clear hv HF HT
          go_wp2_with fail
          go_ret
          exact ⟨ret_bool (by rw [HR.out, HV.out]; rfl), rfl⟩
        · have hv : slashB c = true := by unfold slashB; rw [decide_eq_true]; omega
          have HV := hide hv
          clear hv HF
          go_wp2_with fail
          go_round
          case rel => exact ⟨k + 1, by omega, by go_num, by rw [HT.out, HA.out, HV.out]; rfl⟩
          case measure => simp [intOf]; omega
    · have hfin : s.data.toList.all slashB = true := by have := HA.out; rwa [take_all s k (by omega)] at this
      have HF := hide hfin
      clear hfin
      rcases b with _ | _
      · go_wp2_with fail
        refine (hc _).mono ?_
        rintro e w1 ⟨rfl, rfl⟩
        go_wp2_with fail
        go_ret
        exact ⟨ret_bool (by rw [HR.out, HF.out]; rfl), rfl⟩
      · go_wp2_with fail
        refine (hc _).mono ?_
        rintro e w1 ⟨rfl, rfl⟩
        go_wp2_with fail
        all_goals go_ret
        all_goals
          refine ⟨ret_bool ?_, rfl⟩
          rw [HR.out, HF.out, ← HL.out, Bool.eq_iff_iff]
          simp
          try omega
end Go.Proofs.YtfifoimnebbflaaGreatDoor
