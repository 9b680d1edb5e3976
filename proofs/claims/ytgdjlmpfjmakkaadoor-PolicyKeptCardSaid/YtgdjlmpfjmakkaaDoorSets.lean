/- The reference's Drop and Set; field.Set; SameFields. -/
import Derived.Test.YtgdjlmpfjmakkaaDoorHas
namespace Go.Proofs.YtgdjlmpfjmakkaaDoor
open Go.RowKit

theorem infoFld : (Tryd.prog.info? 38).map (fun i => (i.zero, i.size, i.bytes)) = some (some (.agg #[.string ByteArray.empty, .string ByteArray.empty]), 2, 32) := by kernel_rfl
/-- Without a name's fields. -/
def dropL (fs : List (List UInt8 × List UInt8)) (name : List UInt8) : List (List UInt8 × List UInt8) := fs.filter fun f => !sameL f.1 name
theorem dropL_snoc (fs : List (List UInt8 × List UInt8)) (name : List UInt8) (k : Nat) (h : k < fs.length) : dropL (fs.take (k + 1)) name = dropL (fs.take k) name ++ if sameL fs[k].1 name then [] else [fs[k]] := by
  unfold dropL
  rw [list_take_snoc fs k h, List.filter_append]
  congr 1
  by_cases hs : sameL fs[k].1 name = true
  · rw [if_pos hs]; simp [hs]
  · rw [if_neg hs]; simp [hs]
theorem dropL_len (fs : List (List UInt8 × List UInt8)) (name : List UInt8) : (dropL fs name).length ≤ fs.length := by unfold dropL; exact List.length_filter_le _ _
/-- One field of a name: what is laid by now, and whether it has come. -/
def setGo (name value : List UInt8) (fs : List (List UInt8 × List UInt8)) : List (List UInt8 × List UInt8) × Bool :=
  fs.foldl (fun st f => if sameL f.1 name then (if st.2 then st else (st.1 ++ [(f.1, value)], true)) else (st.1 ++ [f], st.2)) ([], false)
def setL (fs : List (List UInt8 × List UInt8)) (name value : List UInt8) : List (List UInt8 × List UInt8) := if (setGo name value fs).2 then (setGo name value fs).1 else (setGo name value fs).1 ++ [(name, value)]
theorem setGo_snoc (name value : List UInt8) (fs : List (List UInt8 × List UInt8)) (k : Nat) (h : k < fs.length) : setGo name value (fs.take (k + 1)) =
    if sameL fs[k].1 name then (if (setGo name value (fs.take k)).2 then setGo name value (fs.take k) else ((setGo name value (fs.take k)).1 ++ [(fs[k].1, value)], true)) else ((setGo name value (fs.take k)).1 ++ [fs[k]], (setGo name value (fs.take k)).2) := by
  conv => lhs; unfold setGo
  rw [list_take_snoc fs k h, List.foldl_append]; rfl
theorem setGo_len (name value : List UInt8) (fs : List (List UInt8 × List UInt8)) : ∀ k, k ≤ fs.length → (setGo name value (fs.take k)).1.length ≤ k
  | 0, _ => by simp [setGo]
  | k + 1, h => by
    have ih := setGo_len name value fs k (by omega)
    rw [setGo_snoc name value fs k (by omega)]
    split
    · split
      · omega
      · simp; omega
    · simp; omega

set_option maxRecDepth 100000 in
set_option maxHeartbeats 3200000 in
theorem refdrop_any (A : Option Addr) (n c B : Nat) (fs : List (List UInt8 × List UInt8)) (name : ByteArray) (w : World) (h : Rd w B 2 A n (fcells fs)) (hB : B ≤ w.heap.size) (hn : n ≤ 1000000) (hok : fsOk fs) (hname : name.size ≤ 1000000) :
    Calls Tryd.prog 59 #[.slice A n c, .string name] w fun e w' => ∃ A' c', e = .returned (.slice A' (dropL fs name.data.toList).length c') ∧
      w'.ownsRow w.heap.size 38 2 (.slice A' (dropL fs name.data.toList).length c') (dropL fs name.data.toList).length (fcells (dropL fs name.data.toList)) ∧ (dropL fs name.data.toList).length ≤ c' ∧ Below w.heap.size w w' := by
  obtain ⟨i0, hi0, hz0, hz1, hz2⟩ := info_parts infoFld
  have hlen := h.flen
  have HLEN := hide hlen
  have hle : n ≤ fs.length := by omega
  clear hlen
  go_enter Tryd.func59, Tryd.ntmps59
  go_wp2_with fail
  go_loopw [5, 6] (fun o i wr => ∃ k : Nat, k ≤ n ∧ i = .int .i64 k ∧ wr.ownsRow w.heap.size 38 2 o (dropL (fs.take k) name.data.toList).length (fcells (dropL (fs.take k) name.data.toList)) ∧ Below w.heap.size w wr) (fun _ i _ => n - (intOf i).toNat)
  case atStart => exact ⟨0, Nat.zero_le _, rfl, World.ownsRow_nil _ _ _ _, Below.refl _ _⟩
  case round =>
    obtain ⟨k, hk, rfl, ho, hb⟩ := hrel
    by_cases hlt : k < n
    · have hkl : k < fs.length := by omega
      obtain ⟨b, off, rfl, hbB, e0, e1⟩ := (h.below (hb.mono hB)).fld hlt hkl
      have hgs := dropL_snoc fs name.data.toList k hkl
      have hgl := dropL_len (fs.take k) name.data.toList
      rw [List.length_take] at hgl
      have hbz := hb.size
      obtain ⟨hs1, hs2⟩ := hok fs[k] (List.getElem_mem hkl)
      obtain ⟨x, hx⟩ : ∃ x, x = fs[k] := ⟨_, rfl⟩
      rw [← hx] at e0 e1 hgs hs1 hs2
      have hl1 := fun w => reflower_any ⟨x.1.toArray⟩ w (by rw [mk_size]; omega)
      have hl2 := fun w => reflower_any name w (by omega)
      rw [mk_list] at hl1
      have hle := low_eq x.1 name.data.toList
      obtain ⟨gk, hgk⟩ : ∃ gk, gk = dropL (fs.take k) name.data.toList := ⟨_, rfl⟩
      rw [← hgk] at hgs hgl ho
      have hgl' : gk.length ≤ 1000000 := by omega
      obtain ⟨sx, hsx⟩ : ∃ sx : ByteArray, sx = ⟨x.1.toArray⟩ := ⟨_, rfl⟩
      obtain ⟨sv, hsv⟩ : ∃ sv : ByteArray, sv = ⟨x.2.toArray⟩ := ⟨_, rfl⟩
      obtain ⟨l1, hl1'⟩ : ∃ l1 : ByteArray, l1 = ⟨(lowL x.1).toArray⟩ := ⟨_, rfl⟩
      obtain ⟨l2, hl2'⟩ : ∃ l2 : ByteArray, l2 = ⟨(lowL name.data.toList).toArray⟩ := ⟨_, rfl⟩
      have hsv2 : sv.data.toList = x.2 := by rw [hsv]
      have hsx2 : sx.data.toList = x.1 := by rw [hsx]
      have HSV := hide hsv2
      have HSX := hide hsx2
      rw [← hsx] at e0 hl1
      rw [← hsv] at e1
      rw [← hl1'] at hl1 hle
      rw [← hl2'] at hl2 hle
      have HG := hide hgs
      clear hgs hx hgk hsx hsv hgl hs1 hs2 hsv2 hsx2 hl1' hl2'
      have hbB' : b < w.heap.size := by omega
      have hbr : b < wr.heap.size := by omega
      rcases hcase : sameL x.1 name.data.toList with _ | _
      · rw [hcase] at hle
        have HC := hide hcase
        clear hcase
        go_wp2_with fail
        refine (hl1 _).mono ?_
        rintro e w2 ⟨rfl, b2⟩
        go_wp2_with fail
        refine (hl2 _).mono ?_
        rintro e w3 ⟨rfl, b3⟩
        have b23 := b2.trans (b3.mono b2.size)
        have ho3 := own_below ho b23
        have hb3 := hb.trans (b23.mono hbz)
        have hb3z := hb3.size
        have e30 := (b23.cell (p := ⟨b, off + k * 2, none⟩) hbr).trans e0
        have e31 := (b23.cell (p := ⟨b, off + k * 2 + 1, none⟩) hbr).trans e1
        clear e1 e0 hl1 hl2 b2 b3
        go_wp2_with (at_builtin; refine wpl_push rfl _ _ _ rfl w.heap.size i0 _ 2 32 Tryd.underlying22 hi0 hz0 hz1 hz2 rfl (by omega) _ _ _ rfl _ rfl ho3 rfl (by simp [Value.oneCell']) (by unfold maxLen; omega) (by omega) hb3z ?_; intro v1 w4 hown1 hbel1 _)
        go_roundw
        case rel => exact ⟨k + 1, by omega, by go_num, by rw [HG.out, HC.out, if_neg (by simp), List.length_append]; exact own_snoc_fld hown1 HSX.out HSV.out, hb3.trans hbel1⟩
        case measure => simp [intOf]; omega
      · rw [hcase] at hle
        have HC := hide hcase
        clear hcase
        go_wp2_with fail
        refine (hl1 _).mono ?_
        rintro e w2 ⟨rfl, b2⟩
        go_wp2_with fail
        refine (hl2 _).mono ?_
        rintro e w3 ⟨rfl, b3⟩
        have b23 := b2.trans (b3.mono b2.size)
        go_wp2
        go_roundw
        case rel => exact ⟨k + 1, by omega, by go_num, by rw [HG.out, HC.out, if_pos rfl, List.append_nil]; exact own_below ho b23, hb.trans (b23.mono hbz)⟩
        case measure => simp [intOf]; omega
    · have hfin : dropL (fs.take k) name.data.toList = dropL fs name.data.toList := by have := HLEN.out; rw [List.take_of_length_le (by omega)]
      rw [hfin] at ho
      clear hfin
      go_wp2
      go_ret
      obtain ⟨A', c', rfl, hc', -⟩ := own_shape ho
      exact ⟨A', c', rfl, ho, hc', hb⟩
end Go.Proofs.YtgdjlmpfjmakkaaDoor

/- The reference's Set; field.Set. -/
namespace Go.Proofs.YtgdjlmpfjmakkaaDoor
open Go.RowKit

set_option maxRecDepth 100000 in
set_option maxHeartbeats 3200000 in
theorem refset_any (A : Option Addr) (n c B : Nat) (fs : List (List UInt8 × List UInt8)) (name value : ByteArray) (w : World) (h : Rd w B 2 A n (fcells fs)) (hB : B ≤ w.heap.size) (hn : n ≤ 1000000) (hok : fsOk fs) (hname : name.size ≤ 1000000) :
    Calls Tryd.prog 60 #[.slice A n c, .string name, .string value] w fun e w' => ∃ A' c', e = .returned (.slice A' (setL fs name.data.toList value.data.toList).length c') ∧
      w'.ownsRow w.heap.size 38 2 (.slice A' (setL fs name.data.toList value.data.toList).length c') (setL fs name.data.toList value.data.toList).length (fcells (setL fs name.data.toList value.data.toList)) ∧ (setL fs name.data.toList value.data.toList).length ≤ c' ∧ Below w.heap.size w w' := by
  obtain ⟨i0, hi0, hz0, hz1, hz2⟩ := info_parts infoFld
  have hlen := h.flen
  have HLEN := hide hlen
  have hle : n ≤ fs.length := by omega
  clear hlen
  go_enter Tryd.func60, Tryd.ntmps60
  go_wp2_with fail
  go_loopw [7, 8, 9] (fun o dn i wr => ∃ (k : Nat) (d : Bool) (gk : List (List UInt8 × List UInt8)), k ≤ n ∧ i = .int .i64 k ∧ dn = .bool d ∧ setGo name.data.toList value.data.toList (fs.take k) = (gk, d) ∧ wr.ownsRow w.heap.size 38 2 o gk.length (fcells gk) ∧ Below w.heap.size w wr) (fun _ _ i _ => n - (intOf i).toNat)
  case atStart => exact ⟨0, false, [], Nat.zero_le _, rfl, rfl, rfl, World.ownsRow_nil _ _ _ _, Below.refl _ _⟩
  case round =>
    obtain ⟨k, d, gk, hk, rfl, rfl, hgo, ho, hb⟩ := hrel
    have hgl := setGo_len name.data.toList value.data.toList fs k (by omega)
    rw [hgo] at hgl
    have hgl' : gk.length ≤ 1000000 := by have : gk.length ≤ k := hgl; omega
    have hbz := hb.size
    by_cases hlt : k < n
    · have hkl : k < fs.length := by omega
      obtain ⟨b, off, rfl, hbB, e0, e1⟩ := (h.below (hb.mono hB)).fld hlt hkl
      have hgs := setGo_snoc name.data.toList value.data.toList fs k hkl
      rw [hgo] at hgs
      obtain ⟨hs1, hs2⟩ := hok fs[k] (List.getElem_mem hkl)
      obtain ⟨x, hx⟩ : ∃ x, x = fs[k] := ⟨_, rfl⟩
      rw [← hx] at e0 e1 hgs hs1 hs2
      have hl1 := fun w => reflower_any ⟨x.1.toArray⟩ w (by rw [mk_size]; omega)
      have hl2 := fun w => reflower_any name w (by omega)
      rw [mk_list] at hl1
      have hle := low_eq x.1 name.data.toList
      obtain ⟨l1, hl1'⟩ : ∃ l1 : ByteArray, l1 = ⟨(lowL x.1).toArray⟩ := ⟨_, rfl⟩
      obtain ⟨l2, hl2'⟩ : ∃ l2 : ByteArray, l2 = ⟨(lowL name.data.toList).toArray⟩ := ⟨_, rfl⟩
      rw [← hl1'] at hl1 hle
      rw [← hl2'] at hl2 hle
      clear hl1' hl2'
      obtain ⟨sx, hsx⟩ : ∃ sx : ByteArray, sx = ⟨x.1.toArray⟩ := ⟨_, rfl⟩
      obtain ⟨sv, hsv⟩ : ∃ sv : ByteArray, sv = ⟨x.2.toArray⟩ := ⟨_, rfl⟩
      have hsv2 : sv.data.toList = x.2 := by rw [hsv]
      have hsx2 : sx.data.toList = x.1 := by rw [hsx]
      have HSV := hide hsv2
      have HSX := hide hsx2
      rw [← hsx] at e0 hl1
      rw [← hsv] at e1
      have HG := hide hgs
      clear hgs hx hsx hsv hgl hs1 hs2 hsv2 hsx2 hgo
      have hbB' : b < w.heap.size := by omega
      have hbr : b < wr.heap.size := by omega
      rcases hcase : sameL x.1 name.data.toList with _ | _
      · rw [hcase] at hle
        have HC := hide hcase
        clear hcase
        go_wp2_with fail
        refine (hl1 _).mono ?_
        rintro e w2 ⟨rfl, b2⟩
        go_wp2_with fail
        refine (hl2 _).mono ?_
        rintro e w3 ⟨rfl, b3⟩
        have b23 := b2.trans (b3.mono b2.size)
        have ho3 := own_below ho b23
        have hb3 := hb.trans (b23.mono hbz)
        have hb3z := hb3.size
        have e30 := (b23.cell (p := ⟨b, off + k * 2, none⟩) hbr).trans e0
        have e31 := (b23.cell (p := ⟨b, off + k * 2 + 1, none⟩) hbr).trans e1
        clear e1 e0 hl1 hl2 b2 b3
        go_wp2_with (at_builtin; refine wpl_push rfl _ _ _ rfl w.heap.size i0 _ 2 32 Tryd.underlying22 hi0 hz0 hz1 hz2 rfl (by omega) _ _ _ rfl _ rfl ho3 rfl (by simp [Value.oneCell']) (by unfold maxLen; omega) (by omega) hb3z ?_; intro v1 w4 hown1 hbel1 _)
        go_roundw
        case rel => exact ⟨k + 1, d, gk ++ [x], by omega, by go_num, rfl, by rw [HG.out, HC.out, if_neg (by simp)], by rw [List.length_append]; exact own_snoc_fld hown1 HSX.out HSV.out, hb3.trans hbel1⟩
        case measure => simp [intOf]; omega
      · rw [hcase] at hle
        have HC := hide hcase
        clear hcase
        cases d
        · have hxv : setGo name.data.toList value.data.toList (fs.take (k + 1)) = (gk ++ [(x.1, value.data.toList)], true) := by rw [HG.out, HC.out, if_pos rfl, if_neg (by simp)]
          have HXV := hide hxv
          clear hxv
          go_wp2_with fail
          refine (hl1 _).mono ?_
          rintro e w2 ⟨rfl, b2⟩
          go_wp2_with fail
          refine (hl2 _).mono ?_
          rintro e w3 ⟨rfl, b3⟩
          have b23 := b2.trans (b3.mono b2.size)
          have ho3 := own_below ho b23
          have hb3 := hb.trans (b23.mono hbz)
          have hb3z := hb3.size
          have e30 := (b23.cell (p := ⟨b, off + k * 2, none⟩) hbr).trans e0
          have e31 := (b23.cell (p := ⟨b, off + k * 2 + 1, none⟩) hbr).trans e1
          clear e1 e0 hl1 hl2 b2 b3
          go_wp2_with (at_builtin; refine wpl_push rfl _ _ _ rfl w.heap.size i0 _ 2 32 Tryd.underlying22 hi0 hz0 hz1 hz2 rfl (by omega) _ _ _ rfl _ rfl ho3 rfl (by simp [Value.oneCell']) (by unfold maxLen; omega) (by omega) hb3z ?_; intro v1 w4 hown1 hbel1 _)
          go_roundw
          case rel => exact ⟨k + 1, true, _, by omega, by go_num, rfl, HXV.out, by rw [List.length_append]; exact own_snoc_fld hown1 HSX.out rfl, hb3.trans hbel1⟩
          case measure => simp [intOf]; omega
        · have hxv : setGo name.data.toList value.data.toList (fs.take (k + 1)) = (gk, true) := by rw [HG.out, HC.out, if_pos rfl, if_pos rfl]
          have HXV := hide hxv
          clear hxv
          go_wp2_with fail
          refine (hl1 _).mono ?_
          rintro e w2 ⟨rfl, b2⟩
          go_wp2_with fail
          refine (hl2 _).mono ?_
          rintro e w3 ⟨rfl, b3⟩
          have b23 := b2.trans (b3.mono b2.size)
          have ho3 := own_below ho b23
          have hb3 := hb.trans (b23.mono hbz)
          have hb3z := hb3.size
          have e30 := (b23.cell (p := ⟨b, off + k * 2, none⟩) hbr).trans e0
          have e31 := (b23.cell (p := ⟨b, off + k * 2 + 1, none⟩) hbr).trans e1
          clear e1 e0 hl1 hl2 b2 b3
          go_wp2
          go_roundw
          case rel => exact ⟨k + 1, true, gk, by omega, by go_num, rfl, HXV.out, ho3, hb3⟩
          case measure => simp [intOf]; omega
    · have hfin : setGo name.data.toList value.data.toList fs = (gk, d) := by have hL := HLEN.out; rw [← hgo, List.take_of_length_le (by omega)]
      have hset : setL fs name.data.toList value.data.toList = if d then gk else gk ++ [(name.data.toList, value.data.toList)] := by unfold setL; rw [hfin]
      have HSET := hide hset
      clear hfin hset hgo
      cases d
      · go_wp2_with (at_builtin; refine wpl_push rfl _ _ _ rfl w.heap.size i0 _ 2 32 Tryd.underlying22 hi0 hz0 hz1 hz2 rfl (by omega) _ _ _ rfl _ rfl ho rfl (by simp [Value.oneCell']) (by unfold maxLen; omega) (by omega) hbz ?_; intro v1 w4 hown1 hbel1 _)
        go_ret
        rw [HSET.out, if_neg (by simp)]
        have hfo := own_snoc_fld (f := (name.data.toList, value.data.toList)) hown1 rfl rfl
        have hl1 : (gk ++ [(name.data.toList, value.data.toList)]).length = gk.length + 1 := by simp
        rw [hl1]
        obtain ⟨A', c', rfl, hc', -⟩ := own_shape hfo
        exact ⟨A', c', rfl, hfo, hc', hb.trans hbel1⟩
      · go_wp2
        go_ret
        rw [HSET.out, if_pos (by simp)]
        obtain ⟨A', c', rfl, hc', -⟩ := own_shape ho
        exact ⟨A', c', rfl, ho, hc', hb⟩

set_option maxRecDepth 100000 in
set_option maxHeartbeats 3200000 in
theorem set_any (A : Option Addr) (n c B : Nat) (fs : List (List UInt8 × List UInt8)) (name value : ByteArray) (w : World) (h : Rd w B 2 A n (fcells fs)) (hB : B ≤ w.heap.size) (hn : n ≤ 1000000) (hok : fsOk fs) (hname : name.size ≤ 1000000) :
    Calls Tryd.prog 86 #[.slice A n c, .string name, .string value] w fun e w' => ∃ A' c', e = .returned (.slice A' (setL fs name.data.toList value.data.toList).length c') ∧
      w'.ownsRow w.heap.size 38 2 (.slice A' (setL fs name.data.toList value.data.toList).length c') (setL fs name.data.toList value.data.toList).length (fcells (setL fs name.data.toList value.data.toList)) ∧ (setL fs name.data.toList value.data.toList).length ≤ c' ∧ Below w.heap.size w w' := by
  obtain ⟨i0, hi0, hz0, hz1, hz2⟩ := info_parts infoFld
  have hlen := h.flen
  have HLEN := hide hlen
  have hle : n ≤ fs.length := by omega
  clear hlen
  go_enter Tryd.func86, Tryd.ntmps86
  go_wp2_with fail
  go_loopw [7, 8, 13] (fun o dn i wr => ∃ (k : Nat) (d : Bool) (gk : List (List UInt8 × List UInt8)), k ≤ n ∧ i = .int .i64 k ∧ dn = .bool d ∧ setGo name.data.toList value.data.toList (fs.take k) = (gk, d) ∧ wr.ownsRow w.heap.size 38 2 o gk.length (fcells gk) ∧ Below w.heap.size w wr) (fun _ _ i _ => n - (intOf i).toNat)
  case atStart => exact ⟨0, false, [], Nat.zero_le _, rfl, rfl, rfl, World.ownsRow_nil _ _ _ _, Below.refl _ _⟩
  case round =>
    obtain ⟨k, d, gk, hk, rfl, rfl, hgo, ho, hb⟩ := hrel
    have hgl := setGo_len name.data.toList value.data.toList fs k (by omega)
    rw [hgo] at hgl
    have hgl' : gk.length ≤ 1000000 := by have : gk.length ≤ k := hgl; omega
    have hbz := hb.size
    by_cases hlt : k < n
    · have hkl : k < fs.length := by omega
      obtain ⟨b, off, rfl, hbB, e0, e1⟩ := (h.below (hb.mono hB)).fld hlt hkl
      have hgs := setGo_snoc name.data.toList value.data.toList fs k hkl
      rw [hgo] at hgs
      obtain ⟨hs1, hs2⟩ := hok fs[k] (List.getElem_mem hkl)
      obtain ⟨x, hx⟩ : ∃ x, x = fs[k] := ⟨_, rfl⟩
      rw [← hx] at e0 e1 hgs hs1 hs2
      have hsm := fun w => fieldsame_any ⟨x.1.toArray⟩ name w (by rw [mk_size]; omega) (by omega)
      rw [mk_list] at hsm
      obtain ⟨sx, hsx⟩ : ∃ sx : ByteArray, sx = ⟨x.1.toArray⟩ := ⟨_, rfl⟩
      obtain ⟨sv, hsv⟩ : ∃ sv : ByteArray, sv = ⟨x.2.toArray⟩ := ⟨_, rfl⟩
      have hsv2 : sv.data.toList = x.2 := by rw [hsv]
      have hsx2 : sx.data.toList = x.1 := by rw [hsx]
      have HSV := hide hsv2
      have HSX := hide hsx2
      rw [← hsx] at e0 hsm
      rw [← hsv] at e1
      have HG := hide hgs
      clear hgs hx hsx hsv hgl hs1 hs2 hsv2 hsx2 hgo
      have hbB' : b < w.heap.size := by omega
      have hbr : b < wr.heap.size := by omega
      rcases hcase : sameL x.1 name.data.toList with _ | _
      · rw [hcase] at hsm
        have HC := hide hcase
        clear hcase
        go_wp2_with fail
        refine (hsm _).mono ?_
        rintro e w3 ⟨rfl, b3⟩
        have ho3 := own_below (ho.alloc _) b3
        have hb3 := (hb.alloc hbz _).trans (b3.mono (by simp; omega))
        have hb3z := hb3.size
        have e30 := new_kept (i := 0) b3 (by simp) rfl
        have e31 := new_kept (i := 1) b3 (by simp) rfl
        clear e1 e0
        go_wp2_with (at_builtin; refine wpl_push rfl _ _ _ rfl w.heap.size i0 _ 2 32 Tryd.underlying22 hi0 hz0 hz1 hz2 rfl (by omega) _ _ _ rfl _ rfl ho3 rfl (by simp [Value.oneCell']) (by unfold maxLen; omega) (by omega) hb3z ?_; intro v1 w4 hown1 hbel1 _)
        go_roundw
        case rel => exact ⟨k + 1, d, gk ++ [x], by omega, by go_num, rfl, by rw [HG.out, HC.out, if_neg (by simp)], by rw [List.length_append]; exact own_snoc_fld hown1 HSX.out HSV.out, hb3.trans hbel1⟩
        case measure => simp [intOf]; omega
      · rw [hcase] at hsm
        have HC := hide hcase
        clear hcase
        cases d
        · have hxv : setGo name.data.toList value.data.toList (fs.take (k + 1)) = (gk ++ [(x.1, value.data.toList)], true) := by rw [HG.out, HC.out, if_pos rfl, if_neg (by simp)]
          have HXV := hide hxv
          clear hxv
          go_wp2_with fail
          refine (hsm _).mono ?_
          rintro e w3 ⟨rfl, b3⟩
          have ho3 := own_below (ho.alloc _) b3
          have hb3 := (hb.alloc hbz _).trans (b3.mono (by simp; omega))
          have hb3z := hb3.size
          have e30 := new_kept (i := 0) b3 (by simp) rfl
          have e31 := new_kept (i := 1) b3 (by simp) rfl
          clear e1 e0
          go_wp2_with (at_builtin; refine wpl_push rfl _ _ _ rfl w.heap.size i0 _ 2 32 Tryd.underlying22 hi0 hz0 hz1 hz2 rfl (by omega) _ _ _ rfl _ rfl ho3 rfl (by simp [Value.oneCell']) (by unfold maxLen; omega) (by omega) hb3z ?_; intro v1 w4 hown1 hbel1 _)
          go_roundw
          case rel => exact ⟨k + 1, true, _, by omega, by go_num, rfl, HXV.out, by rw [List.length_append]; exact own_snoc_fld hown1 HSX.out rfl, hb3.trans hbel1⟩
          case measure => simp [intOf]; omega
        · have hxv : setGo name.data.toList value.data.toList (fs.take (k + 1)) = (gk, true) := by rw [HG.out, HC.out, if_pos rfl, if_pos rfl]
          have HXV := hide hxv
          clear hxv
          go_wp2_with fail
          refine (hsm _).mono ?_
          rintro e w3 ⟨rfl, b3⟩
          have ho3 := own_below (ho.alloc _) b3
          have hb3 := (hb.alloc hbz _).trans (b3.mono (by simp; omega))
          have hb3z := hb3.size
          have e30 := new_kept (i := 0) b3 (by simp) rfl
          have e31 := new_kept (i := 1) b3 (by simp) rfl
          clear e1 e0
          go_wp2
          go_roundw
          case rel => exact ⟨k + 1, true, gk, by omega, by go_num, rfl, HXV.out, ho3, hb3⟩
          case measure => simp [intOf]; omega
    · have hfin : setGo name.data.toList value.data.toList fs = (gk, d) := by have hL := HLEN.out; rw [← hgo, List.take_of_length_le (by omega)]
      have hset : setL fs name.data.toList value.data.toList = if d then gk else gk ++ [(name.data.toList, value.data.toList)] := by unfold setL; rw [hfin]
      have HSET := hide hset
      clear hfin hset hgo
      cases d
      · go_wp2_with (at_builtin; refine wpl_push rfl _ _ _ rfl w.heap.size i0 _ 2 32 Tryd.underlying22 hi0 hz0 hz1 hz2 rfl (by omega) _ _ _ rfl _ rfl ho rfl (by simp [Value.oneCell']) (by unfold maxLen; omega) (by omega) hbz ?_; intro v1 w4 hown1 hbel1 _)
        go_ret
        rw [HSET.out, if_neg (by simp)]
        have hfo := own_snoc_fld (f := (name.data.toList, value.data.toList)) hown1 rfl rfl
        have hl1 : (gk ++ [(name.data.toList, value.data.toList)]).length = gk.length + 1 := by simp
        rw [hl1]
        obtain ⟨A', c', rfl, hc', -⟩ := own_shape hfo
        exact ⟨A', c', rfl, hfo, hc', hb.trans hbel1⟩
      · go_wp2
        go_ret
        rw [HSET.out, if_pos (by simp)]
        obtain ⟨A', c', rfl, hc', -⟩ := own_shape ho
        exact ⟨A', c', rfl, ho, hc', hb⟩

end Go.Proofs.YtgdjlmpfjmakkaaDoor
