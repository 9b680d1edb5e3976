/- The reference's Get and All; Has of both. -/
import Derived.Test.YtgdjlmpfjmakkaaDoorFlds
namespace Go.Proofs.YtgdjlmpfjmakkaaDoor
open Go.RowKit

theorem low_eq (a b : List UInt8) : ((⟨(lowL a).toArray⟩ : ByteArray).toList == (⟨(lowL b).toArray⟩ : ByteArray).toList) = sameL a b := by rw [ByteArray.toList_eq, ByteArray.toList_eq]; rfl

set_option maxRecDepth 100000 in
set_option maxHeartbeats 3200000 in
theorem refget_any (A : Option Addr) (n c B : Nat) (fs : List (List UInt8 × List UInt8)) (name : ByteArray) (w : World) (h : Rd w B 2 A n (fcells fs)) (hB : B ≤ w.heap.size) (hn : n ≤ 1000000) (hok : fsOk fs) (hname : name.size ≤ 1000000) :
    Calls Tryd.prog 20 #[.slice A n c, .string name] w fun e w' => ∃ A' c', e = .returned (.slice A' (getL fs name.data.toList).length c') ∧
      w'.ownsRow w.heap.size 9 1 (.slice A' (getL fs name.data.toList).length c') (getL fs name.data.toList).length (scells (getL fs name.data.toList)) ∧ (getL fs name.data.toList).length ≤ c' ∧ Below w.heap.size w w' := by
  obtain ⟨i0, hi0, hz0, hz1, hz2⟩ := info_parts infoStr
  have hlen := h.flen
  have HLEN := hide hlen
  have hle : n ≤ fs.length := by omega
  clear hlen
  go_enter Tryd.func20, Tryd.ntmps20
  go_wp2_with fail
  go_loopw [5, 6] (fun o i wr => ∃ k : Nat, k ≤ n ∧ i = .int .i64 k ∧ wr.ownsRow w.heap.size 9 1 o (getL (fs.take k) name.data.toList).length (scells (getL (fs.take k) name.data.toList)) ∧ Below w.heap.size w wr) (fun _ i _ => n - (intOf i).toNat)
  case atStart => exact ⟨0, Nat.zero_le _, rfl, World.ownsRow_nil _ _ _ _, Below.refl _ _⟩
  case round =>
    obtain ⟨k, hk, rfl, ho, hb⟩ := hrel
    by_cases hlt : k < n
    · have hkl : k < fs.length := by omega
      obtain ⟨b, off, rfl, hbB, e0, e1⟩ := (h.below (hb.mono hB)).fld hlt hkl
      have hgs := getL_snoc fs name.data.toList k hkl
      have hgl := getL_len (fs.take k) name.data.toList
      rw [List.length_take] at hgl
      have hbz := hb.size
      obtain ⟨hs1, hs2⟩ := hok fs[k] (List.getElem_mem hkl)
      obtain ⟨x, hx⟩ : ∃ x, x = fs[k] := ⟨_, rfl⟩
      rw [← hx] at e0 e1 hgs hs1 hs2
      have hl1 := fun w => reflower_any ⟨x.1.toArray⟩ w (by rw [mk_size]; omega)
      have hl2 := fun w => reflower_any name w (by omega)
      rw [mk_list] at hl1
      have hle := low_eq x.1 name.data.toList
      obtain ⟨gk, hgk⟩ : ∃ gk, gk = getL (fs.take k) name.data.toList := ⟨_, rfl⟩
      rw [← hgk] at hgs hgl ho
      have hgl' : gk.length ≤ 1000000 := by omega
      obtain ⟨sx, hsx⟩ : ∃ sx : ByteArray, sx = ⟨x.1.toArray⟩ := ⟨_, rfl⟩
      obtain ⟨sv, hsv⟩ : ∃ sv : ByteArray, sv = ⟨x.2.toArray⟩ := ⟨_, rfl⟩
      obtain ⟨l1, hl1'⟩ : ∃ l1 : ByteArray, l1 = ⟨(lowL x.1).toArray⟩ := ⟨_, rfl⟩
      obtain ⟨l2, hl2'⟩ : ∃ l2 : ByteArray, l2 = ⟨(lowL name.data.toList).toArray⟩ := ⟨_, rfl⟩
      have hsv2 : sv.data.toList = x.2 := by rw [hsv]
      have HSV := hide hsv2
      rw [← hsx] at e0 hl1
      rw [← hsv] at e1
      rw [← hl1'] at hl1 hle
      rw [← hl2'] at hl2 hle
      have HG := hide hgs
      clear hgs hx hgk hsx hsv hgl hs1 hs2 hsv2 hl1' hl2'
      have hbB' : b < w.heap.size := by omega
      have hbr : b < wr.heap.size := by omega
      rcases hcase : sameL x.1 name.data.toList with _ | _
      · rw [hcase] at hle
        have HC := hide hcase
        clear hcase
        go_wp2_with fail
        refine (hl1 _).mono ?_
        rintro e w2 ⟨rfl, b2⟩
        go_wp2_with fail
        refine (hl2 _).mono ?_
        rintro e w3 ⟨rfl, b3⟩
        have b23 := b2.trans (b3.mono b2.size)
        go_wp2
        go_roundw
        case rel => exact ⟨k + 1, by omega, by go_num, by rw [HG.out, HC.out]; simpa using own_below ho b23, hb.trans (b23.mono hbz)⟩
        case measure => simp [intOf]; omega
      · rw [hcase] at hle
        have HC := hide hcase
        clear hcase
        go_wp2_with fail
        refine (hl1 _).mono ?_
        rintro e w2 ⟨rfl, b2⟩
        go_wp2_with fail
        refine (hl2 _).mono ?_
        rintro e w3 ⟨rfl, b3⟩
        have b23 := b2.trans (b3.mono b2.size)
        have ho3 := own_below ho b23
        have hb3 := hb.trans (b23.mono hbz)
        have hb3z := hb3.size
        have e3 := (b23.cell (p := ⟨b, off + k * 2 + 1, none⟩) hbr).trans e1
        clear e1 e0 hl1 hl2 b2 b3
        go_wp2_with (at_builtin; refine wpl_push rfl _ _ _ rfl w.heap.size i0 _ 1 16 Tryd.underlying32 hi0 hz0 hz1 hz2 rfl (by omega) _ _ _ rfl _ rfl ho3 rfl (by simp [Value.oneCell']) (by simp [maxLen]; omega) (by omega) hb3z ?_; intro v1 w4 hown1 hbel1 _)
        go_roundw
        case rel => exact ⟨k + 1, by omega, by go_num, by rw [HG.out, HC.out, if_pos rfl, List.length_append]; exact own_snoc_str hown1 HSV.out, hb3.trans hbel1⟩
        case measure => simp [intOf]; omega
    · have hfin : getL (fs.take k) name.data.toList = getL fs name.data.toList := by have := HLEN.out; rw [List.take_of_length_le (by omega)]
      rw [hfin] at ho
      clear hfin
      go_wp2
      go_ret
      obtain ⟨A', c', rfl, hc', -⟩ := own_shape ho
      exact ⟨A', c', rfl, ho, hc', hb⟩
end Go.Proofs.YtgdjlmpfjmakkaaDoor
