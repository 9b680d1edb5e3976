/- FieldGoods returns true for any two strings, and the strings read as before. -/
import Derived.Test.YtmijkefdnfmpiaaDoorAns16
import Derived.Test.YtmijkefdnfmpiaaDoorRefName

namespace Go.Proofs.YtmijkefdnfmpiaaDoor.FieldGoodsP
open Go.RowKit

set_option maxRecDepth 100000 in
set_option maxHeartbeats 3200000 in
theorem walk (a b : ByteArray) (w : World) (ha : a.size ≤ 9223372036854775807) (hb : b.size ≤ 9223372036854775807) :
    Calls Tryd.prog 6 #[.string a, .string b] w fun e w' => e = .returned (.bool true) ∧ Below w.heap.size w w' := by
  by_cases h : a.size ≤ 6000 ∧ b.size ≤ 6000
  · obtain ⟨h1, h2⟩ := h
    have g1 := goodName_any a
    have g2 := refname_any a
    have g3 := goodValue_any a
    have g4 := refvalue_any a
    have g5 := lower_any a
    have g6 := reflower_any a
    have g7 := trim_any a
    have g8 := reftrim_any a
    have g9 := fieldsame_any a b
    have g10 := reflower_any b
    have hsz : (⟨(lowL a.data.toList).toArray⟩ : ByteArray).size = a.size := by rw [size_of, size_of]; simp [lowL_length]
    have g11 := fieldsame_any a ⟨(lowL a.data.toList).toArray⟩
    have hlow : ∀ l : List UInt8, lowL (lowL l) = lowL l := fun l => by
      simp only [lowL, List.map_map]
      refine List.map_congr_left fun c _ => ?_
      show lowB (lowB c) = lowB c
      by_cases h : 65 ≤ c.toNat ∧ c.toNat ≤ 90
      · have := lowB_hit c h; exact lowB_miss _ (by omega)
      · rw [lowB_miss c h, lowB_miss c h]
    have hsame : sameL a.data.toList (⟨(lowL a.data.toList).toArray⟩ : ByteArray).data.toList = true := by
      show (lowL _ == lowL _) = true
      simp [hlow]
    rw [hsame] at g11
    obtain ⟨x, hx⟩ : ∃ x, x = goodNameL a.data.toList := ⟨_, rfl⟩
    obtain ⟨y, hy⟩ : ∃ y, y = goodValueL a.data.toList := ⟨_, rfl⟩
    obtain ⟨la, hla⟩ : ∃ la : ByteArray, la = ⟨(lowL a.data.toList).toArray⟩ := ⟨_, rfl⟩
    obtain ⟨lb, hlb⟩ : ∃ lb : ByteArray, lb = ⟨(lowL b.data.toList).toArray⟩ := ⟨_, rfl⟩
    obtain ⟨ta, hta⟩ : ∃ ta : ByteArray, ta = ⟨(trimL a.data.toList).toArray⟩ := ⟨_, rfl⟩
    have hsab : sameL a.data.toList b.data.toList = (la.toList == lb.toList) := by rw [ByteArray.toList_eq, ByteArray.toList_eq, hla, hlb]; rfl
    rw [hsab] at g9
    rw [← hx] at g1 g2
    rw [← hy] at g3 g4
    rw [← hla] at g5 g6 g11 hsz
    rw [← hlb] at g10
    rw [← hta] at g7 g8
    clear hx hy hla hlb hta hsab hsame hlow
    obtain ⟨q, hq⟩ : ∃ q, q = (la.toList == lb.toList) := ⟨_, rfl⟩
    rw [← hq] at g9
    have hla6 : la.size ≤ 6000 := by omega
    have HLA := hide hla6
    clear hsz hla6
    have hq' : (la.toList == lb.toList) = q := hq.symm
    clear hq
    go_enter Tryd.func6, Tryd.ntmps6
    go_wp2_with fail
    refine (ans16_any _).mono ?_
    rintro e w1 ⟨rfl, b1⟩
    go_wp2_with fail
    refine (g1 _ (by omega)).mono ?_
    rintro e w2 ⟨rfl, rfl⟩
    go_wp2_with fail
    refine (g2 _ (by omega)).mono ?_
    rintro e w2 ⟨rfl, rfl⟩
    go_wp2_with fail
    refine (g3 _ (by omega)).mono ?_
    rintro e w3 ⟨rfl, b3⟩
    go_wp2_with fail
    refine (g4 _ (by omega)).mono ?_
    rintro e w4 ⟨rfl, rfl⟩
    go_wp2_with fail
    refine (g5 _ (by omega)).mono ?_
    rintro e w5 ⟨rfl, b5⟩
    go_wp2_with fail
    refine (g6 _ (by omega)).mono ?_
    rintro e w6 ⟨rfl, b6⟩
    go_wp2_with fail
    refine (g7 _ (by omega)).mono ?_
    rintro e w7 ⟨rfl, b7⟩
    go_wp2_with fail
    refine (g8 _ (by omega)).mono ?_
    rintro e w8 ⟨rfl, rfl⟩
    go_wp2_with fail
    refine (g9 _ (by omega) (by omega)).mono ?_
    rintro e w9 ⟨rfl, b9⟩
    go_wp2_with fail
    refine (g6 _ (by omega)).mono ?_
    rintro e w10 ⟨rfl, b10⟩
    go_wp2_with fail
    refine (g10 _ (by omega)).mono ?_
    rintro e w11 ⟨rfl, b11⟩
    go_wp2_with fail
    refine (g6 _ (by omega)).mono ?_
    rintro e w12 ⟨rfl, b12⟩
    go_wp2_with fail
    refine (g11 _ (by omega) (by have := HLA.out; omega)).mono ?_
    rintro e w13 ⟨rfl, b13⟩
    go_wp2
    go_ret
    refine ⟨rfl, ?_⟩
    have t3 := b1.trans (b3.mono b1.size)
    have t5 := t3.trans (b5.mono t3.size)
    have t6 := t5.trans (b6.mono t5.size)
    have t7 := t6.trans (b7.mono t6.size)
    have t9 := t7.trans (b9.mono t7.size)
    have t10 := t9.trans (b10.mono t9.size)
    have t11 := t10.trans (b11.mono t10.size)
    have t12 := t11.trans (b12.mono t11.size)
    exact t12.trans (b13.mono t12.size)
  · by_cases h1 : 6000 < a.size
    · go_enter Tryd.func6, Tryd.ntmps6
      go_wp2_with (go_at_call 15; refine (ans16_any _).mono ?_; rintro e w' ⟨rfl, hB⟩)
      go_ret
      exact ⟨rfl, hB⟩
    · have h2 : 6000 < b.size := by omega
      clear h
      go_enter Tryd.func6, Tryd.ntmps6
      go_wp2_with (go_at_call 15; refine (ans16_any _).mono ?_; rintro e w' ⟨rfl, hB⟩)
      go_ret
      exact ⟨rfl, hB⟩
end Go.Proofs.YtmijkefdnfmpiaaDoor.FieldGoodsP
