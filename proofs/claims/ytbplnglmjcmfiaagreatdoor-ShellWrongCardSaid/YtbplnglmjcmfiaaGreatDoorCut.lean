/- strings.Cut at one byte. -/
import Derived.Test.YtbplnglmjcmfiaaGreatDoorShelf2
import Derived.Test.YtbplnglmjcmfiaaGreatDoorTold
import Derived.Test.YtbplnglmjcmfiaaGreatDoorGets
import Derived.OwnWalk
namespace Go.Proofs.YtbplnglmjcmfiaaGreatDoor
open Go.RowKit

/-- Ahead of the first such byte, behind it, and whether there is one. -/
def cutHead (b : UInt8) (l : List UInt8) : List UInt8 := l.takeWhile fun c => !(c == b)
def cutTail (b : UInt8) (l : List UInt8) : List UInt8 := l.drop ((cutHead b l).length + 1)
def cutHas (b : UInt8) (l : List UInt8) : Bool := decide ((cutHead b l).length < l.length)
theorem cutHead_le (b : UInt8) (l : List UInt8) : (cutHead b l).length ≤ l.length := (List.takeWhile_prefix _).length_le
theorem cutHead_take (b : UInt8) (l : List UInt8) : l.take (cutHead b l).length = cutHead b l := (List.prefix_iff_eq_take.1 (List.takeWhile_prefix _)).symm
theorem cutHead_cons (b c : UInt8) (l : List UInt8) : cutHead b (c :: l) = if c == b then [] else c :: cutHead b l := by
  unfold cutHead
  by_cases h : (c == b) = true
  · rw [List.takeWhile_cons_of_neg (by simp [h]), if_pos h]
  · rw [List.takeWhile_cons_of_pos (by simpa using h), if_neg h]
theorem index_cut (b : UInt8) : ∀ l : List UInt8, Lib.indexByte l b = if cutHas b l then ((cutHead b l).length : Int) else -1
  | [] => rfl
  | c :: l => by
    have ih := index_cut b l
    unfold Lib.indexByte cutHas
    rw [cutHead_cons]
    by_cases h : (c == b) = true
    · rw [if_pos h, if_pos h]; simp
    · rw [if_neg h, if_neg h, ih]
      unfold cutHas
      by_cases h2 : (cutHead b l).length < l.length
      · simp [h2]
        try omega
      · simp [h2]

set_option maxRecDepth 100000 in
set_option maxHeartbeats 1600000 in
theorem index_any1 (s : ByteArray) (b : UInt8) (w : World) (hs : s.size ≤ 9223372036854775807) :
    Calls Tryz.prog 81 #[.string s, .string ⟨#[b]⟩] w fun e w' => e = .returned (.int .i64 (if cutHas b s.data.toList then ((cutHead b s.data.toList).length : Int) else -1)) ∧ w = w' := by
  have hib := fun w => Tryz.stringslite_IndexByte s b.toNat w
  have hbb : ((b.toNat : Int).toNat.toUInt8) = b := by simp
  simp only [hbb, index_cut] at hib
  by_cases heq : (⟨#[b]⟩ : ByteArray) = s
  · subst heq
    have hz : cutHas b [b] = true ∧ cutHead b [b] = [] := by unfold cutHas; rw [cutHead_cons]; simp
    have hl : (⟨#[b]⟩ : ByteArray).data.toList = [b] := rfl
    rw [hl, hz.1, hz.2]
    clear hib hbb hz hl
    go_enter Tryz.func81, Tryz.ntmps81
    go_wp2
    go_ret
    exact ⟨rfl, rfl⟩
  · have hne : (([b] : List UInt8) == s.toList) = false := by
      rw [ByteArray.toList_eq]
      simp only [beq_eq_false_iff_ne]
      intro h
      exact heq (bytes_ext (by simpa using h))
    obtain ⟨r, hr⟩ : ∃ r : Int, r = if cutHas b s.data.toList then ((cutHead b s.data.toList).length : Int) else -1 := ⟨_, rfl⟩
    rw [← hr] at hib ⊢
    clear hbb hr heq
    go_enter Tryz.func81, Tryz.ntmps81
    go_wp2_with fail
    refine (hib _).mono ?_
    rintro e w2 ⟨rfl, rfl⟩
    go_wp2
    go_ret
    exact ⟨rfl, rfl⟩

set_option maxRecDepth 100000 in
set_option maxHeartbeats 3200000 in
theorem slcut_any (s : ByteArray) (b : UInt8) (w : World) (hs : s.size ≤ 9223372036854775807) :
    Calls Tryz.prog 46 #[.string s, .string ⟨#[b]⟩] w fun e w' => e = .returned (.tuple #[.string ⟨(cutHead b s.data.toList).toArray⟩, .string ⟨(cutTail b s.data.toList).toArray⟩, .bool (cutHas b s.data.toList)]) ∧ Below w.heap.size w w' := by
  have hix := fun w => index_any1 s b w hs
  have hle := cutHead_le b s.data.toList
  have hsz := size_of s
  have htk := cutHead_take b s.data.toList
  rcases hb : cutHas b s.data.toList with _ | _
  · simp only [hb, Bool.false_eq_true, if_false] at hix
    have hlen : (cutHead b s.data.toList).length = s.data.toList.length := by
      unfold cutHas at hb; simp at hb; omega
    have h1 : (⟨(cutHead b s.data.toList).toArray⟩ : ByteArray) = s := bytes_ext (by rw [mk_list, ← htk, hlen, List.take_length])
    have h2 : (⟨(cutTail b s.data.toList).toArray⟩ : ByteArray) = ⟨#[]⟩ := bytes_ext (by rw [mk_list]; unfold cutTail; rw [hlen]; simp)
    rw [h1, h2]
    clear h1 h2 hlen hb htk hsz hle
    go_enter Tryz.func46, Tryz.ntmps46
    go_wp2_with fail
    refine (hix _).mono ?_
    rintro e w2 ⟨rfl, rfl⟩
    go_wp2
    go_ret3
    exact ⟨rfl, Below.refl _ _⟩
  · simp only [hb, if_true] at hix
    have hlt : (cutHead b s.data.toList).length < s.size := by
      unfold cutHas at hb; simp at hb; omega
    obtain ⟨k, hk⟩ : ∃ k, (cutHead b s.data.toList).length = k := ⟨_, rfl⟩
    have h1 : s.extract 0 k = ⟨(cutHead b s.data.toList).toArray⟩ := bytes_ext (by rw [mk_list, extract_list, List.drop_zero, ← hk]; exact htk)
    have h2 : s.extract (k + 1) s.size = ⟨(cutTail b s.data.toList).toArray⟩ := bytes_ext (by
      rw [mk_list, extract_list]; unfold cutTail; rw [hk, List.take_of_length_le (by omega)])
    rw [← h1, ← h2]
    rw [hk] at hix hlt
    have i0 : (0 : Int) ≤ (k : Int) := by omega
    have i1 : (k : Int) ≤ (s.size : Int) := by omega
    have i2 : (k : Int) + 1 ≤ (s.size : Int) := by omega
    have i3 : IntKind.i64.wrap ((k : Int) + 1) = (k : Int) + 1 := by simp [IntKind.wrap, IntKind.bits, IntKind.signed]; omega
    have i4 : (0 : Int) ≤ (k : Int) + 1 := by omega
    have i5 : ((k : Int) + 1).toNat = k + 1 := by omega
    clear h1 h2 hb htk hsz hle hk
    go_enter Tryz.func46, Tryz.ntmps46
    go_wp2_with fail
    refine (hix _).mono ?_
    rintro e w2 ⟨rfl, rfl⟩
    go_wp2
    go_quiet (fail)
    go_wp2
    go_ret3
    exact ⟨rfl, below_drewN (Below.refl _ _)⟩

set_option maxRecDepth 100000 in
theorem strcut_any (s : ByteArray) (b : UInt8) (w : World) (hs : s.size ≤ 9223372036854775807) :
    Calls Tryz.prog 22 #[.string s, .string ⟨#[b]⟩] w fun e w' => e = .returned (.tuple #[.string ⟨(cutHead b s.data.toList).toArray⟩, .string ⟨(cutTail b s.data.toList).toArray⟩, .bool (cutHas b s.data.toList)]) ∧ Below w.heap.size w w' := by
  have hc := slcut_any s b w hs
  obtain ⟨h, hh⟩ : ∃ h : ByteArray, h = ⟨(cutHead b s.data.toList).toArray⟩ := ⟨_, rfl⟩
  obtain ⟨t, ht⟩ : ∃ h : ByteArray, h = ⟨(cutTail b s.data.toList).toArray⟩ := ⟨_, rfl⟩
  obtain ⟨r, hr⟩ : ∃ h, h = cutHas b s.data.toList := ⟨_, rfl⟩
  rw [← hh, ← ht, ← hr] at hc ⊢
  clear hh ht hr
  go_enter Tryz.func22, Tryz.ntmps22
  go_wp2_with fail
  refine hc.mono ?_
  rintro e w2 ⟨rfl, b2⟩
  go_wp2
  go_ret3
  exact ⟨rfl, b2⟩
end Go.Proofs.YtbplnglmjcmfiaaGreatDoor
