/- What a printed head is read as. -/
import Derived.Test.YtfifoimnebbflaaGreatDoorPrintsSpec
import Derived.Test.YtfifoimnebbflaaGreatDoorHeadResp
namespace Go.Proofs.YtfifoimnebbflaaGreatDoor
open Go.RowKit
set_option linter.unusedVariables false
set_option linter.unusedSimpArgs false

theorem print_zero {first : List UInt8} {fs : List (List UInt8 × List UInt8)} (h : printE first fs = 0) : ¬ 64 < fs.length ∧ fs.all fldOk = true ∧ ¬ 16384 < (headB first fs).length ∧ printB first fs = headB first fs := by
  by_cases h1 : 64 < fs.length
  · have := (print_many (first := first) h1).1; omega
  · rcases h2 : fs.all fldOk with _ | _
    · have := (print_bad (first := first) h2).1; omega
    · by_cases h3 : 16384 < (headB first fs).length
      · have := (print_long (first := first) h1 h2 h3).1; omega
      · exact ⟨h1, rfl, h3, (print_ok h1 h2 h3).2⟩
theorem reqFirst_no13 {m t : List UInt8} {mi : Nat} (hm : goodNameL m = true) (ht : targetL t = true) (hmi : mi < 2) : (13 : UInt8) ∉ reqFirst m t mi := by
  have h1 := no13_name hm (c := 13) (by decide)
  have h2 : (13 : UInt8) ∉ t := fun hc => by
    unfold targetL slashOk at ht
    simp only [Bool.and_eq_true] at ht
    have := List.all_eq_true.1 ht.1 13 hc
    exact absurd this (by decide)
  have h3 : ∀ mi, mi < 2 → (13 : UInt8) ∉ verL ++ [UInt8.ofNat (48 + mi)] := by decide
  have h4 := h3 mi hmi
  rw [← Lib.decDigits_one (by omega)] at h4
  unfold reqFirst
  simp only [List.mem_append, not_or, List.mem_singleton] at h4 ⊢
  exact ⟨⟨⟨⟨⟨h1, by decide⟩, h2⟩, by decide⟩, h4.1⟩, h4.2⟩
theorem reqFirst_words {m t : List UInt8} {mi : Nat} (hm : goodNameL m = true) (ht : targetL t = true) (hmi : mi < 2) : Lib.split (reqFirst m t mi) [32] = [m, t, verL ++ Lib.decDigits mi] := by
  have h1 := no13_name hm (c := 32) (by decide)
  have h2 : (32 : UInt8) ∉ t := fun hc => by
    unfold targetL slashOk at ht
    simp only [Bool.and_eq_true] at ht
    have := List.all_eq_true.1 ht.1 32 hc
    exact absurd this (by decide)
  rw [show reqFirst m t mi = m ++ [32] ++ (t ++ [32] ++ (verL ++ Lib.decDigits mi)) by unfold reqFirst; simp, words_cons h1, words_cons h2, words_one (ver_no32 mi hmi)]
theorem head_req {m t : List UInt8} {minor : Int} {fs : List (List UInt8 × List UInt8)} (h : preqE m t minor fs = 0) :
    reqE (preqB m t minor fs) = 0 ∧ rM (preqB m t minor fs) = m ∧ rT (preqB m t minor fs) = t ∧ (rN (preqB m t minor fs) : Int) = minor ∧ rFs (preqB m t minor fs) = fs ∧ (preqB m t minor fs).length ≤ 16384 ∧
      ∀ more, endE (preqB m t minor fs ++ more) = 0 ∧ endN (preqB m t minor fs ++ more) = (preqB m t minor fs).length := by
  unfold preqE at h
  unfold preqB
  rcases hg : reqGood m t minor with _ | _
  · rw [hg] at h; simp at h
  · rw [hg, if_pos rfl] at h
    rw [if_pos rfl]
    obtain ⟨h1, h2, h3, h4⟩ := print_zero h
    rw [h4]
    unfold reqGood at hg
    simp only [Bool.and_eq_true, decide_eq_true_eq] at hg
    obtain ⟨g1, g2, g3, g4⟩ := hg
    obtain ⟨mi, rfl⟩ : ∃ k : Nat, minor = k := ⟨minor.toNat, by omega⟩
    have hmi : mi < 2 := by omega
    rw [Int.toNat_natCast] at h3 ⊢
    obtain ⟨p1, p2, p3⟩ := parse_head (fs := fs) (reqFirst_no13 g1 g2 hmi) h2 (by omega)
    rw [if_neg h1] at p1
    have hw : reqWords (headB (reqFirst m t mi) fs) = [m, t, verL ++ Lib.decDigits mi] := by unfold reqWords; rw [p2]; exact reqFirst_words g1 g2 hmi
    have hok : reqOk [m, t, verL ++ Lib.decDigits mi] = true := by
      unfold reqOk
      simp [g1, g2, (minor_of mi hmi).1]
    have hE : reqE (headB (reqFirst m t mi) fs) = 0 := by unfold reqE; rw [p1, if_pos rfl, hw, hok]; rfl
    refine ⟨hE, ?_, ?_, ?_, ?_, by omega, fun more => head_end (reqFirst_no13 g1 g2 hmi) h2 (by omega) more⟩
    · unfold rM; rw [if_pos hE, hw]; rfl
    · unfold rT; rw [if_pos hE, hw]; rfl
    · unfold rN; rw [if_pos hE, hw]
      show ((minorN (verL ++ Lib.decDigits mi) : Nat) : Int) = _
      rw [(minor_of mi hmi).2]
    · unfold rFs; rw [if_pos hE, p3]
theorem resFirst_no13 {mi st : Nat} {rs : List UInt8} (hmi : mi < 2) (hst : 100 ≤ st ∧ st ≤ 599) (hr : reasonL rs = true) : (13 : UInt8) ∉ resFirst mi st rs := by
  have h3 : ∀ mi, mi < 2 → (13 : UInt8) ∉ verL ++ [UInt8.ofNat (48 + mi)] := by decide
  have h4 := h3 mi hmi
  rw [← Lib.decDigits_one (by omega)] at h4
  have h5 : (13 : UInt8) ∉ Lib.decDigits st := by
    rw [dec_three hst.1 (by omega)]
    have : ∀ a, a < 10 → ¬ (13 : UInt8) = UInt8.ofNat (48 + a) := by decide
    simp only [List.mem_cons, List.not_mem_nil, or_false, not_or]
    exact ⟨this _ (by omega), this _ (by omega), this _ (by omega)⟩
  have h6 : (13 : UInt8) ∉ rs := fun hc => by
    unfold reasonL at hr
    simp only [Bool.and_eq_true] at hr
    have := List.all_eq_true.1 hr.2 13 hc
    exact absurd this (by decide)
  unfold resFirst
  simp only [List.mem_append, not_or, List.mem_singleton] at h4 ⊢
  exact ⟨⟨⟨⟨⟨h4.1, h4.2⟩, by decide⟩, h5⟩, by decide⟩, h6⟩
theorem head_res {minor st : Int} {rs : List UInt8} {fs : List (List UInt8 × List UInt8)} (h : presE minor st rs fs = 0) :
    ∃ mi si : Nat, minor = mi ∧ st = si ∧ mi < 2 ∧ (100 ≤ si ∧ si ≤ 599) ∧ reasonL rs = true ∧ parseE (presB minor st rs fs) = 0 ∧ firstL (presB minor st rs fs) = resFirst mi si rs ∧ fieldsL (presB minor st rs fs) = fs ∧ (presB minor st rs fs).length ≤ 16384 ∧
      ∀ more, endE (presB minor st rs fs ++ more) = 0 ∧ endN (presB minor st rs fs ++ more) = (presB minor st rs fs).length := by
  unfold presE at h
  unfold presB
  rcases hg : resGood minor st rs with _ | _
  · rw [hg] at h; simp at h
  · rw [hg, if_pos rfl] at h
    rw [if_pos rfl]
    obtain ⟨h1, h2, h3, h4⟩ := print_zero h
    rw [h4]
    unfold resGood at hg
    simp only [Bool.and_eq_true, decide_eq_true_eq] at hg
    obtain ⟨⟨g1, g2⟩, ⟨g3, g4⟩, g5⟩ := hg
    obtain ⟨mi, rfl⟩ : ∃ k : Nat, minor = k := ⟨minor.toNat, by omega⟩
    obtain ⟨si, rfl⟩ : ∃ k : Nat, st = k := ⟨st.toNat, by omega⟩
    have hmi : mi < 2 := by omega
    have hst : 100 ≤ si ∧ si ≤ 599 := by omega
    rw [Int.toNat_natCast, Int.toNat_natCast] at h3 ⊢
    have hn := resFirst_no13 (rs := rs) hmi hst g5
    obtain ⟨p1, p2, p3⟩ := parse_head (fs := fs) hn h2 (by omega)
    rw [if_neg h1] at p1
    exact ⟨mi, si, rfl, rfl, hmi, hst, g5, p1, p2, p3, by omega, fun more => head_end hn h2 (by omega) more⟩
end Go.Proofs.YtfifoimnebbflaaGreatDoor
