/- What shell.Run's texts are cut into; a text that is no script. -/
import Derived.Test.YtbplnglmjcmfiaaGreatDoorScriptLines
import Derived.Test.YtbplnglmjcmfiaaGreatDoorHeadEndI
namespace Go.Proofs.YtbplnglmjcmfiaaGreatDoor
set_option linter.unusedVariables false
set_option linter.unusedSimpArgs false

theorem cut_hit {a b : List UInt8} (h : (10 : UInt8) ∉ a) : Lib.cut (a ++ 10 :: b) [10] = (a, b, true) := by
  have e : Lib.index (a ++ 10 :: b) [10] = a.length := by
    have := index_hit (c := 10) (t := []) (b := b) h
    simpa using this
  unfold Lib.cut
  rw [e, if_pos (by omega)]
  simp
theorem cut_miss {a : List UInt8} (h : (10 : UInt8) ∉ a) : Lib.cut a [10] = (a, [], false) := by
  have e : Lib.index a [10] = -1 := index_miss (c := 10) (t := []) h
  unfold Lib.cut
  rw [e, if_neg (by decide)]
theorem bytes_ne {c : UInt8} (h : c ≠ 120) (t : List UInt8) : Scr.bytesOf' (c :: t) = none := by simp [Scr.bytesOf', h]
theorem trim_y (t : List UInt8) : Scr.bytesOf' (Lib.trimSuffix (121 :: t) [10]) = none := by
  unfold Lib.trimSuffix
  split
  · rename_i h
    cases t with
    | nil => revert h; decide
    | cons x r =>
      have e : ((121 : UInt8) :: x :: r).take (((121 : UInt8) :: x :: r).length - ([10] : List UInt8).length) = 121 :: (x :: r).take r.length := by simp
      rw [e]
      exact bytes_ne (by decide) _
  · exact bytes_ne (by decide) _
theorem bytes_odd : Scr.bytesOf' (Lib.trimSuffix [120, 48] [10]) = none := by decide
theorem bytes_AA : Scr.bytesOf' (Lib.trimSuffix [120, 65, 65] [10]) = none := by decide
theorem text_head (L : Scr.Ln) : ∃ c r, L.text = c :: r ∧ c ≠ 63 := by
  cases L <;> exact ⟨_, _, rfl, by decide⟩
theorem parse_q (t : List UInt8) : Scr.parseL 0 1 [] (63 :: t) = .bad 1 := by
  have hne : ¬ ((63 :: t : List UInt8) = [] ∧ (0 : Nat) ≠ 0) := by simp
  cases hc : (Scr.cutNl (63 :: t)).2.2 with
  | false => exact Scr.parseL_open hne hc
  | true =>
    refine Scr.parseL_none hne ?_
    have h1 : ∃ r, (Scr.cutNl (63 :: t)).1 = 63 :: r := ⟨(Scr.cutNl t).1, by simp [Scr.cutNl]⟩
    obtain ⟨r, hr⟩ := h1
    rw [hr]
    cases hl : Scr.lineR (63 :: r) with
    | none => rfl
    | some L =>
      obtain ⟨c, r2, e1, e2⟩ := text_head L
      have := (Scr.lineR_text hl).1
      rw [e1] at this
      cases this
      exact absurd rfl e2
end Go.Proofs.YtbplnglmjcmfiaaGreatDoor
