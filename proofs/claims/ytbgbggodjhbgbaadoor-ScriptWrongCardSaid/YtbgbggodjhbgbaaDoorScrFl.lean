/- Arguments that are not below nought are a file's; how long its text is. -/
import Derived.Test.YtbgbggodjhbgbaaDoorScrMatch
namespace Go.Proofs.YtbgbggodjhbgbaaDoor
open Go.RowKit
set_option linter.unusedVariables false
set_option linter.unusedSimpArgs false

def flOf (C : CfgA) (S : ActA) : Scr.Fl := ⟨C.a.toNat, C.b.toNat, C.c.toNat, C.d.toNat, C.e.toNat, C.rs.map fun r => (r.1, r.2.1, r.2.2.toNat), C.ts, S.al.map fun a => (a.1.toNat, a.2.1.toNat, a.2.2.1.toNat, a.2.2.2)⟩
/-- The numbers are of 64 bits. -/
def I64 (C : CfgA) (S : ActA) : Prop := (C.a ≤ 9223372036854775807 ∧ C.b ≤ 9223372036854775807 ∧ C.c ≤ 9223372036854775807 ∧ C.d ≤ 9223372036854775807 ∧ C.e ≤ 9223372036854775807) ∧ (∀ r ∈ C.rs, r.2.2 ≤ 9223372036854775807) ∧ ∀ a ∈ S.al, a.1 ≤ 9223372036854775807 ∧ a.2.1 ≤ 9223372036854775807 ∧ a.2.2.1 ≤ 9223372036854775807
theorem map_self {α : Type} {l : List α} {f : α → α} (h : ∀ x ∈ l, f x = x) : l = l.map f := (List.map_id l).symm.trans (List.map_congr_left fun x hx => (h x hx).symm)
theorem match_flOf {C : CfgA} {S : ActA} (h : belowB C S = false) : Match C S (flOf C S) := by
  unfold belowB cfgNeg at h
  simp only [Bool.or_eq_false_iff, decide_eq_false_iff_not] at h
  obtain ⟨⟨⟨⟨⟨⟨h1, h2⟩, h3⟩, h4⟩, h5⟩, hr⟩, ha⟩ := h
  refine ⟨(Int.toNat_of_nonneg (by omega)).symm, (Int.toNat_of_nonneg (by omega)).symm, (Int.toNat_of_nonneg (by omega)).symm, (Int.toNat_of_nonneg (by omega)).symm, (Int.toNat_of_nonneg (by omega)).symm, ?_, rfl, ?_⟩
  · show C.rs = (C.rs.map _).map _
    rw [List.map_map]
    refine map_self fun r hm => ?_
    have := List.any_eq_false.mp hr r hm
    simp only [rtNeg, decide_eq_true_eq] at this
    obtain ⟨x, y, z⟩ := r
    simp only [Function.comp] at this ⊢
    rw [Int.toNat_of_nonneg (by omega)]
  · show S.al = (S.al.map _).map _
    rw [List.map_map]
    refine map_self fun r hm => ?_
    have := List.any_eq_false.mp ha r hm
    simp only [acNeg, Bool.or_eq_true, decide_eq_true_eq] at this
    obtain ⟨x, y, z, d⟩ := r
    simp only [Function.comp] at this ⊢
    rw [Int.toNat_of_nonneg (by omega), Int.toNat_of_nonneg (by omega), Int.toNat_of_nonneg (by omega)]
theorem fit_flOf {C : CfgA} {S : ActA} (h : I64 C S) : ∀ L ∈ (flOf C S).lines, L.fit := by
  obtain ⟨⟨h1, h2, h3, h4, h5⟩, hr, ha⟩ := h
  intro L hL
  rw [lines_is] at hL
  simp only [List.mem_cons, List.mem_append, List.mem_map] at hL
  rcases hL with rfl | ⟨r, hm, rfl⟩ | ⟨t, hm, rfl⟩ | ⟨a, hm, rfl⟩
  · show _ ≤ _ ∧ _ ≤ _ ∧ _ ≤ _ ∧ _ ≤ _ ∧ _ ≤ _
    simp only [flOf, Scr.maxI]; omega
  · obtain ⟨x, hx, rfl⟩ := List.mem_map.mp (show r ∈ C.rs.map _ from hm)
    have := hr x hx
    show _ ≤ _
    simp only [Scr.maxI]; omega
  · trivial
  · obtain ⟨x, hx, rfl⟩ := List.mem_map.mp (show a ∈ S.al.map _ from hm)
    have := ha x hx
    show _ ≤ _ ∧ _ ≤ _ ∧ _ ≤ _
    simp only [Scr.maxI]; omega
theorem text_le (L : Scr.Ln) (h : L.fit) : L.text.length ≤ 120 + 2 * lnW L := by
  cases L with
  | cfg a b c d e =>
    obtain ⟨h1, h2, h3, h4, h5⟩ := h
    have := numsT_len [a, b, c, d, e] (by simp; omega)
    rw [scr_cfgT]; simp only [List.length_append, Scr.wCfg, List.length_cons, List.length_nil] at this ⊢; omega
  | rt hh p u =>
    have := numsT_len [u] (by intro k hk; rw [List.mem_singleton.mp hk]; exact h)
    rw [scr_rtT]; simp only [lnW, List.length_append, Scr.wRt, List.length_cons, List.length_nil, hexL_len] at this ⊢; omega
  | ty t => rw [scr_tyT]; simp only [lnW, Scr.wTy, List.length_append, List.length_cons, List.length_nil, hexL_len]; omega
  | ac k c n d =>
    obtain ⟨h1, h2, h3⟩ := h
    have := numsT_len [k, c, n] (by simp; omega)
    rw [scr_acT]; simp only [lnW, Scr.wAc, List.length_append, List.length_cons, List.length_nil, hexL_len] at this ⊢; omega
theorem linesT_le (Ls : List Scr.Ln) (h : ∀ L ∈ Ls, L.fit) : (Scr.linesT Ls).length ≤ 121 * Ls.length + 2 * (Ls.map lnW).sum := by
  induction Ls with
  | nil => simp [Scr.linesT]
  | cons L r ih =>
    have h1 := text_le L (h L (by simp))
    have h2 := ih fun x hx => h x (by simp [hx])
    rw [Scr.linesT]; simp only [List.length_append, List.length_cons, List.map_cons, List.sum_cons]; omega
/-- What is light has a text that is not long. -/
theorem flOf_len {C : CfgA} {S : ActA} {w : World} {B : Nat} (hC : C.In w B) (hS : S.In w B) (hb : belowB C S = false) (hf : I64 C S) (h : totR C.rs + totT C.ts + totA S.al + 20 * (C.nR + C.nT + S.n) < 20000) :
    (Scr.linesT (flOf C S).lines).length ≤ 170000 := by
  have M := match_flOf hb
  have h1 := linesT_le _ (fit_flOf hf)
  have h2 := lnW_lines (flOf C S)
  have h3 : totR ((flOf C S).rts.map rtI) + totT (flOf C S).tys + totA ((flOf C S).acs.map acI) = totR C.rs + totT C.ts + totA S.al := by rw [M.rs, M.ts, M.al]; rfl
  have h4 := lines_count (flOf C S)
  have e1 : (flOf C S).rts.length = C.nR := by rw [← hC.nR]; exact List.length_map _
  have e2 : (flOf C S).tys.length = C.nT := hC.nT
  have e3 : (flOf C S).acs.length = S.n := by rw [← hS.nA]; exact List.length_map _
  omega
end Go.Proofs.YtbgbggodjhbgbaaDoor
