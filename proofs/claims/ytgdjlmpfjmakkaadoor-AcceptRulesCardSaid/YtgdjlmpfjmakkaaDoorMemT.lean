/- The law's own weight; members with weights as texts. -/
import Derived.Test.YtgdjlmpfjmakkaaDoorAcceptWeights
import Derived.Test.YtgdjlmpfjmakkaaDoorJoinSpec
namespace Go.Proofs.YtgdjlmpfjmakkaaDoor
open Go.RowKit
open FrameLengthsP (udig_ok udig_len)
open AcceptWeightsP (digits_k)

/-- Thousandths as a text. -/
def wtxt (q : Nat) : List UInt8 := if q = 1000 then [49, 46, 48, 48, 48] else 48 :: 46 :: (udig (1000 + q)).drop 1
theorem wtxt_weight (q : Nat) (h : q ≤ 1000) : weightL (wtxt q) = (q, true) := by
  unfold wtxt
  by_cases h1 : q = 1000
  · rw [if_pos h1, h1]; decide
  · rw [if_neg h1]; exact (digits_k q (by omega)).2
def plainB (c : UInt8) : Bool := !(c == 34) && !(c == 44) && !blankB c
theorem dig_plain (c : UInt8) (h : digB c = true) : plainB c = true := by
  have h1 : ∀ n, n < 256 → digB (UInt8.ofNat n) = true → plainB (UInt8.ofNat n) = true := by decide +kernel
  have := h1 c.toNat c.toNat_lt
  rw [UInt8.ofNat_toNat] at this
  exact this h
theorem wtxt_plain (q : Nat) (h : q ≤ 1000) : (wtxt q).all plainB = true ∧ (wtxt q).length = 5 := by
  unfold wtxt
  by_cases h1 : q = 1000
  · rw [if_pos h1]; decide
  · rw [if_neg h1]
    have hl := (digits_k q (by omega)).1
    have ha := (udig_ok (1000 + q)).2.1
    refine ⟨?_, by simp [hl]⟩
    rw [List.all_cons, List.all_cons, List.all_eq_true.2 (fun c hc => dig_plain c (List.all_eq_true.1 ha c (List.mem_of_mem_drop hc)))]
    decide
theorem plain_not {c : UInt8} (h : plainB c = true) : c ≠ 34 ∧ c ≠ 44 ∧ blankB c = false := by
  unfold plainB at h
  simp at h
  exact ⟨h.1.1, h.1.2, by simpa using h.2⟩
theorem cut_plain : ∀ (p r : List UInt8), (∀ c ∈ p, c ≠ 34 ∧ c ≠ 44) → cutL false (p ++ r) = p.length + cutL false r
  | [], r, _ => by simp
  | c :: p, r, h => by
    obtain ⟨h1, h2⟩ := h c (by simp)
    rw [List.cons_append, cutL_other false c _ (by simp) h1 (by simp [h2]), cut_plain p r (fun x hx => h x (by simp [hx])), List.length_cons]; omega
theorem memb_plain {x : List UInt8} (hne : x ≠ []) (h : ∀ c ∈ x, c ≠ 34 ∧ c ≠ 44) (hf : blankB (x.head hne) = false) (hl : blankB (x.getLast hne) = false) : Memb x :=
  ⟨hne, fun r => cut_plain x r h, .inr ⟨x.head hne, List.head?_eq_some_head hne, hf⟩, .inr ⟨x.getLast hne, List.getLast?_eq_some_getLast hne, hl⟩⟩
theorem cutHead_app (b : UInt8) : ∀ (h t : List UInt8), (∀ c ∈ h, c ≠ b) → cutHead b (h ++ b :: t) = h
  | [], t, _ => by rw [List.nil_append, cutHead_cons, if_pos (by simp)]
  | c :: h, t, hh => by rw [List.cons_append, cutHead_cons, if_neg (by simpa using hh c (by simp)), cutHead_app b h t (fun x hx => hh x (by simp [hx]))]
theorem cut_app (b : UInt8) (h t : List UInt8) (hh : ∀ c ∈ h, c ≠ b) : cutHead b (h ++ b :: t) = h ∧ cutTail b (h ++ b :: t) = t ∧ cutHas b (h ++ b :: t) = true := by
  have e := cutHead_app b h t hh
  refine ⟨e, ?_, ?_⟩
  · unfold cutTail; rw [e, List.drop_append, List.drop_eq_nil_of_le (by omega)]; simp
  · unfold cutHas; rw [e]; simp
/-- A member of a list with its weight. -/
theorem memberL_of (h t nm qq : List UInt8) (q : Nat) (hh : ∀ c ∈ h, c ≠ 59) (hn : lowL (trimL h) = nm) (hg : goodNameL nm = true) (ht : trimL t = qq ++ wtxt q) (hq2 : qq.length = 2) (hqq : sameL qq qeqL = true) (hq : q ≤ 1000) :
    memberL (h ++ 59 :: t) = ((if nm = xgzipL then gzipL else nm, q), true) := by
  obtain ⟨e1, e2, e3⟩ := cut_app 59 h t hh
  unfold memberL mnameL
  rw [e1, e2, e3, hn, if_pos hg, if_pos rfl, ht]
  have htk : (qq ++ wtxt q).take 2 = qq := by rw [← hq2, List.take_left]
  have hdr : (qq ++ wtxt q).drop 2 = wtxt q := by rw [← hq2, List.drop_left]
  rw [htk, hdr, wtxt_weight q hq, if_pos ⟨by rw [List.length_append]; omega, hqq, rfl⟩]
end Go.Proofs.YtgdjlmpfjmakkaaDoor
