/- Chapter 27 in plain lists: lines, their order, and the reading of a whole text. No program in this text. -/
import Derived.Test.YtbplnglmjcmfiaaGreatDoorScriptSpec
namespace Go.Proofs.YtbplnglmjcmfiaaGreatDoor.Scr
open Go
set_option linter.unusedVariables false
set_option linter.unusedSimpArgs false

inductive Ln where
  | cfg (a b c d e : Nat)
  | rt (h p : List UInt8) (u : Nat)
  | ty (t : List UInt8)
  | ac (k c n : Nat) (d : List UInt8)
def wCfg : List UInt8 := [99, 111, 110, 102, 105, 103]
def wRt : List UInt8 := [114, 111, 117, 116, 101]
def wTy : List UInt8 := [116, 121, 112, 101]
def wAc : List UInt8 := [97, 99, 116]
def Ln.words : Ln → List (List UInt8)
  | .cfg a b c d e => [wCfg, dec a, dec b, dec c, dec d, dec e]
  | .rt h p u => [wRt, hexL h, hexL p, dec u]
  | .ty t => [wTy, hexL t]
  | .ac k c n d => [wAc, dec k, dec c, dec n, hexL d]
def Ln.text (L : Ln) : List UInt8 := joinW L.words
def Ln.kind : Ln → Nat
  | .cfg .. => 1
  | .rt .. => 2
  | .ty .. => 3
  | .ac .. => 4
def Ln.fit : Ln → Prop
  | .cfg a b c d e => a ≤ maxI ∧ b ≤ maxI ∧ c ≤ maxI ∧ d ≤ maxI ∧ e ≤ maxI
  | .rt _ _ u => u ≤ maxI
  | .ty _ => True
  | .ac k c n _ => k ≤ maxI ∧ c ≤ maxI ∧ n ≤ maxI
/-- What a line says. -/
def lineR (s : List UInt8) : Option Ln :=
  match wordsL s with
  | [w, t] => if w = wTy then (bytesOf' t).map .ty else none
  | [w, h, p, u] => if w = wRt then match bytesOf' h, bytesOf' p, numOf u with
    | some h, some p, some u => some (.rt h p u)
    | _, _, _ => none
    else none
  | [w, k, c, n, d] => if w = wAc then match numOf k, numOf c, numOf n, bytesOf' d with
    | some k, some c, some n, some d => some (.ac k c n d)
    | _, _, _, _ => none
    else none
  | [w, a, b, c, d, e] => if w = wCfg then match numOf a, numOf b, numOf c, numOf d, numOf e with
    | some a, some b, some c, some d, some e => some (.cfg a b c d e)
    | _, _, _, _, _ => none
    else none
  | _ => none
theorem lineR_of {s : List UInt8} {L : Ln} (hw : wordsL s = L.words) (hf : L.fit) : lineR s = some L := by
  unfold lineR
  rw [hw]
  cases L with
  | cfg a b c d e =>
    obtain ⟨h1, h2, h3, h4, h5⟩ := hf
    simp only [Ln.words, if_pos, numOf_dec h1, numOf_dec h2, numOf_dec h3, numOf_dec h4, numOf_dec h5]
  | rt h p u => simp only [Ln.words, if_pos, bytesOf_hex, numOf_dec hf]
  | ty t => simp only [Ln.words, if_pos, bytesOf_hex, Option.map_some]
  | ac k c n d =>
    obtain ⟨h1, h2, h3⟩ := hf
    simp only [Ln.words, if_pos, bytesOf_hex, numOf_dec h1, numOf_dec h2, numOf_dec h3]
theorem lineR_words {s : List UInt8} {L : Ln} (h : lineR s = some L) : wordsL s = L.words ∧ L.fit := by
  unfold lineR at h
  split at h
  · rename_i w t hw
    split at h
    · rename_i hc; subst hc
      rcases hb : bytesOf' t with _ | b
      · rw [hb] at h; cases h
      · rw [hb] at h; cases h
        rw [hw, bytesOf_some hb]; exact ⟨rfl, trivial⟩
    · cases h
  · rename_i w h' p u hw
    split at h
    · rename_i hc; subst hc
      split at h
      · rename_i x y z hx hy hz
        cases h
        have e := numOf_some hz
        rw [hw, bytesOf_some hx, bytesOf_some hy, e.1]; exact ⟨rfl, e.2⟩
      · cases h
    · cases h
  · rename_i w k c n d hw
    split at h
    · rename_i hc; subst hc
      split at h
      · rename_i x y z t hx hy hz ht
        cases h
        have e1 := numOf_some hx
        have e2 := numOf_some hy
        have e3 := numOf_some hz
        rw [hw, bytesOf_some ht, e1.1, e2.1, e3.1]; exact ⟨rfl, e1.2, e2.2, e3.2⟩
      · cases h
    · cases h
  · rename_i w a b c d e hw
    split at h
    · rename_i hc; subst hc
      split at h
      · rename_i x1 x2 x3 x4 x5 h1 h2 h3 h4 h5
        cases h
        have e1 := numOf_some h1
        have e2 := numOf_some h2
        have e3 := numOf_some h3
        have e4 := numOf_some h4
        have e5 := numOf_some h5
        rw [hw, e1.1, e2.1, e3.1, e4.1, e5.1]; exact ⟨rfl, e1.2, e2.2, e3.2, e4.2, e5.2⟩
      · cases h
    · cases h
  · cases h
theorem lineR_text {s : List UInt8} {L : Ln} (h : lineR s = some L) : s = L.text ∧ L.fit := by
  obtain ⟨h1, h2⟩ := lineR_words h
  exact ⟨by rw [← joinW_words s, h1]; rfl, h2⟩
theorem dec_lo (n : Nat) : ∀ c ∈ dec n, 48 ≤ c.toNat := fun c hc => (dec_digit n c hc).1
theorem words_lo (L : Ln) : ∀ w ∈ L.words, ∀ c ∈ w, 48 ≤ c.toNat := by
  have h1 : ∀ c ∈ wCfg, 48 ≤ c.toNat := by decide
  have h2 : ∀ c ∈ wRt, 48 ≤ c.toNat := by decide
  have h3 : ∀ c ∈ wTy, 48 ≤ c.toNat := by decide
  have h4 : ∀ c ∈ wAc, 48 ≤ c.toNat := by decide
  cases L <;> (simp only [Ln.words, List.mem_cons, List.not_mem_nil, or_false]; rintro w hw)
  · rcases hw with rfl | rfl | rfl | rfl | rfl | rfl <;> first | exact h1 | exact dec_lo _
  · rcases hw with rfl | rfl | rfl | rfl <;> first | exact h2 | exact hexL_lo _ | exact dec_lo _
  · rcases hw with rfl | rfl <;> first | exact h3 | exact hexL_lo _
  · rcases hw with rfl | rfl | rfl | rfl | rfl <;> first | exact h4 | exact hexL_lo _ | exact dec_lo _
theorem Ln.words_ne (L : Ln) : L.words ≠ [] := by cases L <;> simp [Ln.words]
theorem words_text (L : Ln) : wordsL L.text = L.words :=
  words_joinW _ L.words_ne fun w hw h => by have := words_lo L w hw 32 h; revert this; decide
theorem lineR_self {L : Ln} (hf : L.fit) : lineR L.text = some L := lineR_of (words_text L) hf
theorem joinW_mem {c : UInt8} : ∀ (ws : List (List UInt8)), c ∈ joinW ws → c = 32 ∨ ∃ w ∈ ws, c ∈ w
  | [], h => by simp [joinW] at h
  | [w], h => .inr ⟨w, by simp, h⟩
  | w :: v :: ws, h => by
    rw [joinW] at h
    rcases List.mem_append.1 h with h | h
    · exact .inr ⟨w, by simp, h⟩
    rcases List.mem_cons.1 h with h | h
    · exact .inl h
    · rcases joinW_mem _ h with h | ⟨x, hx, h⟩
      · exact .inl h
      · exact .inr ⟨x, by simp only [List.mem_cons] at hx ⊢; exact .inr hx, h⟩
theorem text_no10 (L : Ln) : (10 : UInt8) ∉ L.text := by
  intro h
  rcases joinW_mem _ h with h | ⟨w, hw, h⟩
  · revert h; decide
  · have := words_lo L w hw 10 h; revert this; decide

/-! ### What a reader reads -/
def rdNum : List (List UInt8) × Bool → Nat × (List (List UInt8) × Bool)
  | ([], _) => (0, [], true)
  | (s :: r, b) => match numOf s with
    | some n => (n, r, b)
    | none => (0, r, true)
def rdByt : List (List UInt8) × Bool → List UInt8 × (List (List UInt8) × Bool)
  | ([], _) => ([], [], true)
  | (s :: r, b) => match bytesOf' s with
    | some n => (n, r, b)
    | none => ([], r, true)
def Good (p : List (List UInt8) × Bool) : Prop := p.2 = false ∧ p.1 = []
theorem rdNum_ok {p : List (List UInt8) × Bool} (h : (rdNum p).2.2 = false) : p.2 = false ∧ ∃ s, p.1 = s :: (rdNum p).2.1 ∧ numOf s = some (rdNum p).1 := by
  obtain ⟨ws, b⟩ := p
  cases ws with
  | nil => simp [rdNum] at h
  | cons s r =>
    simp only [rdNum] at h ⊢
    rcases hn : numOf s with _ | n
    · rw [hn] at h; simp at h
    · rw [hn] at h; exact ⟨h, s, rfl, hn⟩
theorem rdByt_ok {p : List (List UInt8) × Bool} (h : (rdByt p).2.2 = false) : p.2 = false ∧ ∃ s, p.1 = s :: (rdByt p).2.1 ∧ bytesOf' s = some (rdByt p).1 := by
  obtain ⟨ws, b⟩ := p
  cases ws with
  | nil => simp [rdByt] at h
  | cons s r =>
    simp only [rdByt] at h ⊢
    rcases hn : bytesOf' s with _ | n
    · rw [hn] at h; simp at h
    · rw [hn] at h; exact ⟨h, s, rfl, hn⟩
theorem rdNum_of {s : List UInt8} {n : Nat} (h : numOf s = some n) (r : List (List UInt8)) (b : Bool) : rdNum (s :: r, b) = (n, r, b) := by simp [rdNum, h]
theorem rdByt_of {s : List UInt8} {n : List UInt8} (h : bytesOf' s = some n) (r : List (List UInt8)) (b : Bool) : rdByt (s :: r, b) = (n, r, b) := by simp [rdByt, h]
theorem head_words {L : Ln} {w : List UInt8} {ws : List (List UInt8)} (h : w :: ws = L.words) : (w = wCfg ∧ ∃ a b c d e, L = .cfg a b c d e ∧ ws = [dec a, dec b, dec c, dec d, dec e]) ∨ (w = wRt ∧ ∃ x y u, L = .rt x y u ∧ ws = [hexL x, hexL y, dec u]) ∨
    (w = wTy ∧ ∃ t, L = .ty t ∧ ws = [hexL t]) ∨ (w = wAc ∧ ∃ a b c d, L = .ac a b c d ∧ ws = [dec a, dec b, dec c, hexL d]) := by
  cases L <;> simp only [Ln.words, List.cons.injEq] at h
  · exact .inl ⟨h.1, _, _, _, _, _, rfl, h.2⟩
  · exact .inr (.inl ⟨h.1, _, _, _, rfl, h.2⟩)
  · exact .inr (.inr (.inl ⟨h.1, _, rfl, h.2⟩))
  · exact .inr (.inr (.inr ⟨h.1, _, _, _, _, rfl, h.2⟩))
theorem ne1 : wRt ≠ wCfg := by decide
theorem ne2 : wTy ≠ wCfg := by decide
theorem ne3 : wAc ≠ wCfg := by decide
theorem ne4 : wTy ≠ wRt := by decide
theorem ne5 : wAc ≠ wRt := by decide
theorem ne6 : wAc ≠ wTy := by decide
theorem cfg_line {s : List UInt8} {ws : List (List UInt8)} (hw : wordsL s = wCfg :: ws) (p1 p2 p3 p4 p5 : Nat × (List (List UInt8) × Bool))
    (h1 : p1 = rdNum (ws, false)) (h2 : p2 = rdNum p1.2) (h3 : p3 = rdNum p2.2) (h4 : p4 = rdNum p3.2) (h5 : p5 = rdNum p4.2) :
    (Good p5.2 ∧ lineR s = some (.cfg p1.1 p2.1 p3.1 p4.1 p5.1)) ∨ (¬ Good p5.2 ∧ lineR s = none) := by
  by_cases hg : Good p5.2
  · left
    refine ⟨hg, ?_⟩
    obtain ⟨b5, s5, e5, n5⟩ := rdNum_ok (p := p4.2) (by rw [← h5]; exact hg.1)
    obtain ⟨b4, s4, e4, n4⟩ := rdNum_ok (p := p3.2) (by rw [← h4]; exact b5)
    obtain ⟨b3, s3, e3, n3⟩ := rdNum_ok (p := p2.2) (by rw [← h3]; exact b4)
    obtain ⟨b2, s2, e2, n2⟩ := rdNum_ok (p := p1.2) (by rw [← h2]; exact b3)
    obtain ⟨b1, s1, e1, n1⟩ := rdNum_ok (p := (ws, false)) (by rw [← h1]; exact b2)
    rw [← h5] at e5 n5; rw [← h4] at e4 n4; rw [← h3] at e3 n3; rw [← h2] at e2 n2; rw [← h1] at e1 n1
    have : ws = [s1, s2, s3, s4, s5] := by rw [show ws = _ from e1, e2, e3, e4, e5, hg.2]
    unfold lineR
    rw [hw, this]
    simp only [if_pos, n1, n2, n3, n4, n5]
  · right
    refine ⟨hg, ?_⟩
    rcases hl : lineR s with _ | L
    · rfl
    · exfalso
      obtain ⟨hx, hf⟩ := lineR_words hl
      rw [hw] at hx
      rcases head_words hx with ⟨_, a, b, c, d, e, rfl, rfl⟩ | ⟨h, _⟩ | ⟨h, _⟩ | ⟨h, _⟩
      · obtain ⟨f1, f2, f3, f4, f5⟩ := hf
        rw [rdNum_of (numOf_dec f1)] at h1
        subst h1
        rw [rdNum_of (numOf_dec f2)] at h2
        subst h2
        rw [rdNum_of (numOf_dec f3)] at h3
        subst h3
        rw [rdNum_of (numOf_dec f4)] at h4
        subst h4
        rw [rdNum_of (numOf_dec f5)] at h5
        subst h5
        exact hg ⟨rfl, rfl⟩
      · exact ne1 h.symm
      · exact ne2 h.symm
      · exact ne3 h.symm
theorem rt_line {s : List UInt8} {ws : List (List UInt8)} (hw : wordsL s = wRt :: ws) (p1 p2 : List UInt8 × (List (List UInt8) × Bool)) (p3 : Nat × (List (List UInt8) × Bool))
    (h1 : p1 = rdByt (ws, false)) (h2 : p2 = rdByt p1.2) (h3 : p3 = rdNum p2.2) :
    (Good p3.2 ∧ lineR s = some (.rt p1.1 p2.1 p3.1)) ∨ (¬ Good p3.2 ∧ lineR s = none) := by
  by_cases hg : Good p3.2
  · left
    refine ⟨hg, ?_⟩
    obtain ⟨b3, s3, e3, n3⟩ := rdNum_ok (p := p2.2) (by rw [← h3]; exact hg.1)
    obtain ⟨b2, s2, e2, n2⟩ := rdByt_ok (p := p1.2) (by rw [← h2]; exact b3)
    obtain ⟨b1, s1, e1, n1⟩ := rdByt_ok (p := (ws, false)) (by rw [← h1]; exact b2)
    rw [← h3] at e3 n3; rw [← h2] at e2 n2; rw [← h1] at e1 n1
    have : ws = [s1, s2, s3] := by rw [show ws = _ from e1, e2, e3, hg.2]
    unfold lineR
    rw [hw, this]
    simp only [if_pos, n1, n2, n3]
  · right
    refine ⟨hg, ?_⟩
    rcases hl : lineR s with _ | L
    · rfl
    · exfalso
      obtain ⟨hx, hf⟩ := lineR_words hl
      rw [hw] at hx
      rcases head_words hx with ⟨h, _⟩ | ⟨_, x, y, u, rfl, rfl⟩ | ⟨h, _⟩ | ⟨h, _⟩
      · exact ne1 h
      · rw [rdByt_of (bytesOf_hex x)] at h1
        subst h1
        rw [rdByt_of (bytesOf_hex y)] at h2
        subst h2
        rw [rdNum_of (numOf_dec hf)] at h3
        subst h3
        exact hg ⟨rfl, rfl⟩
      · exact ne4 h.symm
      · exact ne5 h.symm
theorem ty_line {s : List UInt8} {ws : List (List UInt8)} (hw : wordsL s = wTy :: ws) (p1 : List UInt8 × (List (List UInt8) × Bool)) (h1 : p1 = rdByt (ws, false)) :
    (Good p1.2 ∧ lineR s = some (.ty p1.1)) ∨ (¬ Good p1.2 ∧ lineR s = none) := by
  by_cases hg : Good p1.2
  · left
    refine ⟨hg, ?_⟩
    obtain ⟨b1, s1, e1, n1⟩ := rdByt_ok (p := (ws, false)) (by rw [← h1]; exact hg.1)
    rw [← h1] at e1 n1
    have : ws = [s1] := by rw [show ws = _ from e1, hg.2]
    unfold lineR
    rw [hw, this]
    simp only [if_pos, n1, Option.map_some]
  · right
    refine ⟨hg, ?_⟩
    rcases hl : lineR s with _ | L
    · rfl
    · exfalso
      obtain ⟨hx, hf⟩ := lineR_words hl
      rw [hw] at hx
      rcases head_words hx with ⟨h, _⟩ | ⟨h, _⟩ | ⟨_, t, rfl, rfl⟩ | ⟨h, _⟩
      · exact ne2 h
      · exact ne4 h
      · rw [rdByt_of (bytesOf_hex t)] at h1
        subst h1
        exact hg ⟨rfl, rfl⟩
      · exact ne6 h.symm
theorem ac_line {s : List UInt8} {ws : List (List UInt8)} (hw : wordsL s = wAc :: ws) (p1 p2 p3 : Nat × (List (List UInt8) × Bool)) (p4 : List UInt8 × (List (List UInt8) × Bool))
    (h1 : p1 = rdNum (ws, false)) (h2 : p2 = rdNum p1.2) (h3 : p3 = rdNum p2.2) (h4 : p4 = rdByt p3.2) :
    (Good p4.2 ∧ lineR s = some (.ac p1.1 p2.1 p3.1 p4.1)) ∨ (¬ Good p4.2 ∧ lineR s = none) := by
  by_cases hg : Good p4.2
  · left
    refine ⟨hg, ?_⟩
    obtain ⟨b4, s4, e4, n4⟩ := rdByt_ok (p := p3.2) (by rw [← h4]; exact hg.1)
    obtain ⟨b3, s3, e3, n3⟩ := rdNum_ok (p := p2.2) (by rw [← h3]; exact b4)
    obtain ⟨b2, s2, e2, n2⟩ := rdNum_ok (p := p1.2) (by rw [← h2]; exact b3)
    obtain ⟨b1, s1, e1, n1⟩ := rdNum_ok (p := (ws, false)) (by rw [← h1]; exact b2)
    rw [← h4] at e4 n4; rw [← h3] at e3 n3; rw [← h2] at e2 n2; rw [← h1] at e1 n1
    have : ws = [s1, s2, s3, s4] := by rw [show ws = _ from e1, e2, e3, e4, hg.2]
    unfold lineR
    rw [hw, this]
    simp only [if_pos, n1, n2, n3, n4]
  · right
    refine ⟨hg, ?_⟩
    rcases hl : lineR s with _ | L
    · rfl
    · exfalso
      obtain ⟨hx, hf⟩ := lineR_words hl
      rw [hw] at hx
      rcases head_words hx with ⟨h, _⟩ | ⟨h, _⟩ | ⟨h, _⟩ | ⟨_, a, b, c, d, rfl, rfl⟩
      · exact ne3 h
      · exact ne5 h
      · exact ne6 h
      · obtain ⟨f1, f2, f3⟩ := hf
        rw [rdNum_of (numOf_dec f1)] at h1
        subst h1
        rw [rdNum_of (numOf_dec f2)] at h2
        subst h2
        rw [rdNum_of (numOf_dec f3)] at h3
        subst h3
        rw [rdByt_of (bytesOf_hex d)] at h4
        subst h4
        exact hg ⟨rfl, rfl⟩
theorem no_line {s : List UInt8} {w : List UInt8} {ws : List (List UInt8)} (hw : wordsL s = w :: ws) (n1 : w ≠ wCfg) (n2 : w ≠ wRt) (n3 : w ≠ wTy) (n4 : w ≠ wAc) : lineR s = none := by
  rcases hl : lineR s with _ | L
  · rfl
  · exfalso
    obtain ⟨hx, hf⟩ := lineR_words hl
    rw [hw] at hx
    rcases head_words hx with ⟨h, _⟩ | ⟨h, _⟩ | ⟨h, _⟩ | ⟨h, _⟩
    · exact n1 h
    · exact n2 h
    · exact n3 h
    · exact n4 h

/-! ### A whole text -/
def cutNl : List UInt8 → List UInt8 × List UInt8 × Bool
  | [] => ([], [], false)
  | c :: r => if c = 10 then ([], r, true) else (c :: (cutNl r).1, (cutNl r).2)
theorem cutNl_len : ∀ (t : List UInt8), (cutNl t).2.2 = true → (cutNl t).2.1.length < t.length
  | [], h => by cases h
  | c :: r, h => by
    unfold cutNl at h ⊢
    split
    · simp
    · rename_i hc
      rw [if_neg hc] at h
      have := cutNl_len r h
      simp only [List.length_cons]; omega
theorem cutNl_app {a : List UInt8} (h : (10 : UInt8) ∉ a) (r : List UInt8) : cutNl (a ++ 10 :: r) = (a, r, true) := by
  induction a with
  | nil => simp [cutNl]
  | cons c a ih =>
    have h1 : ¬ c = 10 := fun e => h (by simp [e])
    rw [List.cons_append, cutNl, if_neg h1, ih (fun e => h (by simp [e]))]
theorem cutNl_eq : ∀ (t : List UInt8), (cutNl t).2.2 = true → t = (cutNl t).1 ++ 10 :: (cutNl t).2.1
  | [], h => by cases h
  | c :: r, h => by
    unfold cutNl at h ⊢
    split
    · rename_i hc; rw [hc]; rfl
    · rename_i hc
      rw [if_neg hc] at h
      have := cutNl_eq r h
      simp only [List.cons_append]; rw [← this]
inductive PR where
  | good (Ls : List Ln)
  | bad (n : Nat)
def stops (last : Nat) (L : Ln) : Prop := L.kind < last ∨ (last = 0 ∧ L.kind ≠ 1) ∨ (L.kind = 1 ∧ last = 1)
instance (last : Nat) (L : Ln) : Decidable (stops last L) := by unfold stops; exact inferInstance
def parseL (last n : Nat) (acc : List Ln) (text : List UInt8) : PR :=
  if text = [] ∧ last ≠ 0 then .good acc
  else if h : (cutNl text).2.2 = true then
    match lineR (cutNl text).1 with
    | none => .bad n
    | some L => if stops last L then .bad n else parseL L.kind (n + 1) (acc ++ [L]) (cutNl text).2.1
  else .bad n
termination_by text.length
decreasing_by exact cutNl_len text h
theorem parseL_end {last n : Nat} {acc : List Ln} (h : last ≠ 0) : parseL last n acc [] = .good acc := by rw [parseL, if_pos ⟨rfl, h⟩]
theorem parseL_open {last n : Nat} {acc : List Ln} {t : List UInt8} (h : ¬ (t = [] ∧ last ≠ 0)) (hc : (cutNl t).2.2 = false) : parseL last n acc t = .bad n := by
  rw [parseL, if_neg h, dif_neg (by rw [hc]; decide)]
theorem parseL_none {last n : Nat} {acc : List Ln} {t : List UInt8} (h : ¬ (t = [] ∧ last ≠ 0)) (hl : lineR (cutNl t).1 = none) : parseL last n acc t = .bad n := by
  rw [parseL, if_neg h]
  split
  · rw [hl]
  · rfl
theorem parseL_stop {last n : Nat} {acc : List Ln} {t : List UInt8} {L : Ln} (h : ¬ (t = [] ∧ last ≠ 0)) (hl : lineR (cutNl t).1 = some L) (hs : stops last L) : parseL last n acc t = .bad n := by
  rw [parseL, if_neg h]
  split
  · rw [hl]; simp only; rw [if_pos hs]
  · rfl
theorem parseL_go {last n : Nat} {acc : List Ln} {t : List UInt8} {L : Ln} (hc : (cutNl t).2.2 = true) (hl : lineR (cutNl t).1 = some L) (hs : ¬ stops last L) : parseL last n acc t = parseL L.kind (n + 1) (acc ++ [L]) (cutNl t).2.1 := by
  have h : ¬ (t = [] ∧ last ≠ 0) := by
    rintro ⟨rfl, _⟩
    cases hc
  rw [parseL, if_neg h, dif_pos hc, hl]
  simp only
  rw [if_neg hs]
/-- Lines in their order, behind a line of kind 'last'. -/
def ordFrom (last : Nat) : List Ln → Prop
  | [] => last ≠ 0
  | L :: r => ¬ stops last L ∧ ordFrom L.kind r
def linesT : List Ln → List UInt8
  | [] => []
  | L :: r => L.text ++ 10 :: linesT r
theorem linesT_app (a b : List Ln) : linesT (a ++ b) = linesT a ++ linesT b := by
  induction a with
  | nil => rfl
  | cons L a ih => simp [linesT, ih]
theorem parse_right (Ls : List Ln) (hf : ∀ L ∈ Ls, L.fit) : ∀ (last n : Nat) (acc : List Ln), ordFrom last Ls → parseL last n acc (linesT Ls) = .good (acc ++ Ls) := by
  induction Ls with
  | nil => intro last n acc h; rw [linesT, parseL_end h]; simp
  | cons L r ih =>
    intro last n acc h
    have e := cutNl_app (text_no10 L) (linesT r)
    rw [linesT, parseL_go (L := L) (by rw [e]) (by rw [e]; exact lineR_self (hf L (by simp))) h.1, e, ih (fun x hx => hf x (by simp [hx])) _ _ _ h.2]
    simp
theorem parse_read (k : Nat) : ∀ (text : List UInt8), text.length ≤ k → ∀ (last n : Nat) (acc R : List Ln), parseL last n acc text = .good R → ∃ Ls, R = acc ++ Ls ∧ ordFrom last Ls ∧ text = linesT Ls ∧ ∀ L ∈ Ls, L.fit := by
  induction k with
  | zero =>
    intro text ht last n acc R h
    obtain rfl := List.length_eq_zero_iff.1 (Nat.le_zero.1 ht)
    by_cases h0 : last = 0
    · rw [parseL_open (by simp [h0]) rfl] at h; cases h
    · rw [parseL_end h0] at h; cases h
      exact ⟨[], by simp, h0, rfl, by simp⟩
  | succ k ih =>
    intro text ht last n acc R h
    by_cases hst : text = [] ∧ last ≠ 0
    · obtain ⟨rfl, h0⟩ := hst
      rw [parseL_end h0] at h; cases h
      exact ⟨[], by simp, h0, rfl, by simp⟩
    by_cases hc : (cutNl text).2.2 = true
    · rcases hl : lineR (cutNl text).1 with _ | L
      · rw [parseL_none hst hl] at h; cases h
      · by_cases hs : stops last L
        · rw [parseL_stop hst hl hs] at h; cases h
        · rw [parseL_go hc hl hs] at h
          obtain ⟨Ls, e1, e2, e3, e4⟩ := ih _ (by have := cutNl_len text hc; omega) _ _ _ _ h
          obtain ⟨g1, g2⟩ := lineR_text hl
          refine ⟨L :: Ls, by rw [e1]; simp, ⟨hs, e2⟩, ?_, ?_⟩
          · rw [linesT, ← g1, ← e3]; exact cutNl_eq text hc
          · intro x hx
            rcases List.mem_cons.1 hx with rfl | hx
            · exact g2
            · exact e4 x hx
    · rw [parseL_open hst (by simpa using hc)] at h; cases h
/-- How many lines end ahead of another one. -/
def cntL : List UInt8 → Nat
  | [] => 0
  | c :: r => (if c = 10 ∧ r ≠ [] then 1 else 0) + cntL r
theorem cntL_cut : ∀ (t : List UInt8), (cutNl t).2.2 = true → (cutNl t).2.1 ≠ [] → 1 + cntL (cutNl t).2.1 ≤ cntL t
  | [], h, _ => by cases h
  | c :: r, h, h2 => by
    unfold cutNl at h h2 ⊢
    split
    · rename_i hc
      rw [if_pos hc] at h2
      simp only at h2
      rw [cntL, if_pos ⟨hc, h2⟩]; exact Nat.le_refl _
    · rename_i hc
      rw [if_neg hc] at h h2
      have := cntL_cut r h h2
      rw [cntL]; simp only at this ⊢; omega
theorem parse_bad (k : Nat) : ∀ (text : List UInt8), text.length ≤ k → ∀ (last n m : Nat) (acc : List Ln), parseL last n acc text = .bad m → n ≤ m ∧ m ≤ n + cntL text := by
  induction k with
  | zero =>
    intro text ht last n m acc h
    obtain rfl := List.length_eq_zero_iff.1 (Nat.le_zero.1 ht)
    by_cases h0 : last = 0
    · rw [parseL_open (by simp [h0]) rfl] at h; cases h; omega
    · rw [parseL_end h0] at h; cases h
  | succ k ih =>
    intro text ht last n m acc h
    by_cases hst : text = [] ∧ last ≠ 0
    · obtain ⟨rfl, h0⟩ := hst
      rw [parseL_end h0] at h; cases h
    by_cases hc : (cutNl text).2.2 = true
    · rcases hl : lineR (cutNl text).1 with _ | L
      · rw [parseL_none hst hl] at h; cases h; omega
      · by_cases hs : stops last L
        · rw [parseL_stop hst hl hs] at h; cases h; omega
        · rw [parseL_go hc hl hs] at h
          have hk : L.kind ≠ 0 := by cases L <;> simp [Ln.kind]
          by_cases hr : (cutNl text).2.1 = []
          · rw [hr, parseL_end hk] at h; cases h
          · have h1 := ih _ (by have := cutNl_len text hc; omega) _ _ _ _ h
            have h2 := cntL_cut text hc hr
            omega
    · rw [parseL_open hst (by simpa using hc)] at h; cases h; omega
/-- The last kind behind some lines. -/
def lastK (last : Nat) : List Ln → Nat
  | [] => last
  | L :: r => lastK L.kind r
def ordP (last : Nat) : List Ln → Prop
  | [] => True
  | L :: r => ¬ stops last L ∧ ordP L.kind r
theorem ordP_of {Ls : List Ln} {last : Nat} (h : ordFrom last Ls) : ordP last Ls := by
  induction Ls generalizing last with
  | nil => trivial
  | cons L r ih => exact ⟨h.1, ih h.2⟩
theorem ordP_take {Ls : List Ln} {last : Nat} (h : ordP last Ls) (k : Nat) : ordP last (Ls.take k) := by
  induction Ls generalizing last k with
  | nil => simpa using h
  | cons L r ih =>
    cases k with
    | zero => trivial
    | succ k => exact ⟨h.1, ih h.2 k⟩
theorem parse_behind (Ls : List Ln) (hf : ∀ L ∈ Ls, L.fit) (t : List UInt8) : ∀ (last n : Nat) (acc : List Ln), ordP last Ls → parseL last n acc (linesT Ls ++ t) = parseL (lastK last Ls) (n + Ls.length) (acc ++ Ls) t := by
  induction Ls with
  | nil => intro last n acc h; simp [linesT, lastK]
  | cons L r ih =>
    intro last n acc h
    have e := cutNl_app (text_no10 L) (linesT r ++ t)
    rw [linesT, List.append_assoc, List.cons_append, parseL_go (L := L) (by rw [e]) (by rw [e]; exact lineR_self (hf L (by simp))) h.1, e]
    simp only
    rw [ih (fun x hx => hf x (by simp [hx])) _ _ _ h.2]
    simp only [lastK, List.length_cons, List.append_assoc, List.singleton_append]
    congr 1; omega

/-! ### What lines make -/
structure Fl where
  a : Nat
  b : Nat
  c : Nat
  d : Nat
  e : Nat
  rts : List (List UInt8 × List UInt8 × Nat)
  tys : List (List UInt8)
  acs : List (Nat × Nat × Nat × List UInt8)
def Fl.zero : Fl := ⟨0, 0, 0, 0, 0, [], [], []⟩
def Fl.put (f : Fl) : Ln → Fl
  | .cfg a b c d e => { f with a := a, b := b, c := c, d := d, e := e }
  | .rt h p u => { f with rts := f.rts ++ [(h, p, u)] }
  | .ty t => { f with tys := f.tys ++ [t] }
  | .ac k c n d => { f with acs := f.acs ++ [(k, c, n, d)] }
def fileOf (Ls : List Ln) : Fl := Ls.foldl Fl.put Fl.zero
def Fl.lines (f : Fl) : List Ln := .cfg f.a f.b f.c f.d f.e :: (f.rts.map (fun r => .rt r.1 r.2.1 r.2.2) ++ (f.tys.map .ty ++ f.acs.map fun a => .ac a.1 a.2.1 a.2.2.1 a.2.2.2))
theorem fileOf_snoc (Ls : List Ln) (L : Ln) : fileOf (Ls ++ [L]) = (fileOf Ls).put L := by simp [fileOf]
theorem put_rts (l : List (List UInt8 × List UInt8 × Nat)) (f : Fl) : (l.map (fun r => Ln.rt r.1 r.2.1 r.2.2)).foldl Fl.put f = { f with rts := f.rts ++ l } := by
  induction l generalizing f with
  | nil => simp
  | cons x l ih => rw [List.map_cons, List.foldl_cons, ih]; simp [Fl.put]
theorem put_tys (l : List (List UInt8)) (f : Fl) : (l.map Ln.ty).foldl Fl.put f = { f with tys := f.tys ++ l } := by
  induction l generalizing f with
  | nil => simp
  | cons x l ih => rw [List.map_cons, List.foldl_cons, ih]; simp [Fl.put]
theorem put_acs (l : List (Nat × Nat × Nat × List UInt8)) (f : Fl) : (l.map (fun a => Ln.ac a.1 a.2.1 a.2.2.1 a.2.2.2)).foldl Fl.put f = { f with acs := f.acs ++ l } := by
  induction l generalizing f with
  | nil => simp
  | cons x l ih => rw [List.map_cons, List.foldl_cons, ih]; simp [Fl.put]
theorem fileOf_lines (f : Fl) : fileOf f.lines = f := by
  unfold fileOf Fl.lines
  rw [List.foldl_cons, List.foldl_append, List.foldl_append, put_rts, put_tys, put_acs]
  simp [Fl.put, Fl.zero]
theorem ord_acs (l : List (Nat × Nat × Nat × List UInt8)) (last : Nat) (h : 1 ≤ last) (h4 : last ≤ 4) : ordFrom last (l.map fun a => .ac a.1 a.2.1 a.2.2.1 a.2.2.2) := by
  induction l generalizing last with
  | nil => show last ≠ 0; omega
  | cons x l ih => exact ⟨by simp [stops, Ln.kind]; omega, ih _ (by simp [Ln.kind]) (by simp [Ln.kind])⟩
theorem ord_tys (l : List (List UInt8)) (r : List Ln) (last : Nat) (h : 1 ≤ last) (h4 : last ≤ 3) (hr : ∀ k, 1 ≤ k → k ≤ 3 → ordFrom k r) : ordFrom last (l.map .ty ++ r) := by
  induction l generalizing last with
  | nil => exact hr last h h4
  | cons x l ih => exact ⟨by simp [stops, Ln.kind]; omega, ih _ (by simp [Ln.kind]) (by simp [Ln.kind])⟩
theorem ord_rts (l : List (List UInt8 × List UInt8 × Nat)) (r : List Ln) (last : Nat) (h : 1 ≤ last) (h4 : last ≤ 2) (hr : ∀ k, 1 ≤ k → k ≤ 2 → ordFrom k r) : ordFrom last (l.map (fun r => .rt r.1 r.2.1 r.2.2) ++ r) := by
  induction l generalizing last with
  | nil => exact hr last h h4
  | cons x l ih => exact ⟨by simp [stops, Ln.kind]; omega, ih _ (by simp [Ln.kind]) (by simp [Ln.kind])⟩
theorem ord_lines (f : Fl) : ordFrom 0 f.lines :=
  ⟨by simp [stops, Ln.kind], ord_rts _ _ _ (by simp [Ln.kind]) (by simp [Ln.kind]) fun k h1 h2 => ord_tys _ _ _ h1 (by omega) fun k h1 h2 => ord_acs _ _ h1 (by omega)⟩
theorem of_ord4 (Ls : List Ln) (h : ordFrom 4 Ls) : ∃ as : List (Nat × Nat × Nat × List UInt8), Ls = as.map fun a => .ac a.1 a.2.1 a.2.2.1 a.2.2.2 := by
  induction Ls with
  | nil => exact ⟨[], rfl⟩
  | cons L r ih =>
    obtain ⟨h1, h2⟩ := h
    cases L <;> simp [stops, Ln.kind] at h1
    obtain ⟨as, rfl⟩ := ih h2
    exact ⟨(_, _, _, _) :: as, rfl⟩
theorem of_ord3 (Ls : List Ln) (h : ordFrom 3 Ls) : ∃ (ts : List (List UInt8)) (as : List (Nat × Nat × Nat × List UInt8)), Ls = ts.map .ty ++ as.map fun a => .ac a.1 a.2.1 a.2.2.1 a.2.2.2 := by
  induction Ls with
  | nil => exact ⟨[], [], rfl⟩
  | cons L r ih =>
    obtain ⟨h1, h2⟩ := h
    cases L <;> simp [stops, Ln.kind] at h1
    · obtain ⟨ts, as, rfl⟩ := ih h2
      exact ⟨_ :: ts, as, rfl⟩
    · obtain ⟨as, rfl⟩ := of_ord4 r h2
      exact ⟨[], (_, _, _, _) :: as, rfl⟩
theorem of_ord2 (last : Nat) (h0 : 1 ≤ last) (h9 : last ≤ 2) (Ls : List Ln) (h : ordFrom last Ls) : ∃ (rs : List (List UInt8 × List UInt8 × Nat)) (ts : List (List UInt8)) (as : List (Nat × Nat × Nat × List UInt8)), Ls = rs.map (fun r => .rt r.1 r.2.1 r.2.2) ++ (ts.map .ty ++ as.map fun a => .ac a.1 a.2.1 a.2.2.1 a.2.2.2) := by
  induction Ls generalizing last with
  | nil => exact ⟨[], [], [], rfl⟩
  | cons L r ih =>
    obtain ⟨h1, h2⟩ := h
    cases L with
    | cfg a b c d e => simp [stops, Ln.kind] at h1; omega
    | rt a b c =>
      obtain ⟨rs, ts, as, rfl⟩ := ih 2 (by omega) (by omega) h2
      exact ⟨(_, _, _) :: rs, ts, as, rfl⟩
    | ty t =>
      obtain ⟨ts, as, rfl⟩ := of_ord3 r h2
      exact ⟨[], _ :: ts, as, rfl⟩
    | ac a b c d =>
      obtain ⟨as, rfl⟩ := of_ord4 r h2
      exact ⟨[], [], (_, _, _, _) :: as, rfl⟩
theorem lines_fileOf {Ls : List Ln} (h : ordFrom 0 Ls) : (fileOf Ls).lines = Ls := by
  cases Ls with
  | nil => exact absurd rfl h
  | cons L r =>
    obtain ⟨h1, h2⟩ := h
    cases L with
    | cfg a b c d e =>
      obtain ⟨rs, ts, as, rfl⟩ := of_ord2 1 (by omega) (by omega) r h2
      exact congrArg Fl.lines (fileOf_lines ⟨a, b, c, d, e, rs, ts, as⟩)
    | rt a b c => simp [stops, Ln.kind] at h1
    | ty t => simp [stops, Ln.kind] at h1
    | ac a b c d => simp [stops, Ln.kind] at h1
end Go.Proofs.YtbplnglmjcmfiaaGreatDoor.Scr
