/- Lines that are none, and where the first lines of a text end. -/
import Derived.Test.YtbgbggodjhbgbaaDoorScriptLines
namespace Go.Proofs.YtbgbggodjhbgbaaDoor.Scr
set_option linter.unusedVariables false
set_option linter.unusedSimpArgs false

/-- The lines of law 27 that are none (or a second configuration). -/
def badL : List (List UInt8) := [[], [119, 104, 97, 116], [99, 111, 110, 102, 105, 103, 32, 49, 32, 50, 32, 51, 32, 52, 32, 53], [114, 111, 117, 116, 101, 32, 120, 32, 120], [114, 111, 117, 116, 101, 32, 120, 32, 120, 32, 45, 49], [116, 121, 112, 101], [116, 121, 112, 101, 32, 120, 103, 48], [116, 121, 112, 101, 32, 120, 49], [97, 99, 116, 32, 49, 32, 50, 32, 51], [97, 99, 116, 32, 49, 32, 50, 32, 51, 32, 120, 32, 120], [97, 99, 116, 32, 48, 49, 32, 50, 32, 51, 32, 120], [97, 99, 116, 32, 49, 32, 32, 50, 32, 51, 32, 120], [97, 99, 116, 32, 49, 32, 50, 32, 51, 32, 88], [32, 97, 99, 116, 32, 49, 32, 50, 32, 51, 32, 120]]
theorem bad_no10 : ∀ b ∈ badL, (10 : UInt8) ∉ b := by decide
theorem bad_len : ∀ b ∈ badL, b.length ≤ 30 := by decide
theorem kind_cfg {L : Ln} {ws : List (List UInt8)} (h : wCfg :: ws = L.words) : L.kind = 1 := by
  rcases head_words h with ⟨-, a, b, c, d, e, rfl, -⟩ | ⟨e, -⟩ | ⟨e, -⟩ | ⟨e, -⟩
  · rfl
  · exact absurd e.symm ne1
  · exact absurd e.symm ne2
  · exact absurd e.symm ne3
theorem bad_num {n : Nat} {s : List UInt8} (h : s = dec n) (hn : n ≤ maxI) : numOf s = some n := h ▸ numOf_dec hn
theorem bad_hex {s t : List UInt8} (h : s = hexL t) : bytesOf' s = some t := h ▸ bytesOf_hex t
theorem bad_kind : ∀ b ∈ badL, ∀ L, lineR b = some L → L.kind = 1 := by
  intro b hb L h
  obtain ⟨hw, hf⟩ := lineR_words h
  simp only [badL, List.mem_cons, List.not_mem_nil, or_false] at hb
  rcases hb with rfl | rfl | rfl | rfl | rfl | rfl | rfl | rfl | rfl | rfl | rfl | rfl | rfl | rfl
  · cases L <;> simp [wordsL, Ln.words, wCfg, wRt, wTy, wAc] at hw
  · cases L <;> simp [wordsL, Ln.words, wCfg, wRt, wTy, wAc] at hw
  · exact kind_cfg (ws := _) hw
  · cases L <;> simp [wordsL, Ln.words, wCfg, wRt, wTy, wAc] at hw
  · cases L <;> simp [wordsL, Ln.words, wCfg, wRt, wTy, wAc] at hw
    rename_i u
    have h1 : (45 : UInt8) ∈ dec u := by rw [← hw.2.2]; simp
    exact absurd (dec_lo _ 45 h1) (by decide)
  · cases L <;> simp [wordsL, Ln.words, wCfg, wRt, wTy, wAc] at hw
  · cases L <;> simp [wordsL, Ln.words, wCfg, wRt, wTy, wAc] at hw
    have h1 := bad_hex hw
    exact absurd h1 (by simp [bytesOf', unhexB, hexVal])
  · cases L <;> simp [wordsL, Ln.words, wCfg, wRt, wTy, wAc] at hw
    have h1 := bad_hex hw
    exact absurd h1 (by simp [bytesOf', unhexB, hexVal])
  · cases L <;> simp [wordsL, Ln.words, wCfg, wRt, wTy, wAc] at hw
  · cases L <;> simp [wordsL, Ln.words, wCfg, wRt, wTy, wAc] at hw
  · cases L <;> simp [wordsL, Ln.words, wCfg, wRt, wTy, wAc] at hw
    have h1 := bad_num hw.1 hf.1
    rw [show numOf [48, 49] = none by decide +kernel] at h1
    cases h1
  · cases L <;> simp [wordsL, Ln.words, wCfg, wRt, wTy, wAc] at hw
  · cases L <;> simp [wordsL, Ln.words, wCfg, wRt, wTy, wAc] at hw
    have h1 := bad_hex hw.2.2.2
    exact absurd h1 (by simp [bytesOf'])
  · cases L <;> simp [wordsL, Ln.words, wCfg, wRt, wTy, wAc] at hw

theorem kind_pos (L : Ln) : 1 ≤ L.kind := by cases L <;> simp [Ln.kind]
theorem lastK_pos : ∀ (Ls : List Ln) (last : Nat), Ls ≠ [] → 1 ≤ lastK last Ls
  | [], _, h => absurd rfl h
  | [L], _, _ => kind_pos L
  | K :: L :: r, _, _ => lastK_pos (L :: r) K.kind (by simp)
/-- Behind lines that are right a bad one is told, whatever follows. -/
theorem parse_wrong {Ls : List Ln} (hf : ∀ L ∈ Ls, L.fit) (ho : ordP 0 Ls) (hn : Ls ≠ []) {b : List UInt8} (hb : b ∈ badL) (t : List UInt8) :
    parseL 0 1 [] (linesT Ls ++ (b ++ 10 :: t)) = .bad (1 + Ls.length) := by
  rw [parse_behind Ls hf _ 0 1 [] ho]
  have hc := cutNl_app (bad_no10 b hb) t
  have hne : ¬ (b ++ 10 :: t = [] ∧ lastK 0 Ls ≠ 0) := by simp
  have hp := lastK_pos Ls 0 hn
  cases hl : lineR b with
  | none => exact parseL_none hne (by rw [hc]; exact hl)
  | some L =>
    have hk := bad_kind b hb L hl
    refine parseL_stop hne (L := L) (by rw [hc]; exact hl) ?_
    unfold stops
    omega

/-! ### Where the first lines end -/
/-- At byte k of the lines: c the end of the first j lines, at most m of them. -/
def CutI (Ls : List Ln) (m k c j : Nat) : Prop := j ≤ Ls.length ∧ j ≤ m ∧ c = (linesT (Ls.take j)).length ∧ (j = m ∨ ∃ r, k = c + r ∧ ((∃ h : j < Ls.length, r ≤ (Ls[j]).text.length) ∨ (j = Ls.length ∧ r = 0)))
theorem linesT_split (Ls : List Ln) (j : Nat) (h : j < Ls.length) : linesT Ls = linesT (Ls.take j) ++ ((Ls[j]).text ++ 10 :: linesT (Ls.drop (j + 1))) := by
  have e : Ls = Ls.take j ++ Ls[j] :: Ls.drop (j + 1) := by rw [← List.drop_eq_getElem_cons h, List.take_append_drop]
  have := congrArg linesT e
  rw [linesT_app, linesT] at this
  exact this
theorem linesT_take (Ls : List Ln) (j : Nat) (h : j < Ls.length) : (linesT (Ls.take (j + 1))).length = (linesT (Ls.take j)).length + (Ls[j]).text.length + 1 := by
  have e : Ls.take (j + 1) = Ls.take j ++ [Ls[j]] := by rw [List.take_succ_eq_append_getElem h]
  rw [e, linesT_app]
  simp [linesT]; omega
theorem cutI_0 (Ls : List Ln) (m : Nat) (hm : 1 ≤ m) (hn : Ls ≠ []) : CutI Ls m 0 0 0 := by
  have : 0 < Ls.length := List.length_pos_iff.mpr hn
  exact ⟨by omega, by omega, by simp [linesT], .inr ⟨0, rfl, .inl ⟨this, Nat.zero_le _⟩⟩⟩
theorem cutI_ten {Ls : List Ln} {m k c j : Nat} (h : CutI Ls m k c j) (hj : j < m) (hk : (linesT Ls)[k]? = some 10) : CutI Ls m (k + 1) (k + 1) (j + 1) := by
  obtain ⟨h1, h2, h3, h4 | ⟨r, h5, ⟨h6, h7⟩ | ⟨h6, h7⟩⟩⟩ := h
  · omega
  · have e := linesT_split Ls j h6
    rw [e, h5, h3, List.getElem?_append_right (by omega), Nat.add_sub_cancel_left] at hk
    have hr : r = (Ls[j]).text.length := by
      rcases Nat.lt_or_ge r (Ls[j]).text.length with hlt | hge
      · rw [List.getElem?_append_left hlt] at hk
        have hm2 := List.mem_of_getElem? hk
        exact absurd hm2 (text_no10 _)
      · omega
    have ht := linesT_take Ls j h6
    refine ⟨h6, hj, by omega, .inr ⟨0, rfl, ?_⟩⟩
    rcases Nat.lt_or_ge (j + 1) Ls.length with hlt | hge
    · exact .inl ⟨hlt, Nat.zero_le _⟩
    · exact .inr ⟨by omega, rfl⟩
  · rw [h5, h3, h6, h7, List.take_length] at hk
    rw [List.getElem?_eq_none (by omega)] at hk
    cases hk
theorem cutI_on {Ls : List Ln} {m k c j : Nat} (h : CutI Ls m k c j) (hj : ¬ j < m) : CutI Ls m (k + 1) c j := by
  obtain ⟨h1, h2, h3, -⟩ := h
  exact ⟨h1, h2, h3, .inl (by omega)⟩
theorem cutI_not {Ls : List Ln} {m k c j : Nat} {x : UInt8} (h : CutI Ls m k c j) (hk : (linesT Ls)[k]? = some x) (hx : x ≠ 10) : CutI Ls m (k + 1) c j := by
  obtain ⟨h1, h2, h3, h4 | ⟨r, h5, ⟨h6, h7⟩ | ⟨h6, h7⟩⟩⟩ := h
  · exact ⟨h1, h2, h3, .inl h4⟩
  · have e := linesT_split Ls j h6
    rw [e, h5, h3, List.getElem?_append_right (by omega), Nat.add_sub_cancel_left] at hk
    have hr : r ≠ (Ls[j]).text.length := by
      rintro rfl
      rw [List.getElem?_append_right (Nat.le_refl _), Nat.sub_self] at hk
      simp at hk
      exact hx hk.symm
    exact ⟨h1, h2, h3, .inr ⟨r + 1, by omega, .inl ⟨h6, by omega⟩⟩⟩
  · rw [h5, h3, h6, h7, List.take_length] at hk
    rw [List.getElem?_eq_none (by omega)] at hk
    cases hk
theorem cutI_pos {Ls : List Ln} {m c j : Nat} (hm : 1 ≤ m) (hn : Ls ≠ []) (h : CutI Ls m (linesT Ls).length c j) : 1 ≤ j := by
  have : 0 < Ls.length := List.length_pos_iff.mpr hn
  obtain ⟨h1, h2, h3, h4 | ⟨r, h5, ⟨h6, h7⟩ | ⟨h6, h7⟩⟩⟩ := h
  · omega
  · have := linesT_split Ls j h6
    have e := congrArg List.length this
    simp only [List.length_append, List.length_cons] at e
    omega
  · omega
theorem cutI_le {Ls : List Ln} {m k c j : Nat} (h : CutI Ls m k c j) : c ≤ (linesT Ls).length := by
  obtain ⟨h1, h2, h3, -⟩ := h
  have e : linesT Ls = linesT (Ls.take j) ++ linesT (Ls.drop j) := by rw [← linesT_app, List.take_append_drop]
  rw [e, List.length_append]; omega
theorem cutI_take {Ls : List Ln} {m k c j : Nat} (h : CutI Ls m k c j) : (linesT Ls).take c = linesT (Ls.take j) := by
  obtain ⟨h1, h2, h3, -⟩ := h
  have e : linesT Ls = linesT (Ls.take j) ++ linesT (Ls.drop j) := by rw [← linesT_app, List.take_append_drop]
  rw [e, h3, List.take_left']
  rfl
end Go.Proofs.YtbgbggodjhbgbaaDoor.Scr
