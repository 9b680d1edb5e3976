/- The reference's Split. -/
import Derived.Test.YtgdjlmpfjmakkaaDoorSplit
namespace Go.Proofs.YtgdjlmpfjmakkaaDoor
open Go.RowKit

theorem cut_at' {s : ByteArray} {k C : Nat} {q : Bool} {b : UInt8} (hk : k < s.size) (hb : s[k] = b) (h : C = k + cutL q (s.data.toList.drop k)) :
    (q = true ∧ b = 92 → (k + 1 = s.size → C = k + 1) ∧ (k + 2 ≤ s.size → C = (k + 2) + cutL q (s.data.toList.drop (k + 2)))) ∧
    (b = 34 → C = (k + 1) + cutL (!q) (s.data.toList.drop (k + 1))) ∧
    (q = false ∧ b = 44 → C = k) ∧
    (¬ (q = true ∧ b = 92) → b ≠ 34 → ¬ (q = false ∧ b = 44) → C = (k + 1) + cutL q (s.data.toList.drop (k + 1))) := by
  have hd := drop_cons s k hk
  rw [hb] at hd
  rw [hd] at h
  refine ⟨?_, ?_, ?_, ?_⟩
  · rintro ⟨rfl, rfl⟩
    rw [cutL_esc _ _ rfl] at h
    constructor
    · intro he
      rw [drop_all s (k + 1) (by omega)] at h
      simp at h; omega
    · intro he
      rw [drop_cons s (k + 1) (by omega)] at h
      simp only [show k + 1 + 1 = k + 2 from rfl] at h
      omega
  · intro he
    rw [cutL_quote q b _ he] at h; omega
  · rintro ⟨rfl, he⟩
    rw [cutL_comma b _ he] at h; omega
  · intro h1 h2 h3
    rw [cutL_other q b _ h1 h2 h3] at h; omega

/-- What holds at the head of a round. -/
def SpRel (s : ByteArray) (k f : Nat) (q : Bool) (outs : List (List UInt8)) : Prop :=
  (k ≤ s.size ∧ f ≤ k ∧ splitL s.data.toList = outs ++ splitL (s.data.toList.drop f) ∧ cutL false (s.data.toList.drop f) + f = k + cutL q (s.data.toList.drop k)) ∨ (k = s.size + 1 ∧ splitL s.data.toList = outs)
theorem SpRel.length {s : ByteArray} {k f : Nat} {q : Bool} {outs : List (List UInt8)} (h : SpRel s k f q outs) : outs.length ≤ s.size + 1 := by
  have := split_length s.data.toList
  rw [← size_of] at this
  rcases h with ⟨_, _, h, _⟩ | ⟨_, h⟩
  · rw [h, List.length_append] at this; omega
  · rw [h] at this; omega
/-- The end of a member. -/
theorem SpRel.piece {s : ByteArray} {k f : Nat} {q : Bool} {outs : List (List UInt8)} (hk : k ≤ s.size) (hf : f ≤ k) (h1 : splitL s.data.toList = outs ++ splitL (s.data.toList.drop f)) (h2 : cutL false (s.data.toList.drop f) + f = k) :
    SpRel s (k + 1) (k + 1) q (outs ++ pieceL ((s.data.toList.drop f).take (k - f))) ∨ (q = true ∧ k < s.size) := by
  have hc : cutL false (s.data.toList.drop f) = k - f := by omega
  have hl : (s.data.toList.drop f).length = s.size - f := by rw [List.length_drop, ← size_of]
  have hp := splitL_piece _ _ _ h1
  rw [hc, hl] at hp
  by_cases hlt : k < s.size
  · cases q
    · left
      have := hp.1 (by omega)
      refine .inl ⟨by omega, Nat.le_refl _, ?_, by omega⟩
      rw [this, List.drop_drop]
      congr 3; omega
    · exact .inr ⟨rfl, hlt⟩
  · left
    exact .inr ⟨by omega, hp.2 (by omega)⟩

set_option maxRecDepth 100000 in
set_option maxHeartbeats 6400000 in
theorem refsplit_any (s : ByteArray) (w : World) (hs : s.size ≤ 1048576) :
    Calls Tryd.prog 79 #[.string s] w fun e w' => ∃ A c, e = .returned (.slice A (splitL s.data.toList).length c) ∧
      w'.ownsRow w.heap.size 9 1 (.slice A (splitL s.data.toList).length c) (splitL s.data.toList).length (scells (splitL s.data.toList)) ∧ (splitL s.data.toList).length ≤ c ∧ Below w.heap.size w w' := by
  obtain ⟨i0, hi0, hz0, hz1, hz2⟩ := info_parts infoStr
  go_enter Tryd.func79, Tryd.ntmps79
  go_wp2_with fail
  go_loopg [3, 4, 5, 6] (s.size + 1) (fun g o fr v i wr => ∃ (k f : Nat) (q : Bool) (outs : List (List UInt8)), g + k = s.size + 1 ∧ i = .int .i64 k ∧ fr = .int .i64 f ∧ v = .bool q ∧
    wr.ownsRow w.heap.size 9 1 o outs.length (scells outs) ∧ Below w.heap.size w wr ∧ SpRel s k f q outs)
  case atStart => exact ⟨0, 0, false, [], by omega, rfl, rfl, rfl, World.ownsRow_nil _ _ _ _, Below.refl _ _, .inl ⟨Nat.zero_le _, Nat.le_refl _, rfl, by simp⟩⟩
  case round =>
    obtain ⟨k, f, q, outs, hk, rfl, rfl, rfl, ho, hb, hsp⟩ := hrel
    have hlen := hsp.length
    have hbz := hb.size
    have HK := hide hk
    by_cases hend : k = s.size + 1
    · have hfin : splitL s.data.toList = outs := by
        rcases hsp with ⟨h, _⟩ | ⟨_, h⟩
        · omega
        · exact h
      have HF := hide hfin
      have hlt : ¬ ((k : Int) ≤ (s.size : Int)) := by omega
      clear hk hfin hsp hend
      go_wp2
      go_ret
      rw [HF.out]
      obtain ⟨A, c, rfl, hc, -⟩ := own_shape ho
      exact ⟨A, c, rfl, ho, hc, hb⟩
    · have hsp' : k ≤ s.size ∧ f ≤ k ∧ splitL s.data.toList = outs ++ splitL (s.data.toList.drop f) ∧ cutL false (s.data.toList.drop f) + f = k + cutL q (s.data.toList.drop k) := by
        rcases hsp with h | ⟨h, _⟩
        · exact h
        · exact absurd h hend
      obtain ⟨hks, hfk, h1, h2⟩ := hsp'
      have hle : (k : Int) ≤ (s.size : Int) := by omega
      have hfk' : (f : Int) ≤ (k : Int) := by omega
      have hext : (s.extract f k).data.toList = (s.data.toList.drop f).take (k - f) := by rw [extract_list, List.take_drop]; congr 2; omega
      have hexs : (s.extract f k).size ≤ 140737488355328 := by rw [size_of, hext, List.length_take, List.length_drop, ← size_of]; omega
      have htr := reftrim_any (s.extract f k)
      rw [hext] at htr
      have hpc : ∀ q', cutL false (s.data.toList.drop f) + f = k → (q' = false ∨ k = s.size) → SpRel s (k + 1) (k + 1) q' (outs ++ pieceL ((s.data.toList.drop f).take (k - f))) := fun q' hc hq => by
        rcases SpRel.piece (q := q') hks hfk h1 hc with h | ⟨h, h'⟩
        · exact h
        · rcases hq with hq | hq
          · rw [hq] at h; cases h
          · omega
      obtain ⟨tr, htrr⟩ : ∃ tr, tr = trimL ((s.data.toList.drop f).take (k - f)) := ⟨_, rfl⟩
      have hpl : pieceL ((s.data.toList.drop f).take (k - f)) = if tr = [] then [] else [tr] := by rw [pieceL, htrr]
      rw [← htrr] at htr
      rw [hpl] at hpc
      have HPC := hide hpc
      have H1 := hide h1
      clear hpc hpl htrr hext h1 hsp hk
      by_cases hks' : k = s.size
      · have hc : cutL false (s.data.toList.drop f) + f = k := by rw [h2, hks', drop_all s s.size (Nat.le_refl _)]; simp [cutL]
        have hpp := HPC.out q hc (.inr hks')
        have PP := hide hpp
        have he1 : ((k : Int) == (s.size : Int)) = true := by simp; omega
        clear hpp hc hks' h2 hend
        rcases htre : tr with _ | ⟨x, tr'⟩
        · subst htre
          have hem := isEmpty_mk ([] : List UInt8)
          go_wp2_with (go_at_call 76; refine (htr _ hexs).mono ?_; rintro e w' ⟨rfl, rfl⟩)
          go_roundg (s.size + 1 - (k + 1))
          case measure => have := HK.out; omega
          case rel => have := HK.out; exact ⟨k + 1, k + 1, q, outs, by omega, by go_num, by go_num, rfl, ho, hb, by simpa using PP.out⟩
        · subst htre
          have hem := isEmpty_mk (x :: tr')
          go_wp2_with (first | (go_at_call 76; refine (htr _ hexs).mono ?_; rintro e w' ⟨rfl, rfl⟩) | (at_builtin; refine wpl_push rfl _ _ _ rfl w.heap.size i0 _ 1 16 Tryd.underlying32 hi0 hz0 hz1 hz2 rfl (by omega) _ _ _ rfl _ rfl ho rfl (by simp [Value.oneCell']) (by simp [maxLen]; omega) (by omega) hbz ?_; intro v1 w1 hown1 hbel1 _))
          go_roundg (s.size + 1 - (k + 1))
          case measure => have := HK.out; omega
          case rel => have := HK.out; exact ⟨k + 1, k + 1, q, outs ++ [x :: tr'], by omega, by go_num, by go_num, rfl, by rw [List.length_append]; exact own_snoc_str hown1 (by simp), hb.trans hbel1, by simpa using PP.out⟩
      · have hlt : k < s.size := by omega
        have he1 : ((k : Int) == (s.size : Int)) = false := by simp; omega
        obtain ⟨b, hb'⟩ : ∃ b, s[k] = b := ⟨_, rfl⟩
        obtain ⟨c1, c2, c3, c4⟩ := cut_at' hlt hb' h2
        have C1 := hide c1
        have C2 := hide c2
        have C3 := hide c3
        have C4 := hide c4
        have e92 := byte_eq_num b 92 (by decide)
        have e34 := byte_eq_num b 34 (by decide)
        have e44 := byte_eq_num b 44 (by decide)
        have n92 : ∀ h : ¬ b = 92, ((b.toNat : Int) == 92) = false := fun h => by rw [Bool.eq_false_iff]; exact fun e => h (e92.1 e)
        have n34 : ∀ h : ¬ b = 34, ((b.toNat : Int) == 34) = false := fun h => by rw [Bool.eq_false_iff]; exact fun e => h (e34.1 e)
        have n44 : ∀ h : ¬ b = 44, ((b.toNat : Int) == 44) = false := fun h => by rw [Bool.eq_false_iff]; exact fun e => h (e44.1 e)
        clear c1 c2 c3 c4 h2 hend hks'
        rcases q with _ | _
        · by_cases h44 : b = 44
          · have x1 := e44.2 h44
            have hpp := HPC.out false (C3.out ⟨rfl, h44⟩) (.inl rfl)
            have PP := hide hpp
            clear hpp e92 e34 e44 n92 n34 n44 h44
            rcases htre : tr with _ | ⟨x, tr'⟩
            · subst htre
              have hem := isEmpty_mk ([] : List UInt8)
              go_wp2_with (go_at_call 76; refine (htr _ hexs).mono ?_; rintro e w' ⟨rfl, rfl⟩)
              go_roundg (s.size + 1 - (k + 1))
              case measure => have := HK.out; omega
              case rel => have := HK.out; exact ⟨k + 1, k + 1, false, outs, by omega, by go_num, by go_num, rfl, ho, hb, by simpa using PP.out⟩
            · subst htre
              have hem := isEmpty_mk (x :: tr')
              go_wp2_with (first | (go_at_call 76; refine (htr _ hexs).mono ?_; rintro e w' ⟨rfl, rfl⟩) | (at_builtin; refine wpl_push rfl _ _ _ rfl w.heap.size i0 _ 1 16 Tryd.underlying32 hi0 hz0 hz1 hz2 rfl (by omega) _ _ _ rfl _ rfl ho rfl (by simp [Value.oneCell']) (by simp [maxLen]; omega) (by omega) hbz ?_; intro v1 w1 hown1 hbel1 _))
              go_roundg (s.size + 1 - (k + 1))
              case measure => have := HK.out; omega
              case rel => have := HK.out; exact ⟨k + 1, k + 1, false, outs ++ [x :: tr'], by omega, by go_num, by go_num, rfl, by rw [List.length_append]; exact own_snoc_str hown1 (by simp), hb.trans hbel1, by simpa using PP.out⟩
          · have x1 := n44 h44
            by_cases h34 : b = 34
            · have x2 := e34.2 h34
              have x3 := n92 (by rw [h34]; decide)
              have hn := C2.out h34
              have HN := hide hn
              clear hn e92 e34 e44 n92 n34 n44 h34 h44
              go_wp2
              go_roundg (s.size + 1 - (k + 1))
              case measure => have := HK.out; omega
              case rel => have := HK.out; exact ⟨k + 1, f, true, outs, by omega, by go_num, rfl, rfl, ho, hb, .inl ⟨by omega, by omega, H1.out, HN.out⟩⟩
            · have x2 := n34 h34
              have hn := C4.out (by simp) h34 (by simp [h44])
              have HN := hide hn
              clear hn e92 e34 e44 n92 n34 n44 h34 h44
              go_wp2
              go_roundg (s.size + 1 - (k + 1))
              case measure => have := HK.out; omega
              case rel => have := HK.out; exact ⟨k + 1, f, false, outs, by omega, by go_num, rfl, rfl, ho, hb, .inl ⟨by omega, by omega, H1.out, HN.out⟩⟩
        · by_cases h92 : b = 92
          · have x1 := e92.2 h92
            have x2 := n34 (by rw [h92]; decide)
            obtain ⟨hn1, hn2⟩ := C1.out ⟨rfl, h92⟩
            have HN1 := hide hn1
            have HN2 := hide hn2
            clear hn1 hn2 e92 e34 e44 n92 n34 n44 h92
            by_cases hl1 : k + 1 = s.size
            · have x3 : ((k : Int) + 1 == (s.size : Int)) = true := by simp; omega
              have hn := HN1.out hl1
              have HN := hide hn
              clear hn
              have HL1 := hide hl1
              clear hl1
              go_wp2
              go_roundg (s.size + 1 - (k + 1))
              case measure => have := HK.out; omega
              case rel => have := HK.out; have hl1 := HL1.out; exact ⟨k + 1, f, true, outs, by omega, by go_num, rfl, rfl, ho, hb, .inl ⟨by omega, by omega, H1.out, by rw [HN.out, drop_all s (k + 1) (by omega)]; simp [cutL]⟩⟩
            · have x3 : ((k : Int) + 1 == (s.size : Int)) = false := by simp; omega
              have hn := HN2.out (by omega)
              have HN := hide hn
              clear hn
              go_wp2
              go_roundg (s.size + 1 - (k + 2))
              case measure => have := HK.out; omega
              case rel => have := HK.out; exact ⟨k + 2, f, true, outs, by omega, by go_num, rfl, rfl, ho, hb, .inl ⟨by omega, by omega, H1.out, HN.out⟩⟩
          · have x1 := n92 h92
            by_cases h34 : b = 34
            · have x2 := e34.2 h34
              have hn := C2.out h34
              have HN := hide hn
              clear hn e92 e34 e44 n92 n34 n44 h34 h92
              go_wp2
              go_roundg (s.size + 1 - (k + 1))
              case measure => have := HK.out; omega
              case rel => have := HK.out; exact ⟨k + 1, f, false, outs, by omega, by go_num, rfl, rfl, ho, hb, .inl ⟨by omega, by omega, H1.out, HN.out⟩⟩
            · have x2 := n34 h34
              have hn := C4.out (by simp [h92]) h34 (by simp)
              have HN := hide hn
              clear hn e92 e34 e44 n92 n34 n44 h34 h92
              go_wp2
              go_roundg (s.size + 1 - (k + 1))
              case measure => have := HK.out; omega
              case rel => have := HK.out; exact ⟨k + 1, f, true, outs, by omega, by go_num, rfl, rfl, ho, hb, .inl ⟨by omega, by omega, H1.out, HN.out⟩⟩
end Go.Proofs.YtgdjlmpfjmakkaaDoor
