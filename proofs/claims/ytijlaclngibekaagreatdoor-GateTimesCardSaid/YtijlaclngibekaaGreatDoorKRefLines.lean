/- The reference's lines of a head. -/
import Derived.Test.YtijlaclngibekaaGreatDoorKTrimG
import Derived.Test.YtijlaclngibekaaGreatDoorKBase
import Derived.Deep.DeepCutAuto
namespace Go.Proofs.YtijlaclngibekaaGreatDoor
open Go.RowKit
set_option linter.unusedVariables false
set_option linter.unusedSimpArgs false

theorem occ_is (s : List UInt8) (i : Nat) : Lib.occAt s crlfL i = Rl.cr.isPrefixOf (s.drop i) := rfl
theorem occ_end (t : List UInt8) : Lib.occAt (t ++ [13, 10, 13, 10]) crlfL t.length = true ∧ Lib.occAt (t ++ [13, 10, 13, 10]) crlfL (t.length + 2) = true := by
  constructor
  · rw [occ_is, List.drop_left]; rfl
  · rw [occ_is, show t ++ [13, 10, 13, 10] = (t ++ [13, 10]) ++ [13, 10] by simp, show t.length + 2 = (t ++ [13, 10] : List UInt8).length by simp, List.drop_left]; rfl
set_option maxRecDepth 100000 in
set_option maxHeartbeats 3200000 in
theorem reflines_any (s : ByteArray) (L : List (List UInt8)) (w : World) (hs : s.size ≤ 100000) (hL : L ≠ []) (hn : Rl.No13 L) (hd : s.data.toList = Rl.joinC L ++ [13, 10, 13, 10]) :
    Calls Tryz.prog 36 #[.string s] w fun e w' => ∃ A c, e = .returned (.tuple #[.slice A L.length c, .bool true]) ∧
      w'.ownsRow w.heap.size 9 1 (.slice A L.length c) L.length (scells L) ∧ Below w.heap.size w w' := by
  obtain ⟨i0, hi0, hz0, hz1, hz2⟩ := info_parts infoStr
  obtain ⟨g, hg⟩ : ∃ g, w.heap.size = g := ⟨_, rfl⟩
  obtain ⟨t, ht⟩ : ∃ t : ByteArray, t = ⟨(Rl.joinC L).toArray⟩ := ⟨_, rfl⟩
  have htd : t.data.toList = Rl.joinC L := by rw [ht]
  have htl : (Rl.joinC L).length = t.size := by rw [← htd, Array.length_toList]; rfl
  have hss : s.size = t.size + 4 := by
    have e : s.size = s.data.toList.length := by rw [Array.length_toList]; rfl
    rw [e, hd, List.length_append, htl]; rfl
  obtain ⟨z, hz⟩ : ∃ z, t.size = z := ⟨_, rfl⟩
  have q1 := crlf_any s z w (by omega)
  have q2 := crlf_any s (z + 2) w (by omega)
  have o1 := (occ_end (Rl.joinC L)).1
  have o2 := (occ_end (Rl.joinC L)).2
  rw [htl, hz] at o1 o2
  rw [hd, o1] at q1
  rw [hd, o2, show ((z + 2 : Nat) : Int) = (z : Int) + 2 by omega] at q2
  have hx : s.extract 0 (z) = t := by
    apply bytes_ext
    rw [extract_list, hd, htd, List.drop_zero, ← hz, ← htl, List.take_left']
    rfl
  have HQ : Hid (∀ (i : Nat) (W : World), i ≤ z → Calls Tryz.prog 35 #[.string t, .int .i64 i] W fun e w' => e = .returned (.bool (Rl.cr.isPrefixOf ((Rl.joinC L).drop i))) ∧ W = w') := hide fun i W hi => by
    have := crlf_any t i W (by omega)
    rw [htd, occ_is] at this
    exact this
  rw [hz] at hss
  have hs2 : (z : Int) + 4 - 2 = (z : Int) + 2 := by omega
  have hs3 : ¬ (z : Int) + 4 < 4 := by omega
  have HL := hide hL
  have HNO := hide hn
  have HTL := hide (And.intro htl htd)
  have HZ := hide hz
  clear o1 o2 hd hL hn ht htd htl
  go_enter Tryz.func36, Tryz.ntmps36
  go_wp2_with fail
  refine q1.mono ?_
  rintro e w1 ⟨rfl, rfl⟩
  clear q1
  go_wp2_with fail
  refine q2.mono ?_
  rintro e w1 ⟨rfl, rfl⟩
  clear q2
  go_wp2_with fail
  go_loopw [6, 5, 4] (fun iv fv o wr => ∃ (i fr : Nat) (outs : List (List UInt8)), i ≤ z + 1 ∧ fr ≤ i ∧ iv = .int .i64 i ∧ fv = .int .i64 fr ∧ outs.length ≤ i ∧ wr.ownsRow g 9 1 o outs.length (scells outs) ∧ Below g w wr ∧
    Hid ((∃ j, Rl.LinI L i j ∧ fr = Rl.off L j ∧ outs = L.take j ∧ i ≤ z) ∨ (i = z + 1 ∧ outs = L))) (fun iv _ _ _ => z + 2 - (intOf iv).toNat)
  case atStart => exact ⟨0, 0, [], Nat.zero_le _, Nat.le_refl _, rfl, rfl, Nat.zero_le _, World.ownsRow_nil _ _ _ _, Below.refl _ _, hide (.inl ⟨0, Rl.linI_0 HL.out, rfl, rfl, Nat.zero_le _⟩)⟩
  case round =>
    obtain ⟨i, fr, outs, hi, hfi, rfl, rfl, hol, ho, hb, hI⟩ := hrel
    have hbz : g ≤ wr.heap.size := hg ▸ hb.size
    obtain ⟨n, hnn⟩ : ∃ n, outs.length = n := ⟨_, rfl⟩
    rw [hnn] at ho hol
    obtain ⟨A, c, rfl, hc, -⟩ := own_shape ho
    have HN := hide hnn
    clear hnn
    rcases hI.out with ⟨j, hl, hfr, hou, hiz⟩ | ⟨hie, hou⟩
    · have hle : (i : Int) ≤ (z : Int) := by omega
      have hjl : j < L.length := hl.choose_spec.choose
      have hnj : n = j := by rw [← HN.out, hou, List.length_take]; omega
      subst hnj
      rcases Rl.linI_case HNO.out hl with ⟨h2, hij, hpre, hnext, hilt⟩ | ⟨hpre, hnext, hilt⟩ | ⟨h2, hil, hij⟩
      · have hlt : i < z := by rw [← HZ.out, ← HTL.out.1]; exact hilt
        have he : ¬ (i : Int) = (z : Int) := by omega
        have q := HQ.out i wr hiz
        rw [hpre] at q
        have hf1 : (fr : Int) ≤ (i : Int) := by omega
        obtain ⟨p, hp⟩ : ∃ p : ByteArray, t.extract fr i = p := ⟨_, rfl⟩
        have hpd : p.data.toList = L[n] := by
          rw [← hp, extract_list, HTL.out.2, List.drop_take, hfr, show i - Rl.off L n = (L[n]).length by omega]
          exact Rl.cut_line hjl
        have hps : p.size ≤ 100000 := by rw [← hp, ByteArray.size_extract]; omega
        have hle2 : i + 2 ≤ z := by
          rw [← HZ.out, ← HTL.out.1]
          rcases Rl.linI_case HNO.out hnext with ⟨-, -, -, -, h⟩ | ⟨-, -, h⟩ | ⟨-, h, -⟩ <;> omega
        have told : Hid ((∃ j, Rl.LinI L (i + 2) j ∧ i + 2 = Rl.off L j ∧ outs ++ [L[n]] = L.take j ∧ i + 2 ≤ z) ∨ (i + 2 = z + 1 ∧ outs ++ [L[n]] = L)) := hide (.inl ⟨n + 1, hnext, by rw [Rl.off_succ L n hjl]; omega, by rw [hou]; exact (List.take_succ_eq_append_getElem hjl).symm, hle2⟩)
        have how1 : Hid (∀ (W : World) (v : Value), W.ownsRow g 9 1 v (n + 1) (scells outs ++ [Value.string p]) → W.ownsRow g 9 1 v (outs ++ [L[n]]).length (scells (outs ++ [L[n]]))) := hide fun W v h => by
          rw [List.length_append, HN.out]; exact own_snoc_str (HN.out.symm ▸ h) hpd
        have hlen : (outs ++ [L[n]]).length = n + 1 := by rw [List.length_append, HN.out]; rfl
        have HLE := hide hlen
        clear hpre hnext hilt hij hpd hou hfr hI hl hlen
        go_wp2_with fail
        refine q.mono ?_
        rintro e w3 ⟨rfl, rfl⟩
        clear q
        go_wp2_with (at_builtin; refine wpl_push rfl _ _ _ rfl g i0 _ 1 16 Tryz.underlying23 hi0 hz0 hz1 hz2 rfl (by omega) _ _ _ rfl _ rfl ho rfl (by simp [Value.oneCell']) (by unfold maxLen; omega) (by omega) hbz ?_; intro v1 w1 hown1 hbel1 _)
        go_roundw
        case rel => exact ⟨i + 2, i + 2, outs ++ [L[n]], by omega, Nat.le_refl _, by go_num, by go_num, by rw [HLE.out]; omega, how1.out _ _ hown1, hb.trans hbel1, told⟩
        case measure => simp [intOf]; omega
      · have hlt : i < z := by rw [← HZ.out, ← HTL.out.1]; exact hilt
        have he : ¬ (i : Int) = (z : Int) := by omega
        have q := HQ.out i wr hiz
        rw [hpre] at q
        have told : Hid ((∃ j, Rl.LinI L (i + 1) j ∧ fr = Rl.off L j ∧ outs = L.take j ∧ i + 1 ≤ z) ∨ (i + 1 = z + 1 ∧ outs = L)) := hide (.inl ⟨n, hnext, hfr, hou, hlt⟩)
        clear hpre hnext hilt hou hfr hI hl
        go_wp2_with fail
        refine q.mono ?_
        rintro e w3 ⟨rfl, rfl⟩
        clear q
        go_wp2_with fail
        go_roundw
        case rel => exact ⟨i + 1, fr, outs, by omega, by omega, by go_num, rfl, by rw [HN.out]; omega, by rw [HN.out]; exact ho, hb, told⟩
        case measure => simp [intOf]; omega
      · have hez : i = z := by rw [hil, HTL.out.1, HZ.out]
        subst hez
        have hf1 : (fr : Int) ≤ (i : Int) := by omega
        obtain ⟨p, hp⟩ : ∃ p : ByteArray, t.extract fr i = p := ⟨_, rfl⟩
        have hpd : p.data.toList = L[n] := by
          rw [← hp, extract_list, HTL.out.2, List.drop_take, hfr, show i - Rl.off L n = (L[n]).length by omega]
          exact Rl.cut_line hjl
        have hps : p.size ≤ 100000 := by rw [← hp, ByteArray.size_extract]; omega
        have told : Hid ((∃ j, Rl.LinI L (i + 1) j ∧ fr = Rl.off L j ∧ outs ++ [L[n]] = L.take j ∧ i + 1 ≤ i) ∨ (i + 1 = i + 1 ∧ outs ++ [L[n]] = L)) := hide (.inr ⟨rfl, by
          rw [hou, ← List.take_succ_eq_append_getElem hjl]
          exact List.take_of_length_le (by omega)⟩)
        have how1 : Hid (∀ (W : World) (v : Value), W.ownsRow g 9 1 v (n + 1) (scells outs ++ [Value.string p]) → W.ownsRow g 9 1 v (outs ++ [L[n]]).length (scells (outs ++ [L[n]]))) := hide fun W v h => by
          rw [List.length_append, HN.out]; exact own_snoc_str (HN.out.symm ▸ h) hpd
        have hlen : (outs ++ [L[n]]).length = n + 1 := by rw [List.length_append, HN.out]; rfl
        have HLE := hide hlen
        clear hil hij hpd hou hfr hI hl hlen
        go_wp2_with (at_builtin; refine wpl_push rfl _ _ _ rfl g i0 _ 1 16 Tryz.underlying23 hi0 hz0 hz1 hz2 rfl (by omega) _ _ _ rfl _ rfl ho rfl (by simp [Value.oneCell']) (by unfold maxLen; omega) (by omega) hbz ?_; intro v1 w1 hown1 hbel1 _)
        go_roundw
        case rel => exact ⟨i + 1, fr, outs ++ [L[n]], by omega, by omega, by go_num, rfl, by rw [HLE.out]; omega, how1.out _ _ hown1, hb.trans hbel1, told⟩
        case measure => simp [intOf]
    · have hle : ¬ (i : Int) ≤ (z : Int) := by omega
      subst hou
      clear hie
      go_wp2_with fail
      go_ret2
      exact ⟨A, c, by rw [HN.out]; rfl, by rw [HN.out]; exact ho, hb⟩
end Go.Proofs.YtijlaclngibekaaGreatDoor
