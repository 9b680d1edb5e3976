/- concertinalaw27.ScriptTexts: the walk. -/
import Derived.Test.YtbgbggodjhbgbaaDoorScrMatch
import Derived.Test.YtbgbggodjhbgbaaDoorScrRefP
import Derived.Test.YtbgbggodjhbgbaaDoorScrSame
import Derived.Test.YtbgbggodjhbgbaaDoorScrGlo
import Derived.Test.YtbgbggodjhbgbaaDoorLaid7
namespace Go.Proofs.YtbgbggodjhbgbaaDoor.ScriptTextsP
open Go.RowKit
set_option linter.unusedVariables false
set_option linter.unusedSimpArgs false

set_option maxRecDepth 100000 in
set_option maxHeartbeats 3200000 in
theorem walk (text : ByteArray) (w : World) (hs : text.size ≤ maxLen) (hG : ∀ W, Below w.heap.size w W → Glo W) :
    Calls Tryd.prog 4 #[.string text] w fun e w' => e = .returned (.bool true) ∧ Below w.heap.size w w' := by
  obtain ⟨g, hg⟩ : ∃ g, w.heap.size = g := ⟨_, rfl⟩
  have A1 := scrans_any w hG
  have HG := hide hG
  clear hG
  by_cases hbig : ¬ text.size ≤ 10000
  · have hi : (10000 : Int) < (text.size : Int) := by omega
    have A2 := fun W (b : Below w.heap.size w W) => scrans_any W (fun W' b' => HG.out W' (b.trans (b'.mono b.size)))
    go_enter Tryd.func4, Tryd.ntmps4
    go_wp2_with fail
    refine A1.mono ?_
    rintro e' w1 ⟨rfl, b1⟩
    go_wp2_with fail
    refine (A2 w1 b1).mono ?_
    rintro e' w2 ⟨rfl, b2⟩
    go_wp2_with fail
    go_ret
    exact ⟨rfl, b1.trans (b2.mono b1.size)⟩
  replace hbig : text.size ≤ 10000 := by omega
  have hi : ¬ (10000 : Int) < (text.size : Int) := by omega
  have A2 := fun W (b : Below w.heap.size w W) => scrparse_any text W (by omega) (fun W' b' => HG.out W' (b.trans (b'.mono b.size)))
  go_enter Tryd.func4, Tryd.ntmps4
  go_wp2_with fail
  refine A1.mono ?_
  rintro e' w1 ⟨rfl, b1⟩
  go_wp2_with fail
  refine (A2 w1 b1).mono ?_
  rintro e' w2 ⟨b2, hp⟩
  clear A1 A2
  have b12 := b1.trans (b2.mono b1.size)
  obtain ⟨g2, hg2⟩ : ∃ g2, w2.heap.size = g2 := ⟨_, rfl⟩
  have hgg : g ≤ g2 := by rw [← hg, ← hg2]; exact b12.size
  rw [hg] at b12
  have HB12 := hide b12
  clear b1 b2 b12
  rcases hp with ⟨Ls, vR, vT, vA, ps, f, hp, hl, hgf, rfl, hR⟩ | ⟨m, hp, rfl⟩
  · obtain ⟨C, S, hC, hS, hCv, hSv, M, n1, n2, n3⟩ := match_of_rows hR
    rw [← hCv, ← hSv]
    obtain ⟨Ls', hLs, hord, htx, hfit⟩ := Scr.parse_read text.data.toList.length text.data.toList (Nat.le_refl _) 0 1 [] Ls hp
    obtain rfl : Ls = Ls' := by simpa using hLs
    have hlin := Scr.lines_fileOf hord
    have hts : text.data.toList.length ≤ 10000 := by rw [Array.length_toList]; exact hbig
    have hcnt := lines_count (Scr.fileOf Ls)
    rw [hlin] at hcnt
    have hsml := M.small (k := 10000) (by rw [hlin, ← htx]; exact hts)
    have PR := fun W (b : Below w2.heap.size w2 W) => scrrefp_any C S (Scr.fileOf Ls) W w2.heap.size (hC.below b) (hS.below b) b.size ⟨by omega, by omega, by omega⟩ (by omega) M (by rw [hlin]; exact hfit) (by rw [hlin, ← htx]; omega)
    rw [hlin, ← htx] at PR
    have HPR := hide PR
    obtain ⟨AR, nR, cR, AT, nT, cT, a, b, c, d, e, rs, ts⟩ := C
    clear PR hsml hcnt hts hlin hLs hp hl hgf hR hCv hSv M n1 n2 n3 hord hfit htx
    have t0 := Box.new w2 #[.slice AR nR cR, .slice AT nT cT, .int .i64 a, .int .i64 b, .int .i64 c, .int .i64 d, .int .i64 e] 25
    have t1 : Below g2 w2 (w2.alloc (.cells #[.slice AR nR cR, .slice AT nT cT, .int .i64 a, .int .i64 b, .int .i64 c, .int .i64 d, .int .i64 e] 25)) := (Below.refl _ _).alloc (Nat.le_of_eq hg2.symm) _
    rw [hg2] at t0
    rw [hg2] at HPR
    simp only [CfgA.val] at HPR ⊢
    have htt : (⟨text.data.toList.toArray⟩ : ByteArray) = text := by simp
    rw [htt] at HPR
    have hbq := mk_beq text
    clear htt hbig hs
    go_upto_region 4 with (fail)
    generalize w2.alloc _ = w3 at t0 t1 ⊢
    obtain ⟨k0, -⟩ := t0.2 0 _ rfl
    obtain ⟨k1, -⟩ := t0.2 1 _ rfl
    obtain ⟨k2, -⟩ := t0.2 2 _ rfl
    obtain ⟨k3, -⟩ := t0.2 3 _ rfl
    obtain ⟨k4, -⟩ := t0.2 4 _ rfl
    obtain ⟨k5, -⟩ := t0.2 5 _ rfl
    obtain ⟨k6, -⟩ := t0.2 6 _ rfl
    go_wp2_with fail
    refine (HPR.out w3 t1).mono ?_
    rintro e' w4 ⟨rfl, b4⟩
    go_wp2_with fail
    go_ret
    rw [hg]
    exact ⟨rfl, HB12.out.trans ((t1.trans (b4.mono (by have := t1.size; omega))).mono hgg)⟩
  · have hts : text.data.toList.length ≤ 10000 := by rw [Array.length_toList]; exact hbig
    obtain ⟨l, hl⟩ : ∃ l, l = text.data.toList := ⟨_, rfl⟩
    rw [← hl] at hp hts
    have hn : l.length = text.size := by rw [hl, Array.length_toList]; rfl
    obtain ⟨m1, m2⟩ := Scr.parse_bad l.length l (Nat.le_refl _) 0 1 m [] hp
    have HL := hide hl
    have HN := hide hn
    have t0 := Box.new w2 #[.slice none 0 0, .slice none 0 0, .int .i64 0, .int .i64 0, .int .i64 0, .int .i64 0, .int .i64 0] 25
    have t1 : Below g2 w2 (w2.alloc (.cells #[.slice none 0 0, .slice none 0 0, .int .i64 0, .int .i64 0, .int .i64 0, .int .i64 0, .int .i64 0] 25)) := (Below.refl _ _).alloc (Nat.le_of_eq hg2.symm) _
    rw [hg2] at t0
    have hsz : text.size ≤ 10000 := hbig
    have HM := hide (And.intro m1 m2)
    clear hp hts hl hn hs hbig m1 m2
    unfold cfg0
    go_upto_region 6 with (fail)
    generalize w2.alloc _ = w3 at t0 t1 ⊢
    obtain ⟨k0, -⟩ := t0.2 0 _ rfl
    obtain ⟨k1, -⟩ := t0.2 1 _ rfl
    obtain ⟨k2, -⟩ := t0.2 2 _ rfl
    obtain ⟨k3, -⟩ := t0.2 3 _ rfl
    obtain ⟨k4, -⟩ := t0.2 4 _ rfl
    obtain ⟨k5, -⟩ := t0.2 5 _ rfl
    obtain ⟨k6, -⟩ := t0.2 6 _ rfl
    go_wp2_with fail
    go_loopw [8, 7] (fun i v W => ∃ k c : Nat, k ≤ text.size ∧ i = .int .i64 k ∧ v = .int .i64 c ∧ c + Scr.cntL (l.drop k) = 1 + Scr.cntL l ∧ c ≤ k + 1 ∧ W = w3) (fun i _ _ => text.size - (intOf i).toNat)
    case atStart => exact ⟨0, 1, Nat.zero_le _, rfl, rfl, by simp, by omega, rfl⟩
    case round =>
      obtain ⟨k, cn, hk, rfl, rfl, hc, hck, rfl⟩ := hrel
      have HC := hide hc
      clear hc
      by_cases hlt : k < text.size
      · have hlt' : (k : Int) < (text.size : Int) := by omega
        have hkl : k < l.length := by have := HN.out; omega
        have hdr := List.drop_eq_getElem_cons hkl
        have hbx : l[k] = text[k] := by
          have h := HL.out
          subst h
          rw [Array.getElem_toList]; rfl
        have hstep : Scr.cntL (l.drop k) = (if text[k] = 10 ∧ k + 1 < text.size then 1 else 0) + Scr.cntL (l.drop (k + 1)) := by
          rw [hdr, Scr.cntL, hbx]
          have h2 := HN.out
          have h3 : (l.drop (k + 1) ≠ []) = (k + 1 < text.size) := by
            apply propext
            rw [Ne, List.drop_eq_nil_iff, h2]; omega
          simp only [h3]
        have HST := hide hstep
        clear hdr hbx hstep
        by_cases ht : text[k] = 10
        · have hti : ((text[k].toNat : Nat) : Int) = 10 := by rw [ht]; rfl
          by_cases hk2 : k + 1 < text.size
          · have hk3 : (k : Int) + 1 < (text.size : Int) := by omega
            have told := hide (show cn + 1 + Scr.cntL (l.drop (k + 1)) = 1 + Scr.cntL l by
              have h1 := HST.out
              rw [if_pos ⟨ht, hk2⟩] at h1
              have := HC.out; omega)
            clear ht
            go_wp2_with fail
            go_roundw
            case rel => exact ⟨k + 1, cn + 1, by omega, by go_num, by go_num, told.out, by omega, trivial⟩
            case measure => simp [intOf]; omega
          · have hk3 : ¬ (k : Int) + 1 < (text.size : Int) := by omega
            have told := hide (show cn + Scr.cntL (l.drop (k + 1)) = 1 + Scr.cntL l by
              have h1 := HST.out
              rw [if_neg (fun h => hk2 h.2)] at h1
              have := HC.out; omega)
            clear ht
            go_wp2_with fail
            go_roundw
            case rel => exact ⟨k + 1, cn, by omega, by go_num, rfl, told.out, by omega, trivial⟩
            case measure => simp [intOf]; omega
        · have hti : ¬ ((text[k].toNat : Nat) : Int) = 10 := fun h => ht (UInt8.toNat_inj.mp (by have e : (10 : UInt8).toNat = 10 := rfl; omega))
          have told := hide (show cn + Scr.cntL (l.drop (k + 1)) = 1 + Scr.cntL l by
            have h1 := HST.out
            rw [if_neg (fun h => ht h.1)] at h1
            have := HC.out; omega)
          clear ht
          go_wp2_with fail
          go_roundw
          case rel => exact ⟨k + 1, cn, by omega, by go_num, rfl, told.out, by omega, trivial⟩
          case measure => simp [intOf]; omega
      · have hlt' : ¬ (k : Int) < (text.size : Int) := by omega
        obtain rfl : k = text.size := by omega
        have hcm : (m : Int) ≤ (cn : Int) := by
          have h1 := HC.out
          rw [List.drop_of_length_le (Nat.le_of_eq HN.out)] at h1
          have := HM.out.2
          simp only [Scr.cntL] at h1
          omega
        have hm1 : (1 : Int) ≤ (m : Int) := by have := HM.out.1; omega
        have SM := scrsame_any none none none none none none 0 0 0 0 0 0 0 0 0 0 0 0 0 0 [] [] [] [] [] wr wr.heap.size ⟨Rd.nil_, Rd.nil_⟩ ⟨Rd.nil_, Rd.nil_⟩ ⟨Rd.nil_, rfl, fun i h => by simp at h⟩ ⟨Rd.nil_, rfl, fun i h => by simp at h⟩ (Nat.le_refl _) ⟨by omega, by omega, by omega⟩ (by simp [totA])
        simp only [CfgA.val, ActA.val] at SM
        have HSM := hide SM
        clear HC SM HM
        go_wp2_with fail
        refine HSM.out.mono ?_
        rintro e' w4 ⟨rfl, b4⟩
        go_wp2_with fail
        go_ret
        rw [hg]
        exact ⟨rfl, HB12.out.trans ((t1.trans (b4.mono (by have := t1.size; omega))).mono hgg)⟩
/-- The settled world that the card begins from. -/
noncomputable def laidWorld (os : Os) : World := laidWorld7 os
end Go.Proofs.YtbgbggodjhbgbaaDoor.ScriptTextsP
