/- concertinalaw27.ScriptWrong: the walk. -/
import Derived.Test.YtbgbggodjhbgbaaDoorScrFl
import Derived.Test.YtbgbggodjhbgbaaDoorScrLight
import Derived.Test.YtbgbggodjhbgbaaDoorScrRBel
import Derived.Test.YtbgbggodjhbgbaaDoorScrRefP
import Derived.Test.YtbgbggodjhbgbaaDoorScrGlo
import Derived.Test.YtbgbggodjhbgbaaDoorScrBad
import Derived.Test.YtbgbggodjhbgbaaDoorLaid7
namespace Go.Proofs.YtbgbggodjhbgbaaDoor.ScriptWrongP
open Go.RowKit
set_option linter.unusedVariables false
set_option linter.unusedSimpArgs false

/-- The bad lines, in their cells. -/
def badV : Array Value := #[.string ⟨#[]⟩, .string ⟨#[119, 104, 97, 116]⟩, .string ⟨#[99, 111, 110, 102, 105, 103, 32, 49, 32, 50, 32, 51, 32, 52, 32, 53]⟩, .string ⟨#[114, 111, 117, 116, 101, 32, 120, 32, 120]⟩, .string ⟨#[114, 111, 117, 116, 101, 32, 120, 32, 120, 32, 45, 49]⟩, .string ⟨#[116, 121, 112, 101]⟩, .string ⟨#[116, 121, 112, 101, 32, 120, 103, 48]⟩, .string ⟨#[116, 121, 112, 101, 32, 120, 49]⟩, .string ⟨#[97, 99, 116, 32, 49, 32, 50, 32, 51]⟩, .string ⟨#[97, 99, 116, 32, 49, 32, 50, 32, 51, 32, 120, 32, 120]⟩, .string ⟨#[97, 99, 116, 32, 48, 49, 32, 50, 32, 51, 32, 120]⟩, .string ⟨#[97, 99, 116, 32, 49, 32, 32, 50, 32, 51, 32, 120]⟩, .string ⟨#[97, 99, 116, 32, 49, 32, 50, 32, 51, 32, 88]⟩, .string ⟨#[32, 97, 99, 116, 32, 49, 32, 50, 32, 51, 32, 120]⟩]
theorem badV_is : badV.toList = Scr.badL.map fun b => .string ⟨b.toArray⟩ := rfl
theorem badV_at (k : Nat) (hk : k < 14) : ∃ s : ByteArray, badV[k]? = some (.string s) ∧ s.data.toList ∈ Scr.badL ∧ s.size ≤ 30 := by
  have hl : Scr.badL.length = 14 := by decide
  have hk' : k < Scr.badL.length := by omega
  refine ⟨⟨(Scr.badL[k]).toArray⟩, ?_, ?_, ?_⟩
  · rw [← Array.getElem?_toList, badV_is, List.getElem?_map, List.getElem?_eq_getElem hk']; rfl
  · exact List.getElem_mem hk'
  · have := Scr.bad_len _ (List.getElem_mem hk')
    show ((Scr.badL[k]).toArray).size ≤ 30
    rw [List.size_toArray]; exact this
set_option maxRecDepth 100000 in
set_option maxHeartbeats 3200000 in
theorem walk (C : CfgA) (S : ActA) (at_ which : Int) (tail : ByteArray) (w : World) (hC : C.In w w.heap.size) (hS : S.In w w.heap.size) (hb : LightBounds C S) (hi : I64 C S) (ha : (Lit.int .u8 at_).wf = true) (hw : (Lit.int .u8 which).wf = true) (htl : tail.size ≤ maxLen) (hG : ∀ W, Below w.heap.size w W → Glo W) :
    Calls Tryd.prog 5 #[C.val, S.val, .int .u8 at_, .int .u8 which, .string tail] w fun e w' => e = .returned (.bool true) ∧ Below w.heap.size w w' := by
  simp [Lit.wf, IntKind.min, IntKind.max, IntKind.signed, IntKind.bits] at ha hw
  obtain ⟨g, hg⟩ : ∃ g, w.heap.size = g := ⟨_, rfl⟩
  rw [hg] at hC hS hG
  have t0 : Below g w (w.alloc (.cells #[.slice C.AR C.nR C.cR, .slice C.AT C.nT C.cT, .int .i64 C.a, .int .i64 C.b, .int .i64 C.c, .int .i64 C.d, .int .i64 C.e] 25)) := (Below.refl _ _).alloc (Nat.le_of_eq hg.symm) _
  have bx := Box.new w #[.slice C.AR C.nR C.cR, .slice C.AT C.nT C.cT, .int .i64 C.a, .int .i64 C.b, .int .i64 C.c, .int .i64 C.d, .int .i64 C.e] 25
  rw [hg] at bx
  have sz : ∀ {W}, Below g w W → g ≤ W.heap.size := fun b => hg ▸ b.size
  have QA := fun W (b : Below g w W) => scrans_any W (fun W' b' => hG W' (b.trans (b'.mono (sz b))))
  have QL := fun W (b : Below g w W) => scrlight_any C S W g (hC.below b) (hS.below b) (sz b) hb
  have HQA := hide QA
  have HQL : Hid (∀ W (b : Below g w W), Calls Tryd.prog 7 #[C.val, S.val] W fun e w' => ∃ lb, e = .returned (.bool lb) ∧ Below W.heap.size W w' ∧ (lb = true → totR C.rs + totT C.ts + totA S.al + 20 * (C.nR + C.nT + S.n) < 20000)) := hide QL
  have QB : Hid (∀ W (b : Below g w W) (h : totR C.rs + totT C.ts + totA S.al + 20 * (C.nR + C.nT + S.n) < 20000), Calls Tryd.prog 9 #[C.val, S.val] W fun e w' => e = .returned (.bool (belowB C S)) ∧ Below W.heap.size W w') :=
    hide fun W b h => scrrbelow_any C S W g (hC.below b) (hS.below b) (sz b) ⟨by omega, by omega⟩
  obtain ⟨tb, htb⟩ : ∃ tb : ByteArray, tb = ⟨(Scr.linesT (flOf C S).lines).toArray⟩ := ⟨_, rfl⟩
  have QR : Hid (∀ W (b : Below g w W) (h : totR C.rs + totT C.ts + totA S.al + 20 * (C.nR + C.nT + S.n) < 20000) (hn : belowB C S = false), Calls Tryd.prog 11 #[C.val, S.val] W fun e w' => e = .returned (.string tb) ∧ Below W.heap.size W w') :=
    hide fun W b h hn => htb ▸ scrrefp_any C S (flOf C S) W g (hC.below b) (hS.below b) (sz b) ⟨by omega, by omega, by omega⟩ (by omega) (match_flOf hn) (fit_flOf hi) (by have := flOf_len hC hS hn hi h; omega)
  obtain ⟨Ls, hLs⟩ : ∃ Ls, Ls = (flOf C S).lines := ⟨_, rfl⟩
  have hfit : ∀ L ∈ Ls, L.fit := hLs ▸ fit_flOf hi
  have hord : Scr.ordP 0 Ls := hLs ▸ Scr.ordP_of (Scr.ord_lines _)
  have hne : Ls ≠ [] := by rw [hLs, lines_is]; simp
  have hlen : Hid (∀ (h : totR C.rs + totT C.ts + totA S.al + 20 * (C.nR + C.nT + S.n) < 20000) (hn : belowB C S = false), (Scr.linesT Ls).length ≤ 4000000) := hide fun h hn => by
    have := flOf_len hC hS hn hi h
    rw [hLs]; omega
  rw [← hLs] at htb
  have QS : Hid (∀ W (b : Below g w W) (j : Nat) (bs sx : ByteArray) (h : totR C.rs + totT C.ts + totA S.al + 20 * (C.nR + C.nT + S.n) < 20000) (hn : belowB C S = false) (hj : 1 ≤ j) (hjl : j ≤ Ls.length) (hbs : bs.data.toList ∈ Scr.badL) (htx : tail.size ≤ 300) (hsx : sx.data.toList = Scr.linesT (Ls.take j) ++ (bs.data.toList ++ 10 :: tail.data.toList)),
      Calls Tryd.prog 10 #[.string sx] W fun e w' => Below W.heap.size W w' ∧ e = .returned (.tuple #[cfg0, .slice none 0 0, .int .i64 ((j : Int) + 1), .int .i64 9])) :=
    hide fun W b j bs sx h hn hj hjl hbs htx hsx => by
      have hl := hlen.out h hn
      have h30 := Scr.bad_len _ hbs
      have e : Scr.linesT Ls = Scr.linesT (Ls.take j) ++ Scr.linesT (Ls.drop j) := by rw [← Scr.linesT_app, List.take_append_drop]
      have hll : sx.size ≤ 4194304 := by
        have h1 : sx.size = sx.data.toList.length := by rw [Array.length_toList]; rfl
        have h2 : tail.data.toList.length = tail.size := by rw [Array.length_toList]; rfl
        rw [h1, hsx]
        have hl2 := congrArg List.length e
        simp only [List.length_append, List.length_cons] at hl2 ⊢
        omega
      refine (scrparse_any sx W hll (fun W' b' => hG W' (b.trans (b'.mono (sz b))))).mono ?_
      rintro e w' ⟨bel, hp⟩
      refine ⟨bel, ?_⟩
      have hw := Scr.parse_wrong (Ls := Ls.take j) (fun L hL => hfit L (List.mem_of_mem_take hL)) (Scr.ordP_take hord j) (by
        intro h0
        have := congrArg List.length h0
        rw [List.length_take, List.length_nil] at this
        have h2 : 0 < Ls.length := List.length_pos_iff.mpr hne
        omega) hbs tail.data.toList
      rw [hsx, hw] at hp
      rcases hp with ⟨Ls', vR, vT, vA, ps, f, hp, -⟩ | ⟨m, hp, rfl⟩
      · cases hp
      · have hm : 1 + (Ls.take j).length = m := by simpa using hp
        rw [List.length_take] at hm
        have : (m : Int) = (j : Int) + 1 := by omega
        rw [this]
  obtain ⟨tot, htot⟩ : ∃ t, t = totR C.rs + totT C.ts + totA S.al + 20 * (C.nR + C.nT + S.n) := ⟨_, rfl⟩
  obtain ⟨sv, hsv⟩ : ∃ v, v = S.val := ⟨_, rfl⟩
  obtain ⟨nb, hnb⟩ : ∃ nb, nb = belowB C S := ⟨_, rfl⟩
  rw [← htot] at QB QR QS HQL hlen
  rw [← hnb] at QB QR QS hlen
  rw [← hsv] at QB QR HQL ⊢
  obtain ⟨AR, nR, cR, AT, nT, cT, a, b, c, d, e, rs, ts⟩ := C
  simp only [CfgA.val] at QB QR HQL bx t0 ⊢
  have HTB : Hid (tb.data.toList = Scr.linesT Ls) := hide (by rw [htb])
  clear hC hS hb hi hG QA QL htot hsv hnb hfit hord htb hLs
  have HNE := hide hne
  clear hne
  have SZ : Hid (∀ W, Below g w W → g ≤ W.heap.size) := hide fun W b => sz b
  clear sz
  go_enter Tryd.func5, Tryd.ntmps5
  go_upto_region 1 with (fail)
  generalize w.alloc _ = w1 at bx t0 ⊢
  obtain ⟨k0, -⟩ := bx.2 0 _ rfl
  obtain ⟨k1, -⟩ := bx.2 1 _ rfl
  obtain ⟨k2, -⟩ := bx.2 2 _ rfl
  obtain ⟨k3, -⟩ := bx.2 3 _ rfl
  obtain ⟨k4, -⟩ := bx.2 4 _ rfl
  obtain ⟨k5, -⟩ := bx.2 5 _ rfl
  obtain ⟨k6, -⟩ := bx.2 6 _ rfl
  go_wp2_with fail
  refine (HQA.out w1 t0).mono ?_
  rintro e' w2 ⟨rfl, b1⟩
  have bx2 := bx.below b1
  have t2 := t0.trans (b1.mono (SZ.out _ t0))
  clear k0 k1 k2 k3 k4 k5 k6
  obtain ⟨k0, -⟩ := bx2.2 0 _ rfl
  obtain ⟨k1, -⟩ := bx2.2 1 _ rfl
  obtain ⟨k2, -⟩ := bx2.2 2 _ rfl
  obtain ⟨k3, -⟩ := bx2.2 3 _ rfl
  obtain ⟨k4, -⟩ := bx2.2 4 _ rfl
  obtain ⟨k5, -⟩ := bx2.2 5 _ rfl
  obtain ⟨k6, -⟩ := bx2.2 6 _ rfl
  go_wp2_with fail
  refine (HQL.out w2 t2).mono ?_
  rintro e' w3 ⟨lb, rfl, b2, hl⟩
  have bx3 := bx2.below b2
  have t3 := t2.trans (b2.mono (SZ.out _ t2))
  have HL := hide hl
  clear k0 k1 k2 k3 k4 k5 k6 hl
  rcases lb with _ | _
  · go_wp2_with fail
    refine (HQA.out w3 t3).mono ?_
    rintro e' w4 ⟨rfl, b3⟩
    go_wp2_with fail
    go_ret
    rw [hg]
    exact ⟨rfl, t3.trans (b3.mono (SZ.out _ t3))⟩
  have hl := HL.out rfl
  have HLT := hide hl
  clear hl HL
  obtain ⟨k0, -⟩ := bx3.2 0 _ rfl
  obtain ⟨k1, -⟩ := bx3.2 1 _ rfl
  obtain ⟨k2, -⟩ := bx3.2 2 _ rfl
  obtain ⟨k3, -⟩ := bx3.2 3 _ rfl
  obtain ⟨k4, -⟩ := bx3.2 4 _ rfl
  obtain ⟨k5, -⟩ := bx3.2 5 _ rfl
  obtain ⟨k6, -⟩ := bx3.2 6 _ rfl
  go_wp2_with fail
  refine (QB.out w3 t3 HLT.out).mono ?_
  rintro e' w4 ⟨rfl, b3⟩
  have bx4 := bx3.below b3
  have t4 := t3.trans (b3.mono (SZ.out _ t3))
  clear k0 k1 k2 k3 k4 k5 k6
  rcases nb with _ | _
  rotate_left
  · go_wp2_with fail
    refine (HQA.out w4 t4).mono ?_
    rintro e' w5 ⟨rfl, b4⟩
    go_wp2_with fail
    go_ret
    rw [hg]
    exact ⟨rfl, t4.trans (b4.mono (SZ.out _ t4))⟩
  by_cases htb : 300 < tail.size
  · have hti : (300 : Int) < (tail.size : Int) := by omega
    go_wp2_with fail
    refine (HQA.out w4 t4).mono ?_
    rintro e' w5 ⟨rfl, b4⟩
    go_wp2_with fail
    go_ret
    rw [hg]
    exact ⟨rfl, t4.trans (b4.mono (SZ.out _ t4))⟩
  have hti : ¬ (300 : Int) < (tail.size : Int) := by omega
  have htx : tail.size ≤ 300 := by omega
  clear htb htl
  obtain ⟨wn, rfl⟩ : ∃ n : Nat, which = n := ⟨which.toNat, by omega⟩
  obtain ⟨an, rfl⟩ : ∃ n : Nat, at_ = n := ⟨at_.toNat, by omega⟩
  have hw8 : wn ≤ 255 := by omega
  have ha8 : an ≤ 255 := by omega
  have hwm : (wn : Int) % 14 = ((wn % 14 : Nat) : Int) := by omega
  have ham : (an : Int) % 9 = ((an % 9 : Nat) : Int) := by omega
  have hk14 : wn % 14 < 14 := Nat.mod_lt _ (by decide)
  obtain ⟨kk, hkk⟩ : ∃ k, k = wn % 14 := ⟨_, rfl⟩
  obtain ⟨m, hm⟩ : ∃ k, k = an % 9 := ⟨_, rfl⟩
  rw [← hkk] at hwm hk14
  rw [← hm] at ham
  obtain ⟨bs, hb1, hb2, hb3⟩ := badV_at kk hk14
  have HB2 := hide hb2
  clear hkk hm hb2 ha hw
  obtain ⟨g4, hg4⟩ : ∃ n, w4.heap.size = n := ⟨_, rfl⟩
  have bb := Box.new w4 #[.string ⟨#[]⟩, .string ⟨#[119, 104, 97, 116]⟩, .string ⟨#[99, 111, 110, 102, 105, 103, 32, 49, 32, 50, 32, 51, 32, 52, 32, 53]⟩, .string ⟨#[114, 111, 117, 116, 101, 32, 120, 32, 120]⟩, .string ⟨#[114, 111, 117, 116, 101, 32, 120, 32, 120, 32, 45, 49]⟩, .string ⟨#[116, 121, 112, 101]⟩, .string ⟨#[116, 121, 112, 101, 32, 120, 103, 48]⟩, .string ⟨#[116, 121, 112, 101, 32, 120, 49]⟩, .string ⟨#[97, 99, 116, 32, 49, 32, 50, 32, 51]⟩, .string ⟨#[97, 99, 116, 32, 49, 32, 50, 32, 51, 32, 120, 32, 120]⟩, .string ⟨#[97, 99, 116, 32, 48, 49, 32, 50, 32, 51, 32, 120]⟩, .string ⟨#[97, 99, 116, 32, 49, 32, 32, 50, 32, 51, 32, 120]⟩, .string ⟨#[97, 99, 116, 32, 49, 32, 50, 32, 51, 32, 88]⟩, .string ⟨#[32, 97, 99, 116, 32, 49, 32, 50, 32, 51, 32, 120]⟩] 9
  have b5 : Below g4 w4 (w4.alloc (.cells #[.string ⟨#[]⟩, .string ⟨#[119, 104, 97, 116]⟩, .string ⟨#[99, 111, 110, 102, 105, 103, 32, 49, 32, 50, 32, 51, 32, 52, 32, 53]⟩, .string ⟨#[114, 111, 117, 116, 101, 32, 120, 32, 120]⟩, .string ⟨#[114, 111, 117, 116, 101, 32, 120, 32, 120, 32, 45, 49]⟩, .string ⟨#[116, 121, 112, 101]⟩, .string ⟨#[116, 121, 112, 101, 32, 120, 103, 48]⟩, .string ⟨#[116, 121, 112, 101, 32, 120, 49]⟩, .string ⟨#[97, 99, 116, 32, 49, 32, 50, 32, 51]⟩, .string ⟨#[97, 99, 116, 32, 49, 32, 50, 32, 51, 32, 120, 32, 120]⟩, .string ⟨#[97, 99, 116, 32, 48, 49, 32, 50, 32, 51, 32, 120]⟩, .string ⟨#[97, 99, 116, 32, 49, 32, 32, 50, 32, 51, 32, 120]⟩, .string ⟨#[97, 99, 116, 32, 49, 32, 50, 32, 51, 32, 88]⟩, .string ⟨#[32, 97, 99, 116, 32, 49, 32, 50, 32, 51, 32, 120]⟩] 9)) := (Below.refl _ _).alloc (Nat.le_of_eq hg4.symm) _
  rw [hg4] at bb
  have hgl : g < g4 := hg4 ▸ bx4.1
  go_upto_region 4 with (fail)
  generalize w4.alloc _ = w5 at bb b5 ⊢
  have bx5 := bx4.below3 b5 hgl
  have t5 := t4.trans (b5.mono (Nat.le_of_lt hgl))
  have bk := (bb.2 kk (.string bs) (by rw [Array.getElem?_toList]; exact hb1)).1
  obtain ⟨k0, -⟩ := bx5.2 0 _ rfl
  obtain ⟨k1, -⟩ := bx5.2 1 _ rfl
  obtain ⟨k2, -⟩ := bx5.2 2 _ rfl
  obtain ⟨k3, -⟩ := bx5.2 3 _ rfl
  obtain ⟨k4, -⟩ := bx5.2 4 _ rfl
  obtain ⟨k5, -⟩ := bx5.2 5 _ rfl
  obtain ⟨k6, -⟩ := bx5.2 6 _ rfl
  go_wp2_with fail
  refine (QR.out w5 t5 HLT.out trivial).mono ?_
  rintro e' w6 ⟨rfl, b6⟩
  have hg4r : g4 < w6.heap.size := Nat.lt_of_lt_of_le bb.1 b6.size
  have bk6 : w6.cell? ⟨g4, kk, none⟩ = some (.string bs) := (b6.cell (p := ⟨g4, kk, none⟩) bb.1).trans bk
  have t6 := t5.trans (b6.mono (SZ.out _ t5))
  clear k0 k1 k2 k3 k4 k5 k6 bk hb1
  have hsz : (Scr.linesT Ls).length = tb.size := by rw [← HTB.out, Array.length_toList]; rfl
  have HSZ := hide hsz
  have hs4 : tb.size ≤ 4000000 := by have := hlen.out HLT.out trivial; omega
  clear hsz
  go_wp2_with fail
  go_loopw [15, 13, 14] (fun i cv lv W => ∃ k c j : Nat, k ≤ tb.size ∧ i = .int .i64 k ∧ cv = .int .i64 c ∧ lv = .int .i64 j ∧ j ≤ m + 1 ∧ Hid (Scr.CutI Ls (m + 1) k c j) ∧ W = w6) (fun i _ _ _ => tb.size - (intOf i).toNat)
  case atStart => exact ⟨0, 0, 0, Nat.zero_le _, rfl, rfl, rfl, by omega, hide (Scr.cutI_0 Ls (m + 1) (by omega) HNE.out), rfl⟩
  case round =>
    obtain ⟨k, c, j, hk, rfl, rfl, rfl, hjm, hc, rfl⟩ := hrel
    by_cases hlt : k < tb.size
    · have hlt' : (k : Int) < (tb.size : Int) := by omega
      have hbx : Hid ((Scr.linesT Ls)[k]? = some tb[k]) := hide (by
        have h := HTB.out
        rw [← h, List.getElem?_eq_getElem (by rw [Array.length_toList]; exact hlt), Array.getElem_toList]; rfl)
      by_cases ht : tb[k] = 10
      · have hti : ((tb[k].toNat : Nat) : Int) = 10 := by rw [ht]; rfl
        by_cases hj : j < m + 1
        · have hj' : (j : Int) ≤ (m : Int) := by omega
          have told := hide (Scr.cutI_ten hc.out hj (ht ▸ hbx.out))
          clear ht
          go_wp2_with fail
          go_roundw
          case rel => exact ⟨k + 1, k + 1, j + 1, by omega, by go_num, by go_num, by go_num, by omega, told, trivial⟩
          case measure => simp [intOf]; omega
        · have hj' : ¬ (j : Int) ≤ (m : Int) := by omega
          have told := hide (Scr.cutI_on hc.out hj)
          clear ht
          go_wp2_with fail
          go_roundw
          case rel => exact ⟨k + 1, c, j, by omega, by go_num, rfl, rfl, hjm, told, trivial⟩
          case measure => simp [intOf]; omega
      · have hti : ¬ ((tb[k].toNat : Nat) : Int) = 10 := fun h => ht (UInt8.toNat_inj.mp (by have e : (10 : UInt8).toNat = 10 := rfl; omega))
        have told := hide (Scr.cutI_not hc.out hbx.out ht)
        clear ht
        go_wp2_with fail
        go_roundw
        case rel => exact ⟨k + 1, c, j, by omega, by go_num, rfl, rfl, hjm, told, trivial⟩
        case measure => simp [intOf]; omega
    · have hlt' : ¬ (k : Int) < (tb.size : Int) := by omega
      obtain rfl : k = tb.size := by omega
      have hcz : c ≤ tb.size := by have := Scr.cutI_le hc.out; rw [HSZ.out] at this; exact this
      have hj1 : 1 ≤ j := Scr.cutI_pos (by omega) HNE.out (HSZ.out ▸ hc.out)
      have hjl : j ≤ Ls.length := hc.out.1
      obtain ⟨s1, hs1⟩ : ∃ s : ByteArray, tb.extract 0 c = s := ⟨_, rfl⟩
      have hz1 : s1.size ≤ tb.size := by rw [← hs1, ByteArray.size_extract]; omega
      obtain ⟨s2, hs2⟩ : ∃ s : ByteArray, s1 ++ bs = s := ⟨_, rfl⟩
      have hz2 : s2.size ≤ 4000030 := by rw [← hs2, ByteArray.size_append]; omega
      obtain ⟨s3, hs3⟩ : ∃ s : ByteArray, s2 ++ ⟨#[10]⟩ = s := ⟨_, rfl⟩
      have hz3 : s3.size ≤ 4000031 := by rw [← hs3, ByteArray.size_append]; have : (⟨#[10]⟩ : ByteArray).size = 1 := rfl; omega
      obtain ⟨s4, hs4'⟩ : ∃ s : ByteArray, s3 ++ tail = s := ⟨_, rfl⟩
      have hc1 : ¬ (9223372036854775807 < s1.size + bs.size) := by omega
      have hc2 : ¬ (9223372036854775807 < s2.size + 1) := by omega
      have hc3 : ¬ (9223372036854775807 < s3.size + tail.size) := by omega
      have hsx : s4.data.toList = Scr.linesT (Ls.take j) ++ (bs.data.toList ++ 10 :: tail.data.toList) := by
        rw [← hs4', ← hs3, ← hs2, ← hs1]
        have h5 := Scr.cutI_take hc.out
        rw [← HTB.out] at h5
        simp only [ByteArray.data_append, Array.toList_append, List.append_assoc]
        rw [← h5]
        congr 1
        simp [ByteArray.data_extract]
      have hwr : IntKind.i64.wrap (wn : Int) = (wn : Int) := by rw [IntKind.wrap_i64]; omega
      have hwt : Int.tmod (wn : Int) 14 = (kk : Int) := by rw [← hwm]; exact Int.tmod_eq_emod_of_nonneg (by omega)
      have hki : (kk : Int) < 14 := by omega
      have QQ : Hid (∀ W (b : Below g w W), _) := hide fun W b => QS.out W b j bs s4 HLT.out trivial hj1 hjl HB2.out htx hsx
      have HC := hide hc
      clear hc hsx
      go_wp2_with fail
      have t6d : Below g w wr.drew := t6.trans ((show Below wr.heap.size wr wr.drew from below_drewN (k := 1) (Below.refl _ _)).mono (SZ.out _ t6))
      have hgd : g4 < wr.drew.heap.size := hg4r
      have bk6d : wr.drew.cell? ⟨g4, kk, none⟩ = some (.string bs) := bk6
      refine CalmP.hideN (fun K0 hQ => ?_)
      refine wp_region_held_drew (S := (fun W : World => W.cell? ⟨g4, kk, none⟩ = some (.string bs))) (by kernel_rfl) bk6 (fun hHeld => ?_)
      refine wpAnyH_take (i := 0) (v := ?_) rfl (by kernel_rfl) (by kernel_rfl) (by kernel_rfl) CalmP.onlyN_panic (Or.inl ⟨by kernel_rfl, ?_⟩) (by assumption) ?_
      rotate_left
      · (intro w_ hSw; go_simp; try with_reducible rfl)
      try simp only [List.getElem_toArray, List.getElem_cons_succ, List.getElem_cons_zero, Act.put, List.setIfInBounds_toArray, List.set_cons_zero, List.set_cons_succ]
      refine wpAnyH_take (i := 1) (v := ?_) rfl (by kernel_rfl) (by kernel_rfl) (by kernel_rfl) CalmP.onlyN_panic (Or.inl ⟨by kernel_rfl, ?_⟩) (by assumption) ?_
      rotate_left
      · (intro w_ hSw; go_simp; try with_reducible rfl)
      try simp only [List.getElem_toArray, List.getElem_cons_succ, List.getElem_cons_zero, Act.put, List.setIfInBounds_toArray, List.set_cons_zero, List.set_cons_succ]
      refine wpAnyH_take (i := 2) (v := ?_) rfl (by kernel_rfl) (by kernel_rfl) (by kernel_rfl) CalmP.onlyN_panic (Or.inl ⟨by kernel_rfl, ?_⟩) (by assumption) ?_
      rotate_left
      · (intro w_ hSw; go_simp; try with_reducible rfl)
      try simp only [List.getElem_toArray, List.getElem_cons_succ, List.getElem_cons_zero, Act.put, List.setIfInBounds_toArray, List.set_cons_zero, List.set_cons_succ]
      refine wpAnyH_take (i := 3) (v := ?_) rfl (by kernel_rfl) (by kernel_rfl) (by kernel_rfl) CalmP.onlyN_panic (Or.inl ⟨by kernel_rfl, ?_⟩) (by assumption) ?_
      rotate_left
      · (intro w_ hSw; go_simp; try with_reducible rfl)
      try simp only [List.getElem_toArray, List.getElem_cons_succ, List.getElem_cons_zero, Act.put, List.setIfInBounds_toArray, List.set_cons_zero, List.set_cons_succ]
      refine wpAnyH_take (i := 4) (v := ?_) rfl (by kernel_rfl) (by kernel_rfl) (by kernel_rfl) CalmP.onlyN_panic (Or.inl ⟨by kernel_rfl, ?_⟩) (by assumption) ?_
      rotate_left
      · (intro w_ hSw; go_simp; try with_reducible rfl)
      try simp only [List.getElem_toArray, List.getElem_cons_succ, List.getElem_cons_zero, Act.put, List.setIfInBounds_toArray, List.set_cons_zero, List.set_cons_succ]
      refine wpAnyH_take (i := 5) (v := ?_) rfl (by kernel_rfl) (by kernel_rfl) (by kernel_rfl) CalmP.onlyN_panic (Or.inl ⟨by kernel_rfl, ?_⟩) (by assumption) ?_
      rotate_left
      · (intro w_ hSw; go_simp; try with_reducible rfl)
      try simp only [List.getElem_toArray, List.getElem_cons_succ, List.getElem_cons_zero, Act.put, List.setIfInBounds_toArray, List.set_cons_zero, List.set_cons_succ]
      refine wpAnyH_take (i := 6) (v := ?_) rfl (by kernel_rfl) (by kernel_rfl) (by kernel_rfl) CalmP.onlyN_panic (Or.inl ⟨by kernel_rfl, ?_⟩) (by assumption) ?_
      rotate_left
      · (intro w_ hSw; go_simp; try with_reducible rfl)
      try simp only [List.getElem_toArray, List.getElem_cons_succ, List.getElem_cons_zero, Act.put, List.setIfInBounds_toArray, List.set_cons_zero, List.set_cons_succ]
      refine wpAnyH_take (i := 7) (v := ?_) rfl (by kernel_rfl) (by kernel_rfl) (by kernel_rfl) CalmP.onlyN_panic (Or.inl ⟨by kernel_rfl, ?_⟩) (by assumption) ?_
      rotate_left
      · (intro w_ hSw; go_simp; try with_reducible rfl)
      try simp only [List.getElem_toArray, List.getElem_cons_succ, List.getElem_cons_zero, Act.put, List.setIfInBounds_toArray, List.set_cons_zero, List.set_cons_succ]
      refine wpAnyH_take (i := 8) (v := ?_) rfl (by kernel_rfl) (by kernel_rfl) (by kernel_rfl) CalmP.onlyN_panic (Or.inl ⟨by kernel_rfl, ?_⟩) (by assumption) ?_
      rotate_left
      · (intro w_ hSw; go_simp; try with_reducible rfl)
      try simp only [List.getElem_toArray, List.getElem_cons_succ, List.getElem_cons_zero, Act.put, List.setIfInBounds_toArray, List.set_cons_zero, List.set_cons_succ]
      refine wpAnyH_take (i := 9) (v := ?_) rfl (by kernel_rfl) (by kernel_rfl) (by kernel_rfl) CalmP.onlyN_panic (Or.inl ⟨by kernel_rfl, ?_⟩) (by assumption) ?_
      rotate_left
      · (intro w_ hSw; go_simp; try with_reducible rfl)
      try simp only [List.getElem_toArray, List.getElem_cons_succ, List.getElem_cons_zero, Act.put, List.setIfInBounds_toArray, List.set_cons_zero, List.set_cons_succ]
      refine wpAnyH_take (i := 10) (v := ?_) rfl (by kernel_rfl) (by kernel_rfl) (by kernel_rfl) CalmP.onlyN_panic (Or.inl ⟨by kernel_rfl, ?_⟩) (by assumption) ?_
      rotate_left
      · (intro w_ hSw; go_simp; try with_reducible rfl)
      try simp only [List.getElem_toArray, List.getElem_cons_succ, List.getElem_cons_zero, Act.put, List.setIfInBounds_toArray, List.set_cons_zero, List.set_cons_succ]
      refine wpAnyH_take (i := 11) (v := ?_) rfl (by kernel_rfl) (by kernel_rfl) (by kernel_rfl) CalmP.onlyN_panic (Or.inl ⟨by kernel_rfl, ?_⟩) (by assumption) ?_
      rotate_left
      · (intro w_ hSw; go_simp; try with_reducible rfl)
      try simp only [List.getElem_toArray, List.getElem_cons_succ, List.getElem_cons_zero, Act.put, List.setIfInBounds_toArray, List.set_cons_zero, List.set_cons_succ]
      refine wpAnyH_take (i := 12) (v := ?_) rfl (by kernel_rfl) (by kernel_rfl) (by kernel_rfl) CalmP.onlyN_panic (Or.inl ⟨by kernel_rfl, ?_⟩) (by assumption) ?_
      rotate_left
      · (intro w_ hSw; go_simp; try with_reducible rfl)
      try simp only [List.getElem_toArray, List.getElem_cons_succ, List.getElem_cons_zero, Act.put, List.setIfInBounds_toArray, List.set_cons_zero, List.set_cons_succ]
      refine wpAnyH_ready (rs := [13, 19]) (by kernel_rfl) (by simp) ?_
      refine AllReadyH.cons rfl (fun K_ hK => ?_) (AllReadyH.cons rfl (fun K_ hK => ?_) AllReadyH.nil)
      · go_simp
        refine (QQ.out wr.drew t6d).mono ?_
        rintro e' w8 ⟨b8, rfl⟩
        have bk8 : w8.cell? ⟨g4, kk, none⟩ = some (.string bs) := (b8.cell (p := ⟨g4, kk, none⟩) hgd).trans bk6d
        have t8 := (t6d : Below g w _).trans (b8.mono (SZ.out _ t6d))
        refine hK.out _ _ bk8 (fun hHeld => ?_)
        clear hK K_
        unfold cfg0
        try simp only [List.getElem_toArray, List.getElem_cons_succ, List.getElem_cons_zero, Act.put, List.setIfInBounds_toArray, List.set_cons_zero, List.set_cons_succ]
        refine wpAnyH_take (i := 14) (v := ?_) rfl (by kernel_rfl) (by kernel_rfl) (by kernel_rfl) CalmP.onlyN_panic (Or.inl ⟨by kernel_rfl, ?_⟩) (by assumption) ?_
        rotate_left
        · (intro w_ hSw; go_simp; try with_reducible rfl)
        try simp only [List.getElem_toArray, List.getElem_cons_succ, List.getElem_cons_zero, Act.put, List.setIfInBounds_toArray, List.set_cons_zero, List.set_cons_succ]
        refine wpAnyH_take (i := 15) (v := ?_) rfl (by kernel_rfl) (by kernel_rfl) (by kernel_rfl) CalmP.onlyN_panic (Or.inl ⟨by kernel_rfl, ?_⟩) (by assumption) ?_
        rotate_left
        · (intro w_ hSw; go_simp; try with_reducible rfl)
        try simp only [List.getElem_toArray, List.getElem_cons_succ, List.getElem_cons_zero, Act.put, List.setIfInBounds_toArray, List.set_cons_zero, List.set_cons_succ]
        refine wpAnyH_take (i := 16) (v := ?_) rfl (by kernel_rfl) (by kernel_rfl) (by kernel_rfl) CalmP.onlyN_panic (Or.inl ⟨by kernel_rfl, ?_⟩) (by assumption) ?_
        rotate_left
        · (intro w_ hSw; go_simp; try with_reducible rfl)
        try simp only [List.getElem_toArray, List.getElem_cons_succ, List.getElem_cons_zero, Act.put, List.setIfInBounds_toArray, List.set_cons_zero, List.set_cons_succ]
        refine wpAnyH_take (i := 17) (v := ?_) rfl (by kernel_rfl) (by kernel_rfl) (by kernel_rfl) CalmP.onlyN_panic (Or.inl ⟨by kernel_rfl, ?_⟩) (by assumption) ?_
        rotate_left
        · (intro w_ hSw; go_simp; try with_reducible rfl)
        try simp only [List.getElem_toArray, List.getElem_cons_succ, List.getElem_cons_zero, Act.put, List.setIfInBounds_toArray, List.set_cons_zero, List.set_cons_succ]
        refine wpAnyH_take (i := 18) (v := ?_) rfl (by kernel_rfl) (by kernel_rfl) (by kernel_rfl) CalmP.onlyN_panic (Or.inl ⟨by kernel_rfl, ?_⟩) (by assumption) ?_
        rotate_left
        · (intro w_ hSw; go_simp; try with_reducible rfl)
        try simp only [List.getElem_toArray, List.getElem_cons_succ, List.getElem_cons_zero, Act.put, List.setIfInBounds_toArray, List.set_cons_zero, List.set_cons_succ]
        have bz := Box.new w8 #[.slice none 0 0, .slice none 0 0, .int .i64 0, .int .i64 0, .int .i64 0, .int .i64 0, .int .i64 0] 25
        have b9 : Below w8.heap.size w8 (w8.alloc (.cells #[.slice none 0 0, .slice none 0 0, .int .i64 0, .int .i64 0, .int .i64 0, .int .i64 0, .int .i64 0] 25)) := (Below.refl _ _).alloc (Nat.le_refl _) _
        obtain ⟨gz, hgz⟩ : ∃ n, w8.heap.size = n := ⟨_, rfl⟩
        have hgg : g ≤ gz := hgz ▸ SZ.out _ t8
        have hgzl : g4 < gz := hgz ▸ (Nat.lt_of_lt_of_le hgd b8.size)
        rw [hgz] at bz
        refine wpAnyH_ready (rs := [19]) (by kernel_rfl) (by simp) ?_
        refine AllReadyH.cons rfl (fun K_ hK => ?_) AllReadyH.nil
        go_simp
        have bk9 := (b9.cell (p := ⟨g4, kk, none⟩) (Nat.lt_of_lt_of_le hgd b8.size)).trans bk8
        refine hK.out _ _ bk9 (fun hHeld => ?_)
        clear hK K_
        generalize w8.alloc _ = w9 at bz b9 bk9 ⊢
        have t9 := t8.trans (b9.mono (SZ.out _ t8))
        try simp only [List.getElem_toArray, List.getElem_cons_succ, List.getElem_cons_zero, Act.put, List.setIfInBounds_toArray, List.set_cons_zero, List.set_cons_succ]
        obtain ⟨z0, y0⟩ := bz.2 0 _ rfl
        obtain ⟨z1, y1⟩ := bz.2 1 _ rfl
        obtain ⟨z2, y2⟩ := bz.2 2 _ rfl
        obtain ⟨z3, y3⟩ := bz.2 3 _ rfl
        obtain ⟨z4, y4⟩ := bz.2 4 _ rfl
        obtain ⟨z5, y5⟩ := bz.2 5 _ rfl
        obtain ⟨z6, y6⟩ := bz.2 6 _ rfl
        refine wpAnyH_ready (rs := [20]) (by kernel_rfl) (by simp) ?_
        refine AllReadyH.cons rfl (fun K_ hK => ?_) AllReadyH.nil
        go_simp
        have b10 : Below gz w9 (((((((w9.setCell ⟨gz, 0, none⟩ (.slice none 0 0)).setCell ⟨gz, 1, none⟩ (.slice none 0 0)).setCell ⟨gz, 2, none⟩ (.int .i64 0)).setCell ⟨gz, 3, none⟩ (.int .i64 0)).setCell ⟨gz, 4, none⟩ (.int .i64 0)).setCell ⟨gz, 5, none⟩ (.int .i64 0)).setCell ⟨gz, 6, none⟩ (.int .i64 0)) :=
          (((((((Below.refl gz w9).setCell (Nat.le_refl _) _).setCell (Nat.le_refl _) _).setCell (Nat.le_refl _) _).setCell (Nat.le_refl _) _).setCell (Nat.le_refl _) _).setCell (Nat.le_refl _) _).setCell (Nat.le_refl _) _
        have bk10 := (b10.cell (p := ⟨g4, kk, none⟩) hgzl).trans bk9
        refine hK.out _ _ bk10 (fun hHeld => ?_)
        clear hK K_
        generalize (World.setCell _ ⟨gz, 6, none⟩ _) = w10 at b10 bk10 ⊢
        have t10 := t9.trans (b10.mono hgg)
        clear z0 z1 z2 z3 z4 z5 z6 y0 y1 y2 y3 y4 y5 y6
        try simp only [List.getElem_toArray, List.getElem_cons_succ, List.getElem_cons_zero, Act.put, List.setIfInBounds_toArray, List.set_cons_zero, List.set_cons_succ]
        refine wpAnyH_ready (rs := [21]) (by kernel_rfl) (by simp) ?_
        refine AllReadyH.cons rfl (fun K_ hK => ?_) AllReadyH.nil
        go_simp
        refine hK.out _ _ bk10 (fun hHeld => ?_)
        clear hK K_
        try simp only [List.getElem_toArray, List.getElem_cons_succ, List.getElem_cons_zero, Act.put, List.setIfInBounds_toArray, List.set_cons_zero, List.set_cons_succ]
        refine wpAnyH_ready (rs := [22]) (by kernel_rfl) (by simp) ?_
        refine AllReadyH.cons rfl (fun K_ hK => ?_) AllReadyH.nil
        go_simp
        refine hK.out _ _ bk10 (fun hHeld => ?_)
        clear hK K_
        try simp only [List.getElem_toArray, List.getElem_cons_succ, List.getElem_cons_zero, Act.put, List.setIfInBounds_toArray, List.set_cons_zero, List.set_cons_succ]
        refine wpAnyH_ready (rs := [23]) (by kernel_rfl) (by simp) ?_
        refine AllReadyH.cons rfl (fun K_ hK => ?_) AllReadyH.nil
        go_simp
        refine hK.out _ _ bk10 (fun hHeld => ?_)
        clear hK K_
        try simp only [List.getElem_toArray, List.getElem_cons_succ, List.getElem_cons_zero, Act.put, List.setIfInBounds_toArray, List.set_cons_zero, List.set_cons_succ]
        refine wpAnyH_done (by kernel_rfl) ?_ _
        refine CalmP.onlyN_here (hQ.out _ _ ?_)
        clear hQ K0
        clear hk hlt hlt' hwr hwt hki
        go_wp2_with fail
        go_ret
        exact ⟨rfl, t10⟩
      · have bz := Box.new wr #[.slice none 0 0, .slice none 0 0, .int .i64 0, .int .i64 0, .int .i64 0, .int .i64 0, .int .i64 0] 25
        have b9 : Below wr.heap.size wr (wr.alloc (.cells #[.slice none 0 0, .slice none 0 0, .int .i64 0, .int .i64 0, .int .i64 0, .int .i64 0, .int .i64 0] 25)) := (Below.refl _ _).alloc (Nat.le_refl _) _
        obtain ⟨gz, hgz⟩ : ∃ n, wr.heap.size = n := ⟨_, rfl⟩
        have hgg : g ≤ gz := hgz ▸ SZ.out _ t6
        have hgzl : g4 < gz := hgz ▸ hg4r
        rw [hgz] at bz
        go_simp
        have bk7 := (b9.cell (p := ⟨g4, kk, none⟩) hg4r).trans bk6
        refine hK.out _ _ bk7 (fun hHeld => ?_)
        clear hK K_
        generalize wr.alloc _ = w6 at bz b9 bk7 ⊢
        obtain ⟨w7, hw7, b67⟩ : ∃ W, W = w6.drew ∧ Below w6.heap.size w6 W := ⟨_, rfl, below_drewN (k := 1) (Below.refl _ _)⟩
        have bk7d := (b67.cell (p := ⟨g4, kk, none⟩) (Nat.lt_of_lt_of_le hg4r b9.size)).trans bk7
        have bzd := bz.below b67
        have t66 := t6.trans (b9.mono (SZ.out _ t6))
        have t7 := t66.trans (b67.mono (SZ.out _ t66))
        have hg7 : g4 < w7.heap.size := Nat.lt_of_lt_of_le (Nat.lt_of_lt_of_le hg4r b9.size) b67.size
        try simp only [List.getElem_toArray, List.getElem_cons_succ, List.getElem_cons_zero, Act.put, List.setIfInBounds_toArray, List.set_cons_zero, List.set_cons_succ]
        refine wpAnyH_ready (rs := [13]) (by kernel_rfl) (by simp) ?_
        refine AllReadyH.cons rfl (fun K_ hK => ?_) AllReadyH.nil
        go_simp
        rw [← hw7]
        refine (QQ.out w7 t7).mono ?_
        rintro e' w8 ⟨b8, rfl⟩
        have bk8 : w8.cell? ⟨g4, kk, none⟩ = some (.string bs) := (b8.cell (p := ⟨g4, kk, none⟩) hg7).trans bk7d
        have t8 := (t7 : Below g w _).trans (b8.mono (SZ.out _ t7))
        have bz8 := bzd.below b8
        have t9 := t8
        refine hK.out _ _ bk8 (fun hHeld => ?_)
        clear hK K_
        unfold cfg0
        try simp only [List.getElem_toArray, List.getElem_cons_succ, List.getElem_cons_zero, Act.put, List.setIfInBounds_toArray, List.set_cons_zero, List.set_cons_succ]
        refine wpAnyH_take (i := 14) (v := ?_) rfl (by kernel_rfl) (by kernel_rfl) (by kernel_rfl) CalmP.onlyN_panic (Or.inl ⟨by kernel_rfl, ?_⟩) (by assumption) ?_
        rotate_left
        · (intro w_ hSw; go_simp; try with_reducible rfl)
        try simp only [List.getElem_toArray, List.getElem_cons_succ, List.getElem_cons_zero, Act.put, List.setIfInBounds_toArray, List.set_cons_zero, List.set_cons_succ]
        refine wpAnyH_take (i := 15) (v := ?_) rfl (by kernel_rfl) (by kernel_rfl) (by kernel_rfl) CalmP.onlyN_panic (Or.inl ⟨by kernel_rfl, ?_⟩) (by assumption) ?_
        rotate_left
        · (intro w_ hSw; go_simp; try with_reducible rfl)
        try simp only [List.getElem_toArray, List.getElem_cons_succ, List.getElem_cons_zero, Act.put, List.setIfInBounds_toArray, List.set_cons_zero, List.set_cons_succ]
        refine wpAnyH_take (i := 16) (v := ?_) rfl (by kernel_rfl) (by kernel_rfl) (by kernel_rfl) CalmP.onlyN_panic (Or.inl ⟨by kernel_rfl, ?_⟩) (by assumption) ?_
        rotate_left
        · (intro w_ hSw; go_simp; try with_reducible rfl)
        try simp only [List.getElem_toArray, List.getElem_cons_succ, List.getElem_cons_zero, Act.put, List.setIfInBounds_toArray, List.set_cons_zero, List.set_cons_succ]
        refine wpAnyH_take (i := 17) (v := ?_) rfl (by kernel_rfl) (by kernel_rfl) (by kernel_rfl) CalmP.onlyN_panic (Or.inl ⟨by kernel_rfl, ?_⟩) (by assumption) ?_
        rotate_left
        · (intro w_ hSw; go_simp; try with_reducible rfl)
        try simp only [List.getElem_toArray, List.getElem_cons_succ, List.getElem_cons_zero, Act.put, List.setIfInBounds_toArray, List.set_cons_zero, List.set_cons_succ]
        refine wpAnyH_take (i := 18) (v := ?_) rfl (by kernel_rfl) (by kernel_rfl) (by kernel_rfl) CalmP.onlyN_panic (Or.inl ⟨by kernel_rfl, ?_⟩) (by assumption) ?_
        rotate_left
        · (intro w_ hSw; go_simp; try with_reducible rfl)
        try simp only [List.getElem_toArray, List.getElem_cons_succ, List.getElem_cons_zero, Act.put, List.setIfInBounds_toArray, List.set_cons_zero, List.set_cons_succ]
        obtain ⟨z0, y0⟩ := bz8.2 0 _ rfl
        obtain ⟨z1, y1⟩ := bz8.2 1 _ rfl
        obtain ⟨z2, y2⟩ := bz8.2 2 _ rfl
        obtain ⟨z3, y3⟩ := bz8.2 3 _ rfl
        obtain ⟨z4, y4⟩ := bz8.2 4 _ rfl
        obtain ⟨z5, y5⟩ := bz8.2 5 _ rfl
        obtain ⟨z6, y6⟩ := bz8.2 6 _ rfl
        refine wpAnyH_ready (rs := [20]) (by kernel_rfl) (by simp) ?_
        refine AllReadyH.cons rfl (fun K_ hK => ?_) AllReadyH.nil
        go_simp
        have b10 : Below gz w8 (((((((w8.setCell ⟨gz, 0, none⟩ (.slice none 0 0)).setCell ⟨gz, 1, none⟩ (.slice none 0 0)).setCell ⟨gz, 2, none⟩ (.int .i64 0)).setCell ⟨gz, 3, none⟩ (.int .i64 0)).setCell ⟨gz, 4, none⟩ (.int .i64 0)).setCell ⟨gz, 5, none⟩ (.int .i64 0)).setCell ⟨gz, 6, none⟩ (.int .i64 0)) :=
          (((((((Below.refl gz w8).setCell (Nat.le_refl _) _).setCell (Nat.le_refl _) _).setCell (Nat.le_refl _) _).setCell (Nat.le_refl _) _).setCell (Nat.le_refl _) _).setCell (Nat.le_refl _) _).setCell (Nat.le_refl _) _
        have bk10 := (b10.cell (p := ⟨g4, kk, none⟩) hgzl).trans bk8
        refine hK.out _ _ bk10 (fun hHeld => ?_)
        clear hK K_
        generalize (World.setCell _ ⟨gz, 6, none⟩ _) = w10 at b10 bk10 ⊢
        have t10 := t9.trans (b10.mono hgg)
        clear z0 z1 z2 z3 z4 z5 z6 y0 y1 y2 y3 y4 y5 y6
        try simp only [List.getElem_toArray, List.getElem_cons_succ, List.getElem_cons_zero, Act.put, List.setIfInBounds_toArray, List.set_cons_zero, List.set_cons_succ]
        refine wpAnyH_ready (rs := [21]) (by kernel_rfl) (by simp) ?_
        refine AllReadyH.cons rfl (fun K_ hK => ?_) AllReadyH.nil
        go_simp
        refine hK.out _ _ bk10 (fun hHeld => ?_)
        clear hK K_
        try simp only [List.getElem_toArray, List.getElem_cons_succ, List.getElem_cons_zero, Act.put, List.setIfInBounds_toArray, List.set_cons_zero, List.set_cons_succ]
        refine wpAnyH_ready (rs := [22]) (by kernel_rfl) (by simp) ?_
        refine AllReadyH.cons rfl (fun K_ hK => ?_) AllReadyH.nil
        go_simp
        refine hK.out _ _ bk10 (fun hHeld => ?_)
        clear hK K_
        try simp only [List.getElem_toArray, List.getElem_cons_succ, List.getElem_cons_zero, Act.put, List.setIfInBounds_toArray, List.set_cons_zero, List.set_cons_succ]
        refine wpAnyH_ready (rs := [23]) (by kernel_rfl) (by simp) ?_
        refine AllReadyH.cons rfl (fun K_ hK => ?_) AllReadyH.nil
        go_simp
        refine hK.out _ _ bk10 (fun hHeld => ?_)
        clear hK K_
        try simp only [List.getElem_toArray, List.getElem_cons_succ, List.getElem_cons_zero, Act.put, List.setIfInBounds_toArray, List.set_cons_zero, List.set_cons_succ]
        refine wpAnyH_done (by kernel_rfl) ?_ _
        refine CalmP.onlyN_here (hQ.out _ _ ?_)
        clear hQ K0
        clear hk hlt hlt' hwr hwt hki
        go_wp2_with fail
        go_ret
        exact ⟨rfl, t10⟩
/-- The settled world that the card begins from. -/
noncomputable def laidWorld (os : Os) : World := laidWorld7 os
end Go.Proofs.YtbgbggodjhbgbaaDoor.ScriptWrongP
