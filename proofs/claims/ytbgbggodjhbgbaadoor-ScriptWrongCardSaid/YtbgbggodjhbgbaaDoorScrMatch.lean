/- What is read, as arguments again; law 27's answers. -/
import Derived.Test.YtbgbggodjhbgbaaDoorScrPrint
import Derived.Test.YtbgbggodjhbgbaaDoorScrParse
import Derived.Test.YtbgbggodjhbgbaaDoorAlloc
import Derived.Lib.SlBytesConst
namespace Go.Proofs.YtbgbggodjhbgbaaDoor
open Go.RowKit
set_option linter.unusedVariables false
set_option linter.unusedSimpArgs false

def rtI (r : List UInt8 × List UInt8 × Nat) : RtI := (r.1, r.2.1, (r.2.2 : Int))
def acI (a : Nat × Nat × Nat × List UInt8) : AcI := ((a.1 : Int), (a.2.1 : Int), (a.2.2.1 : Int), a.2.2.2)
theorem rcells_I (l : List (List UInt8 × List UInt8 × Nat)) : rcellsI (l.map rtI) = rcells l := by
  unfold rcellsI rcells
  rw [List.flatMap_map]; rfl
theorem acells_I : ∀ (l : List (Nat × Nat × Nat × List UInt8)) (ps : List Pl), acellsI (l.map acI) ps = acells l ps
  | [], _ => by simp [acellsI, acells]
  | _ :: _, [] => by simp [acellsI, acells]
  | a :: l, p :: ps => by simp only [List.map_cons, acellsI, acells, acells_I l ps]; rfl
theorem match_of_rows {w : World} {f : Nat} {F : Scr.Fl} {vR vT vA : Value} {ps : List Pl} (h : Rows w f F vR vT vA ps) :
    ∃ (C : CfgA) (S : ActA), C.In w w.heap.size ∧ S.In w w.heap.size ∧ C.val = cfgV F vR vT ∧ S.val = vA ∧ Match C S F ∧ C.nR = F.rts.length ∧ C.nT = F.tys.length ∧ S.n = F.acs.length := by
  obtain ⟨oR, oT, oA, -, -, ds⟩ := h
  obtain ⟨AR, cR, rfl, -, -⟩ := oR.shape
  obtain ⟨AT, cT, rfl, -, -⟩ := oT.shape
  obtain ⟨AA, cA, rfl, -, -⟩ := oA.shape
  refine ⟨⟨AR, F.rts.length, cR, AT, F.tys.length, cT, F.a, F.b, F.c, F.d, F.e, F.rts.map rtI, F.tys⟩, ⟨AA, F.acs.length, cA, F.acs.map acI, ps⟩, ⟨?_, oT.rd⟩, ⟨?_, by simp [ds.1], fun i h1 h2 => ?_⟩, rfl, rfl, ⟨rfl, rfl, rfl, rfl, rfl, rfl, rfl, rfl⟩, rfl, rfl, rfl⟩
  · rw [rcells_I]; exact oR.rd
  · rw [acells_I]; exact oA.rd
  · have hi : i < F.acs.length := by simpa using h1
    obtain ⟨-, -, k3, k4⟩ := ds.2 i hi h2
    simp only [List.getElem_map]
    exact k3
def lnW : Scr.Ln → Nat
  | .cfg .. => 0
  | .rt h p _ => h.length + p.length
  | .ty t => t.length
  | .ac _ _ _ d => d.length
theorem lnW_le (L : Scr.Ln) : lnW L ≤ L.text.length := by
  cases L with
  | cfg a b c d e => exact Nat.zero_le _
  | rt h p u => rw [scr_rtT]; simp only [lnW, List.length_append, List.length_cons, hexL_len]; omega
  | ty t => rw [scr_tyT]; simp only [lnW, List.length_append, List.length_cons, hexL_len]; omega
  | ac k c n d => rw [scr_acT]; simp only [lnW, List.length_append, List.length_cons, hexL_len]; omega
theorem lnW_sum (Ls : List Scr.Ln) : (Ls.map lnW).sum ≤ (Scr.linesT Ls).length := by
  induction Ls with
  | nil => exact Nat.le_refl _
  | cons L r ih =>
    have := lnW_le L
    rw [Scr.linesT]; simp only [List.map_cons, List.sum_cons, List.length_append, List.length_cons]; omega
theorem lnW_lines (F : Scr.Fl) : totR (F.rts.map rtI) + totT F.tys + totA (F.acs.map acI) = (F.lines.map lnW).sum := by
  rw [lines_is]
  unfold totR totT totA
  simp only [List.map_cons, List.map_append, List.map_map, List.sum_cons, List.sum_append]
  have e0 : lnW (cfgL F) = 0 := rfl
  rw [e0]
  show (F.rts.map _).sum + (F.tys.map _).sum + (F.acs.map _).sum = 0 + ((F.rts.map _).sum + ((F.tys.map _).sum + (F.acs.map _).sum))
  rw [Nat.zero_add, Nat.add_assoc]
  rfl
theorem lines_count (F : Scr.Fl) : F.lines.length = 1 + (F.rts.length + (F.tys.length + F.acs.length)) := by
  rw [lines_is]; simp only [List.length_cons, List.length_append, List.length_map]; omega
theorem lines_lenT (Ls : List Scr.Ln) : Ls.length ≤ (Scr.linesT Ls).length := by
  induction Ls with
  | nil => exact Nat.le_refl _
  | cons L r ih => rw [Scr.linesT]; simp only [List.length_append, List.length_cons]; omega
/-- What Match asks, from the text's length. -/
theorem Match.small {C : CfgA} {S : ActA} {F : Scr.Fl} {k : Nat} (M : Match C S F) (h : (Scr.linesT F.lines).length ≤ k) : totR C.rs + totT C.ts + totA S.al ≤ k := by
  have h1 := lnW_lines F
  have h2 := lnW_sum F.lines
  rw [M.rs, M.ts, M.al]
  show totR (F.rts.map rtI) + totT F.tys + totA (F.acs.map acI) ≤ k
  omega
theorem al_1 (w : World) (o : Obj) : (w.alloc o).heap.size = w.heap.size + 1 := by simp
def ansF : Scr.Fl := ⟨6, 0, 0, 0, 0, [], [], [(2, 0, 0, [97])]⟩
theorem ansF_text : Scr.linesT ansF.lines = [99, 111, 110, 102, 105, 103, 32, 54, 32, 48, 32, 48, 32, 48, 32, 48, 10, 97, 99, 116, 32, 50, 32, 48, 32, 48, 32, 120, 54, 49, 10] := by
  simp only [lines_is, ansF, List.map_nil, List.map_cons, List.nil_append, Scr.linesT, cfgL, acL, scr_cfgT, scr_acT]
  decide +kernel
set_option maxRecDepth 100000 in
set_option maxHeartbeats 1600000 in
theorem scrans_any (w : World) (hG : ∀ W, Below w.heap.size w W → Glo W) :
    Calls Tryd.prog 6 #[] w fun e w' => e = .returned (.bool true) ∧ Below w.heap.size w w' := by
  obtain ⟨g, hg⟩ : ∃ g, w.heap.size = g := ⟨_, rfl⟩
  obtain ⟨w1, hw1⟩ : ∃ w1, w1 = w.alloc (.cells #[.int .u8 97] 5 (1, 2)) := ⟨_, rfl⟩
  have hg1 : w1.heap.size = g + 1 := by rw [hw1, al_1, hg]
  obtain ⟨w2, hw2⟩ : ∃ w2, w2 = w1.alloc (.cells #[.int .i64 2, .int .i64 0, .int .i64 0, .slice (some ⟨g, 0, none⟩) 1 1] 40) := ⟨_, rfl⟩
  have hg2 : w2.heap.size = g + 2 := by rw [hw2, al_1, hg1]
  have b1 : Below g w w1 := hw1 ▸ (Below.refl g w).alloc (Nat.le_of_eq hg.symm) _
  have b2 : Below (g + 1) w1 w2 := hw2 ▸ (Below.refl (g + 1) w1).alloc (Nat.le_of_eq hg1.symm) _
  have b12 : Below g w w2 := b1.trans (b2.mono (Nat.le_succ g))
  have rd1 : Rd w1 (g + 1) 1 (some ⟨g, 0, none⟩) 1 (bcells [97]) := by
    refine ⟨rfl, .inr ⟨_, rfl, Nat.lt_succ_self g, fun j u hu => ?_⟩⟩
    rw [← hg, hw1, Addr.add_lit, Nat.zero_add, cell_of_row _ w.heap.size _ _ _ (1, 2) (heap_alloc_new w _)]
    have hu' : [Value.int IntKind.u8 97][j]? = some u := hu
    simpa using hu'
  have kc := Lib.run_convert_bytes_const (P := Tryd.prog) w 38 5 #[.int .u8 97] 1 1 Tryd.underlying38 Tryd.underlying5
  change (convert 38 38 _).run Tryd.prog _ = .ok _ (w.alloc (.cells #[.int .u8 97] 5 (1, 2))) at kc
  rw [← hw1, hg] at kc
  have rd2 : Rd w2 (g + 2) 4 (some ⟨g + 1, 0, none⟩) 1 (acellsI [((2 : Int), (0 : Int), (0 : Int), [97])] [((some ⟨g, 0, none⟩ : Option Addr), 1)]) := by
    rw [hw2, ← hg1]; rw [show g + 2 = w1.heap.size + 1 by omega]
    exact rd_new w1 #[.int .i64 2, .int .i64 0, .int .i64 0, .slice (some ⟨g, 0, none⟩) 1 1] 40 4 1 rfl
  have pr := scrprint_any ⟨none, 0, 0, none, 0, 0, 6, 0, 0, 0, 0, [], []⟩ ⟨some ⟨g + 1, 0, none⟩, 1, 1, [((2 : Int), (0 : Int), (0 : Int), [97])], [((some ⟨g, 0, none⟩ : Option Addr), 1)]⟩ ansF w2 (g + 2) ⟨Rd.nil_, Rd.nil_⟩
    ⟨rd2, rfl, fun i h1 h2 => by
      obtain rfl : i = 0 := by simpa using h1
      exact (rd1.below b2).mono (by omega)⟩ (Nat.le_of_eq hg2.symm) ⟨by simp, by simp, by simp⟩ (by simp [totR, totT, totA]) ⟨rfl, rfl, rfl, rfl, rfl, rfl, rfl, rfl⟩
    (by intro L hL; simp [Scr.Fl.lines, ansF] at hL; rcases hL with rfl | rfl <;> simp [Scr.Ln.fit, Scr.maxI]) (by rw [ansF_text]; decide) (fun W hb => hG W (b12.mono (Nat.le_of_eq hg.symm.symm) |>.trans (hb.mono (by omega))))
  rw [ansF_text] at pr
  simp only [CfgA.val, ActA.val] at pr
  have PR := hide pr
  have HW := hide (And.intro hw1 hw2)
  clear pr rd1 rd2 b1 b2 hG hw1 hw2
  go_enter Tryd.func6, Tryd.ntmps6
  go_wp2_with fail
  rw [← HW.out.2]
  refine PR.out.mono ?_
  rintro e' w3 ⟨rfl, b3⟩
  go_wp2_with fail
  go_ret
  exact ⟨rfl, hg ▸ b12.trans (b3.mono (by omega))⟩
end Go.Proofs.YtbgbggodjhbgbaaDoor
