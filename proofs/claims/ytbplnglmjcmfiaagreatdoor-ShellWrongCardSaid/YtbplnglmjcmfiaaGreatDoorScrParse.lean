/- script.Parse. -/
import Derived.Test.YtbplnglmjcmfiaaGreatDoorScrLine
import Derived.Test.YtbplnglmjcmfiaaGreatDoorCut
import Derived.Deep.CutRange
import Derived.Deep.DeepCutAuto
import Derived.Deep.CutBlock
namespace Go.Proofs.YtbplnglmjcmfiaaGreatDoor
open Go.RowKit
set_option linter.unusedVariables false
set_option linter.unusedSimpArgs false

theorem cutNl_is : ∀ (t : List UInt8), Scr.cutNl t = (cutHead 10 t, cutTail 10 t, cutHas 10 t)
  | [] => by rfl
  | c :: r => by
    have ih := cutNl_is r
    rw [Scr.cutNl]
    unfold cutTail cutHas
    rw [cutHead_cons]
    by_cases h : c = 10
    · subst h; simp
    · have h2 : (c == 10) = false := by simpa using h
      rw [if_neg h, ih, h2]
      unfold cutTail cutHas
      simp
theorem results_cfg {fn : Func} {p a b c : Tmp} (h : fn.results = #[.cell p 42, .tmp a, .tmp b, .tmp c]) (tmps : Array Value) (w : World) (g : Nat) (x0 x1 x2 x3 x4 x5 x6 y z e : Value) (hb : Box w g [x0, x1, x2, x3, x4, x5, x6])
    (hp : tmps.getD p undef = .pointer (some ⟨g, 0, none⟩)) (ha : tmps.getD a undef = y) (hb2 : tmps.getD b undef = z) (hc : tmps.getD c undef = e) :
    (results fn tmps).run Tryz.prog w = .ok (.tuple #[.agg #[x0, x1, x2, x3, x4, x5, x6], y, z, e]) w := by
  have hp' : tmps[p]?.getD undef = .pointer (some ⟨g, 0, none⟩) := by simpa using hp
  have ha' : tmps[a]?.getD undef = y := by simpa using ha
  have hb' : tmps[b]?.getD undef = z := by simpa using hb2
  have hc' : tmps[c]?.getD undef = e := by simpa using hc
  have k0 := (hb.2 0 _ rfl).1
  have k1 := (hb.2 1 _ rfl).1
  have k2 := (hb.2 2 _ rfl).1
  have k3 := (hb.2 3 _ rfl).1
  have k4 := (hb.2 4 _ rfl).1
  have k5 := (hb.2 5 _ rfl).1
  have k6 := (hb.2 6 _ rfl).1
  simp [results, h, hp', ha', hb', hc', go_sem, k0, k1, k2, k3, k4, k5, k6]
theorem fileOf_small (Ls : List Scr.Ln) : (Scr.fileOf Ls).rts.length ≤ Ls.length ∧ (Scr.fileOf Ls).tys.length ≤ Ls.length ∧ (Scr.fileOf Ls).acs.length ≤ Ls.length := by
  suffices h : ∀ (Ls : List Scr.Ln) (F : Scr.Fl), (Ls.foldl Scr.Fl.put F).rts.length ≤ F.rts.length + Ls.length ∧ (Ls.foldl Scr.Fl.put F).tys.length ≤ F.tys.length + Ls.length ∧ (Ls.foldl Scr.Fl.put F).acs.length ≤ F.acs.length + Ls.length by
    have := h Ls Scr.Fl.zero
    simpa [Scr.fileOf, Scr.Fl.zero] using this
  intro Ls
  induction Ls with
  | nil => intro F; simp
  | cons L r ih =>
    intro F
    have := ih (F.put L)
    rw [List.foldl_cons]
    cases L <;> (simp only [Scr.Fl.put, List.length_append, List.length_cons, List.length_nil] at this ⊢; omega)
theorem Dats.old {w w' : World} {f g : Nat} {S : List (Option Nat)} {al : List (Nat × Nat × Nat × List UInt8)} {ps : List Pl} (h : Dats w f S al ps) (hg : w.grownBy w' (some g)) (hgf : g < f) : Dats w' f S al ps := by
  refine ⟨h.1, fun i h1 h2 => ?_⟩
  obtain ⟨k1, k2, k3, k4⟩ := h.2 i h1 h2
  refine ⟨k1, k2, ⟨k3.1, k3.2.imp id ?_⟩, fun a ha => ⟨(k4 a ha).1, Nat.lt_of_lt_of_le (k4 a ha).2.1 hg.size, (k4 a ha).2.2⟩⟩
  rintro ⟨a, ha, hb, hc⟩
  obtain ⟨g1, -, g2⟩ := k4 a ha
  refine ⟨a, ha, Nat.lt_of_lt_of_le hb hg.size, fun j u hu => ?_⟩
  have hbk : w'.heap[(a.add j).block]? = w.heap[(a.add j).block]? := by rw [addr_add_block]; exact hg.block _ hb (fun e => by have := Option.some.inj e; omega)
  rw [World.cell?_of_block hbk]
  exact hc j u hu
theorem Rows.old {w w' : World} {f g : Nat} {F : Scr.Fl} {vR vT vA : Value} {ps : List Pl} (h : Rows w f F vR vT vA ps) (hg : w.grownBy w' (some g)) (hgf : g < f) : Rows w' f F vR vT vA ps := by
  obtain ⟨oR, oT, oA, d1, d2, ds⟩ := h
  have ap : ∀ {size n : Nat} {v : Value} {xs : List Value}, Ow w (f + 1) size v n xs → v.ownBlock = none ∨ v.ownBlock ≠ some g := fun {size n v xs} o => .inr fun e => by
    have := (o.lt g e).1; omega
  exact ⟨oR.kept hg (ap oR), oT.kept hg (ap oT), oA.kept hg (ap oA), d1, d2, ds.old hg hgf⟩
def fill7 (w : World) (g : Nat) (x0 x1 x2 x3 x4 x5 x6 : Value) : World := ((((((w.setCell ⟨g, 0, none⟩ x0).setCell ⟨g, 1, none⟩ x1).setCell ⟨g, 2, none⟩ x2).setCell ⟨g, 3, none⟩ x3).setCell ⟨g, 4, none⟩ x4).setCell ⟨g, 5, none⟩ x5).setCell ⟨g, 6, none⟩ x6
theorem Box.fill7_ {w : World} {g : Nat} {a b c d e p q : Value} (h : Box w g [a, b, c, d, e, p, q]) (x0 x1 x2 x3 x4 x5 x6 : Value) : Box (fill7 w g x0 x1 x2 x3 x4 x5 x6) g [x0, x1, x2, x3, x4, x5, x6] :=
  ((((((h.set (k := 0) (x := x0) (by simp)).set (k := 1) (x := x1) (by simp)).set (k := 2) (x := x2) (by simp)).set (k := 3) (x := x3) (by simp)).set (k := 4) (x := x4) (by simp)).set (k := 5) (x := x5) (by simp)).set (k := 6) (x := x6) (by simp)
theorem grown_fill7 (w : World) (g : Nat) (x0 x1 x2 x3 x4 x5 x6 : Value) : w.grownBy (fill7 w g x0 x1 x2 x3 x4 x5 x6) (some g) :=
  grown_set (grown_set (grown_set (grown_set (grown_set (grown_set (grown_set (World.grownBy.refl w (some g)) 0 x0) 1 x1) 2 x2) 3 x3) 4 x4) 5 x5) 6 x6
def cfgV (F : Scr.Fl) (vR vT : Value) : Value := .agg #[vR, vT, .int .i64 (F.a : Nat), .int .i64 (F.b : Nat), .int .i64 (F.c : Nat), .int .i64 (F.d : Nat), .int .i64 (F.e : Nat)]
def cfg0 : Value := .agg #[.slice none 0 0, .slice none 0 0, .int .i64 0, .int .i64 0, .int .i64 0, .int .i64 0, .int .i64 0]
def ParsePost (w : World) (text : List UInt8) (e : Ending) (w' : World) : Prop :=
  Below w.heap.size w w' ∧ ((∃ Ls vR vT vA ps f, Scr.parseL 0 1 [] text = .good Ls ∧ Ls.length ≤ text.length ∧ w.heap.size ≤ f ∧ e = .returned (.tuple #[cfgV (Scr.fileOf Ls) vR vT, vA, .int .i64 0, .int .i64 0]) ∧ Rows w' f (Scr.fileOf Ls) vR vT vA ps) ∨
    (∃ m : Nat, Scr.parseL 0 1 [] text = .bad m ∧ e = .returned (.tuple #[cfg0, .slice none 0 0, .int .i64 (m : Nat), .int .i64 9])))
set_option maxRecDepth 100000 in
set_option maxHeartbeats 6400000 in
theorem scrparse_any (text : ByteArray) (w : World) (hs : text.size ≤ 4194304) (hG : ∀ W, Below w.heap.size w W → Glo W) :
    Calls Tryz.prog 67 #[.string text] w (ParsePost w text.data.toList) := by
  obtain ⟨g, hg⟩ : ∃ g, w.heap.size = g := ⟨_, rfl⟩
  have bC := Box.new w #[.slice none 0 0, .slice none 0 0, .int .i64 0, .int .i64 0, .int .i64 0, .int .i64 0, .int .i64 0] 42
  rw [hg] at bC
  have b1 : Below g w (w.alloc (.cells #[.slice none 0 0, .slice none 0 0, .int .i64 0, .int .i64 0, .int .i64 0, .int .i64 0, .int .i64 0] 42)) := (Below.refl _ _).alloc (Nat.le_of_eq hg.symm) _
  have hs2 : ¬ (4194304 : Int) < (text.size : Int) := by omega
  have HG := hide hG
  clear hG
  go_enter Tryz.func67, Tryz.ntmps67
  go_upto_region 3 with (fail)
  generalize w.alloc (.cells #[.slice none 0 0, .slice none 0 0, .int .i64 0, .int .i64 0, .int .i64 0, .int .i64 0, .int .i64 0] 42) = w1 at bC b1 ⊢
  obtain ⟨f, hf⟩ : ∃ f, w1.heap.size = f := ⟨_, rfl⟩
  have hgf : g < f := by have := bC.1; omega
  have bF := Box.new w1 #[.slice none 0 0, .slice none 0 0, .int .i64 0, .int .i64 0, .int .i64 0, .int .i64 0, .int .i64 0, .slice none 0 0] 183
  rw [hf] at bF
  have tF : Below f w1 (w1.alloc (.cells #[.slice none 0 0, .slice none 0 0, .int .i64 0, .int .i64 0, .int .i64 0, .int .i64 0, .int .i64 0, .slice none 0 0] 183)) := (Below.refl _ _).alloc (Nat.le_of_eq hf.symm) _
  have bC2 := bC.below (by rw [hf]; exact tF)
  go_upto_region 4 with (fail)
  generalize w1.alloc (.cells #[.slice none 0 0, .slice none 0 0, .int .i64 0, .int .i64 0, .int .i64 0, .int .i64 0, .int .i64 0, .slice none 0 0] 183) = w2 at bF tF bC2 ⊢
  have f2 : IsFile w2 f (Scr.fileOf []) := ⟨.slice none 0 0, .slice none 0 0, .slice none 0 0, [], bF, Ow.nil_, Ow.nil_, Ow.nil_, (fun x e => by cases e), (fun x e => by cases e), rfl, fun i h1 => by cases h1⟩
  have b2 : Below g w w2 := b1.trans (tF.mono (Nat.le_of_lt hgf))
  clear bC bF tF b1
  go_upto_region 5 with (fail)
  go_wp2_with fail
  go_loopw [0, 7, 4] (fun tv lv nv wr => ∃ (t : List UInt8) (last n : Nat) (acc : List Scr.Ln), tv = .string ⟨t.toArray⟩ ∧ lv = .int .i64 (last : Nat) ∧ nv = .int .i64 (n : Nat) ∧ acc.length + t.length ≤ text.size ∧ n = acc.length + 1 ∧ last ≤ 4 ∧
    Scr.parseL 0 1 [] text.data.toList = Scr.parseL last n acc t ∧ IsFile wr f (Scr.fileOf acc) ∧ Below f w2 wr) (fun tv _ _ _ => match tv with | .string s => s.size | _ => 0)
  case atStart => exact ⟨text.data.toList, 0, 1, [], rfl, rfl, rfl, by rw [List.length_nil, Nat.zero_add, Array.length_toList]; exact Nat.le_refl _, rfl, by omega, rfl, f2, Below.refl _ _⟩
  case round =>
    obtain ⟨t, last, n, acc, rfl, rfl, rfl, hlen, hn, hl4, hp, hfile, hb⟩ := hrel
    have hbw : Below g w wr := b2.trans (hb.mono (Nat.le_of_lt hgf))
    have hbC : Box wr g [.slice none 0 0, .slice none 0 0, .int .i64 0, .int .i64 0, .int .i64 0, .int .i64 0, .int .i64 0] := by
      refine ⟨Nat.lt_of_lt_of_le bC2.1 hb.size, fun j u hu => ?_⟩
      have e : wr.heap[g]? = w2.heap[g]? := hb.block g hgf
      exact ⟨(World.cell?_of_block (a := ⟨g, j, none⟩) e).trans (bC2.2 j u hu).1, (World.frozen?_of_block (a := ⟨g, j, none⟩) e).trans (bC2.2 j u hu).2⟩
    clear bC2 f2
    by_cases hst : t = [] ∧ last ≠ 0
    · obtain ⟨rfl, hl0⟩ := hst
      rw [Scr.parseL_end hl0] at hp
      have e0 : ((last : Int) == 0) = false := by simp; omega
      obtain ⟨vR, vT, vA, ps, fb, rws⟩ := hfile
      obtain ⟨AR, cR, rfl, -, -⟩ := rws.1.shape
      obtain ⟨AT, cT, rfl, -, -⟩ := rws.2.1.shape
      obtain ⟨AA, cA, rfl, -, -⟩ := rws.2.2.1.shape
      obtain ⟨F, hF⟩ : ∃ F, F = Scr.fileOf acc := ⟨_, rfl⟩
      rw [← hF] at fb rws
      have HF := hide hF
      have HP := hide hp
      obtain ⟨nR, hnR⟩ : ∃ x, x = F.rts.length := ⟨_, rfl⟩
      obtain ⟨nT, hnT⟩ : ∃ x, x = F.tys.length := ⟨_, rfl⟩
      obtain ⟨nA, hnA⟩ : ∃ x, x = F.acs.length := ⟨_, rfl⟩
      obtain ⟨k0, -⟩ := fb.at_ 0 rfl
      obtain ⟨k1, -⟩ := fb.at_ 1 rfl
      obtain ⟨k2, -⟩ := fb.at_ 2 rfl
      obtain ⟨k3, -⟩ := fb.at_ 3 rfl
      obtain ⟨k4, -⟩ := fb.at_ 4 rfl
      obtain ⟨k5, -⟩ := fb.at_ 5 rfl
      obtain ⟨k6, -⟩ := fb.at_ 6 rfl
      obtain ⟨k7, -⟩ := fb.at_ 7 rfl
      rw [← hnR] at k0
      rw [← hnT] at k1
      rw [← hnA] at k7
      obtain ⟨za, hza⟩ : ∃ x, x = F.a := ⟨_, rfl⟩
      obtain ⟨zb, hzb⟩ : ∃ x, x = F.b := ⟨_, rfl⟩
      obtain ⟨zc, hzc⟩ : ∃ x, x = F.c := ⟨_, rfl⟩
      obtain ⟨zd, hzd⟩ : ∃ x, x = F.d := ⟨_, rfl⟩
      obtain ⟨ze, hze⟩ : ∃ x, x = F.e := ⟨_, rfl⟩
      rw [← hza] at k2
      rw [← hzb] at k3
      rw [← hzc] at k4
      rw [← hzd] at k5
      rw [← hze] at k6
      have HV := hide (show cfgV F (.slice AR F.rts.length cR) (.slice AT F.tys.length cT) = .agg #[.slice AR nR cR, .slice AT nT cT, .int .i64 (za : Nat), .int .i64 (zb : Nat), .int .i64 (zc : Nat), .int .i64 (zd : Nat), .int .i64 (ze : Nat)] by unfold cfgV; rw [← hnR, ← hnT, ← hza, ← hzb, ← hzc, ← hzd, ← hze])
      have HA := hide hnA
      obtain ⟨z0, y0⟩ := hbC.2 0 _ rfl
      obtain ⟨z1, y1⟩ := hbC.2 1 _ rfl
      obtain ⟨z2, y2⟩ := hbC.2 2 _ rfl
      obtain ⟨z3, y3⟩ := hbC.2 3 _ rfl
      obtain ⟨z4, y4⟩ := hbC.2 4 _ rfl
      obtain ⟨z5, y5⟩ := hbC.2 5 _ rfl
      obtain ⟨z6, y6⟩ := hbC.2 6 _ rfl
      clear hnR hnT hnA hza hzb hzc hzd hze fb hF hp hn
      go_upto_region 13 with (fail)
      refine CalmP.hideN (fun K0 hQ => ?_)
      refine wp_region_held_drew (S := (fun W : World => W.cell? ⟨f, 0, none⟩ = some (.slice AR nR cR) ∧ W.cell? ⟨f, 1, none⟩ = some (.slice AT nT cT) ∧ W.cell? ⟨f, 2, none⟩ = some (.int .i64 (za : Nat)) ∧ W.cell? ⟨f, 3, none⟩ = some (.int .i64 (zb : Nat)) ∧ W.cell? ⟨f, 4, none⟩ = some (.int .i64 (zc : Nat)) ∧ W.cell? ⟨f, 5, none⟩ = some (.int .i64 (zd : Nat)) ∧ W.cell? ⟨f, 6, none⟩ = some (.int .i64 (ze : Nat)) ∧ W.cell? ⟨f, 7, none⟩ = some (.slice AA nA cA))) (by kernel_rfl) ⟨k0, k1, k2, k3, k4, k5, k6, k7⟩ (fun hHeld => ?_)
      refine wpAnyH_take (i := 0) (v := ?_) rfl (by kernel_rfl) (by kernel_rfl) (by kernel_rfl) CalmP.onlyN_panic (Or.inl ⟨by kernel_rfl, ?_⟩) (by assumption) ?_
      rotate_left
      · (intro w_ hSw; obtain ⟨s0, s1, s2, s3, s4, s5, s6, s7⟩ := hSw; go_simp; try with_reducible rfl)
      try simp only [List.getElem_toArray, List.getElem_cons_succ, List.getElem_cons_zero, Act.put, List.setIfInBounds_toArray, List.set_cons_zero, List.set_cons_succ]
      refine wpAnyH_take (i := 1) (v := ?_) rfl (by kernel_rfl) (by kernel_rfl) (by kernel_rfl) CalmP.onlyN_panic (Or.inl ⟨by kernel_rfl, ?_⟩) (by assumption) ?_
      rotate_left
      · (intro w_ hSw; obtain ⟨s0, s1, s2, s3, s4, s5, s6, s7⟩ := hSw; go_simp; try with_reducible rfl)
      try simp only [List.getElem_toArray, List.getElem_cons_succ, List.getElem_cons_zero, Act.put, List.setIfInBounds_toArray, List.set_cons_zero, List.set_cons_succ]
      refine wpAnyH_take (i := 2) (v := ?_) rfl (by kernel_rfl) (by kernel_rfl) (by kernel_rfl) CalmP.onlyN_panic (Or.inl ⟨by kernel_rfl, ?_⟩) (by assumption) ?_
      rotate_left
      · (intro w_ hSw; obtain ⟨s0, s1, s2, s3, s4, s5, s6, s7⟩ := hSw; go_simp; try with_reducible rfl)
      try simp only [List.getElem_toArray, List.getElem_cons_succ, List.getElem_cons_zero, Act.put, List.setIfInBounds_toArray, List.set_cons_zero, List.set_cons_succ]
      refine wpAnyH_take (i := 3) (v := ?_) rfl (by kernel_rfl) (by kernel_rfl) (by kernel_rfl) CalmP.onlyN_panic (Or.inl ⟨by kernel_rfl, ?_⟩) (by assumption) ?_
      rotate_left
      · (intro w_ hSw; obtain ⟨s0, s1, s2, s3, s4, s5, s6, s7⟩ := hSw; go_simp; try with_reducible rfl)
      try simp only [List.getElem_toArray, List.getElem_cons_succ, List.getElem_cons_zero, Act.put, List.setIfInBounds_toArray, List.set_cons_zero, List.set_cons_succ]
      refine wpAnyH_ready (rs := [4]) (by kernel_rfl) (by simp) ?_
      refine AllReadyH.cons rfl (fun K_ hK => ?_) AllReadyH.nil
      go_simp
      have bxf := Box.fill7_ hbC (.slice AR nR cR) (.slice AT nT cT) (.int .i64 (za : Nat)) (.int .i64 (zb : Nat)) (.int .i64 (zc : Nat)) (.int .i64 (zd : Nat)) (.int .i64 (ze : Nat))
      have gf := grown_fill7 wr g (.slice AR nR cR) (.slice AT nT cT) (.int .i64 (za : Nat)) (.int .i64 (zb : Nat)) (.int .i64 (zc : Nat)) (.int .i64 (zd : Nat)) (.int .i64 (ze : Nat))
      show K_ _ (fill7 wr g (.slice AR nR cR) (.slice AT nT cT) (.int .i64 (za : Nat)) (.int .i64 (zb : Nat)) (.int .i64 (zc : Nat)) (.int .i64 (zd : Nat)) (.int .i64 (ze : Nat))).drew
      generalize fill7 wr g (.slice AR nR cR) (.slice AT nT cT) (.int .i64 (za : Nat)) (.int .i64 (zb : Nat)) (.int .i64 (zc : Nat)) (.int .i64 (zd : Nat)) (.int .i64 (ze : Nat)) = wf at bxf gf ⊢
      have td : Below wf.heap.size wf wf.drew := below_drewN (k := 1) (Below.refl _ _)
      have bx7 := bxf.below td
      have g7 : wr.grownBy wf.drew (some g) := grown_trans gf (grown_of_below td)
      clear bxf gf td
      generalize wf.drew = w7 at bx7 g7 ⊢
      have b7 := hbw.grown g7 (Nat.le_of_lt hbC.1) (fun k e => by cases e; exact Nat.le_refl _)
      have rw7 := rws.old g7 hgf
      have hS : ∀ j v, wr.cell? ⟨f, j, none⟩ = some v → w7.cell? ⟨f, j, none⟩ = some v := fun j v h => g7.cell h (by simp only [ne_eq, Option.some.injEq]; omega)
      refine hK.out _ _ ⟨hS _ _ k0, hS _ _ k1, hS _ _ k2, hS _ _ k3, hS _ _ k4, hS _ _ k5, hS _ _ k6, hS _ _ k7⟩ (fun hHeld => ?_)
      clear hK K_ hS
      try simp only [List.getElem_toArray, List.getElem_cons_succ, List.getElem_cons_zero, Act.put, List.setIfInBounds_toArray, List.set_cons_zero, List.set_cons_succ]
      refine wpAnyH_take (i := 5) (v := ?_) rfl (by kernel_rfl) (by kernel_rfl) (by kernel_rfl) CalmP.onlyN_panic (Or.inl ⟨by kernel_rfl, ?_⟩) (by assumption) ?_
      rotate_left
      · (intro w_ hSw; obtain ⟨s0, s1, s2, s3, s4, s5, s6, s7⟩ := hSw; go_simp; try with_reducible rfl)
      try simp only [List.getElem_toArray, List.getElem_cons_succ, List.getElem_cons_zero, Act.put, List.setIfInBounds_toArray, List.set_cons_zero, List.set_cons_succ]
      refine wpAnyH_take (i := 6) (v := ?_) rfl (by kernel_rfl) (by kernel_rfl) (by kernel_rfl) CalmP.onlyN_panic (Or.inl ⟨by kernel_rfl, ?_⟩) (by assumption) ?_
      rotate_left
      · (intro w_ hSw; obtain ⟨s0, s1, s2, s3, s4, s5, s6, s7⟩ := hSw; go_simp; try with_reducible rfl)
      try simp only [List.getElem_toArray, List.getElem_cons_succ, List.getElem_cons_zero, Act.put, List.setIfInBounds_toArray, List.set_cons_zero, List.set_cons_succ]
      refine wpAnyH_take (i := 7) (v := ?_) rfl (by kernel_rfl) (by kernel_rfl) (by kernel_rfl) CalmP.onlyN_panic (Or.inl ⟨by kernel_rfl, ?_⟩) (by assumption) ?_
      rotate_left
      · (intro w_ hSw; obtain ⟨s0, s1, s2, s3, s4, s5, s6, s7⟩ := hSw; go_simp; try with_reducible rfl)
      try simp only [List.getElem_toArray, List.getElem_cons_succ, List.getElem_cons_zero, Act.put, List.setIfInBounds_toArray, List.set_cons_zero, List.set_cons_succ]
      refine wpAnyH_done (by kernel_rfl) ?_ _
      refine CalmP.onlyN_here (hQ.out _ _ ?_)
      clear hQ K0
      go_wp2_with fail
      refine bodyPost_ret (results_cfg rfl _ w7 g _ _ _ _ _ _ _ _ _ _ bx7 rfl rfl rfl rfl) rfl ?_
      have hal : acc.length ≤ text.data.toList.length := by
        have e : text.data.toList.length = text.size := by rw [Array.length_toList]; rfl
        rw [e]; simp only [List.length_nil] at hlen; omega
      refine ⟨by rw [hg]; exact b7, .inl ⟨acc, _, _, _, ps, f, HP.out, hal, by rw [hg]; omega, ?_, by rw [← HF.out]; exact rw7⟩⟩
      rw [← HF.out, HV.out, ← HA.out]
      rfl
    · have HST := hide hst
      have HP := hide hp
      have hn4 : n ≤ 4194305 := by omega
      have HN := hide hn
      have hlast : last ≠ 0 ∨ last = 0 := by omega
      obtain ⟨bt, hbt⟩ : ∃ b : ByteArray, b = ⟨t.toArray⟩ := ⟨_, rfl⟩
      have hbsz : bt.size = t.length := by rw [hbt]; simp [ByteArray.size]
      have hbd : bt.data.toList = t := by rw [hbt]
      have sc := strcut_any bt 10 wr (by omega)
      have ecut := cutNl_is t
      rw [hbd] at sc
      obtain ⟨one, hone⟩ : ∃ x, x = cutHead 10 t := ⟨_, rfl⟩
      obtain ⟨rst, hrst⟩ : ∃ x, x = cutTail 10 t := ⟨_, rfl⟩
      obtain ⟨en, hen⟩ : ∃ x, x = cutHas 10 t := ⟨_, rfl⟩
      have hol : one.length ≤ t.length := by rw [hone]; exact cutHead_le 10 t
      rw [← hone, ← hrst, ← hen] at sc ecut
      have HC := hide ecut
      have HBT := hide hbt
      rw [← hbt]
      clear hst hp hone hrst hen ecut hbd hn hbt
      have hz : (bt.toList == []) = decide (t = []) := by rw [HBT.out, ByteArray.toList_eq]; cases t <;> rfl
      go_upto_region 6 with (fail)
      go_cut [21] from 16 to 21 (fun v wx => v = .bool true ∧ wx = wr)
      case first =>
        by_cases ht : t = []
        · have hb0 : bt = ⟨#[]⟩ := by rw [HBT.out, ht]
          have hl0 : last = 0 := by have := HST.out; rw [not_and] at this; have := this ht; omega
          subst hl0
          clear hz ht hbsz HBT
          subst hb0
          go_wp2_with fail
          go_meet
          exact ⟨rfl, rfl⟩
        · have hz2 : (bt.toList == []) = false := by rw [hz]; exact decide_eq_false ht
          clear hz ht hbsz
          go_wp2_with fail
          go_meet
          exact ⟨rfl, rfl⟩
      case rest =>
      obtain ⟨rfl, hwc⟩ := hcut
      obtain rfl : wr = wc := hwc.symm
      clear hz hlast
      go_wp2_with fail
      refine sc.mono ?_
      rintro e w3 ⟨rfl, b3⟩
      have hf3 := hfile.below b3
      have hbf3 : Below f w2 w3 := hb.trans (b3.mono (Nat.le_of_lt hfile.lt))
      obtain ⟨q1, q2, q3⟩ := fileOf_small acc
      have hofs : (⟨one.toArray⟩ : ByteArray).size = one.length := by simp [ByteArray.size]
      have hofd : (⟨one.toArray⟩ : ByteArray).data.toList = one := rfl
      have ln := scrline_any f (Scr.fileOf acc) ⟨one.toArray⟩ w3 hf3 (by rw [hofs]; omega) (fun W b => HG.out W (by rw [hg]; exact b2.trans ((hbf3.trans b).mono (Nat.le_of_lt hgf)))) ⟨by omega, by omega, by omega⟩
      obtain ⟨bo, hbo⟩ : ∃ b : ByteArray, b = ⟨one.toArray⟩ := ⟨_, rfl⟩
      rw [hofd, ← hbo] at ln
      rw [← hbo]
      clear sc hofs hofd q1 q2 q3 hbo
      go_wp2_with fail
      refine ln.mono ?_
      rintro e w4 ⟨b34, hcase⟩
      obtain ⟨K, rfl, hK⟩ : ∃ K : Nat, e = .returned (.int .i64 K) ∧ ((K = 0 ∧ Scr.lineR one = none) ∨ ∃ L : Scr.Ln, K = L.kind ∧ Scr.lineR one = some L ∧ IsFile w4 f ((Scr.fileOf acc).put L)) := by
        rcases hcase with ⟨L, h1, h2, h3⟩ | ⟨h1, h2⟩
        · exact ⟨L.kind, h2, .inr ⟨L, rfl, h1, h3⟩⟩
        · exact ⟨0, h2, .inl ⟨rfl, h1⟩⟩
      have hbf4 : Below f w2 w4 := hbf3.trans b34
      have hbC4 : Box w4 g [.slice none 0 0, .slice none 0 0, .int .i64 0, .int .i64 0, .int .i64 0, .int .i64 0, .int .i64 0] := by
        have hb34 : Below f wr w4 := (b3.mono (Nat.le_of_lt hfile.lt)).trans b34
        refine ⟨Nat.lt_of_lt_of_le hbC.1 hb34.size, fun j u hu => ?_⟩
        have e : w4.heap[g]? = wr.heap[g]? := hb34.block g hgf
        exact ⟨(World.cell?_of_block (a := ⟨g, j, none⟩) e).trans (hbC.2 j u hu).1, (World.frozen?_of_block (a := ⟨g, j, none⟩) e).trans (hbC.2 j u hu).2⟩
      clear ln hcase hf3 hbf3 b3 b34 hfile hb hbw hbC
      have HK := hide hK
      have hK4 : K ≤ 4 := by
        rcases hK with ⟨h, -⟩ | ⟨L, h, -⟩
        · omega
        · rw [h]; cases L <;> simp [Scr.Ln.kind]
      have hLn := hlen
      clear hK
      obtain ⟨bd, hbd⟩ : ∃ b : Bool, b = (!en || decide (K = 0) || decide (K < last) || decide (last = 0 ∧ K ≠ 1) || decide (K = 1 ∧ last = 1)) := ⟨_, rfl⟩
      go_upto_region 10 with (fail)
      go_cut [58] from 32 to 58 (fun v wx => v = .bool bd ∧ wx = w4)
      case first =>
        have HBD := hide hbd
        clear hbd
        rcases en with _ | _
        · have told : Hid (bd = true) := hide (by rw [HBD.out]; rfl)
          go_wp2_with fail
          go_meet
          exact ⟨congrArg Value.bool told.out.symm, rfl⟩
        by_cases h0 : K = 0
        · have told : Hid (bd = true) := hide (by rw [HBD.out, h0]; rfl)
          subst h0
          go_wp2_with fail
          go_meet
          exact ⟨congrArg Value.bool told.out.symm, rfl⟩
        have e0 : ((K : Int) == 0) = false := by simp; omega
        by_cases h1 : K < last
        · have told : Hid (bd = true) := hide (by rw [HBD.out, decide_eq_true h1]; simp)
          have e1 : (K : Int) < (last : Int) := by omega
          clear h0
          go_wp2_with fail
          go_meet
          exact ⟨congrArg Value.bool told.out.symm, rfl⟩
        have e1 : ¬ (K : Int) < (last : Int) := by omega
        by_cases h2 : last = 0
        · by_cases h3 : K = 1
          · have told : Hid (bd = false) := hide (by rw [HBD.out, h2, h3]; rfl)
            subst h2
            subst h3
            clear h0 h1 e0 e1
            go_wp2_with fail
            go_meet
            exact ⟨congrArg Value.bool told.out.symm, rfl⟩
          · have told : Hid (bd = true) := hide (by rw [HBD.out, decide_eq_true (show last = 0 ∧ K ≠ 1 from ⟨h2, h3⟩)]; simp)
            have e3 : ((K : Int) != 1) = true := by simp; omega
            subst h2
            clear h0 h1 h3
            go_wp2_with fail
            go_meet
            exact ⟨congrArg Value.bool told.out.symm, rfl⟩
        have e2 : ((last : Int) == 0) = false := by simp; omega
        by_cases h3 : K = 1
        · by_cases h4 : last = 1
          · have told : Hid (bd = true) := hide (by rw [HBD.out, h3, h4]; rfl)
            subst h3
            subst h4
            clear h0 h1 h2 e0 e1 e2
            go_wp2_with fail
            go_meet
            exact ⟨congrArg Value.bool told.out.symm, rfl⟩
          · exact absurd h1 (by omega)
        · have told : Hid (bd = false) := hide (by rw [HBD.out, decide_eq_false h0, decide_eq_false h1, decide_eq_false (show ¬ (last = 0 ∧ K ≠ 1) from fun h => h2 h.1), decide_eq_false (show ¬ (K = 1 ∧ last = 1) from fun h => h3 h.1)]; rfl)
          have e3 : ((K : Int) == 1) = false := by simp; omega
          clear h0 h1 h2 h3
          go_wp2_with fail
          go_meet
          exact ⟨congrArg Value.bool told.out.symm, rfl⟩
      case rest =>
      obtain ⟨rfl, hwc⟩ := hcut
      obtain rfl : w4 = wc := hwc.symm
      have HBD := hide hbd
      clear hbd
      have hbz : Below g w w4 := b2.trans (hbf4.mono (Nat.le_of_lt hgf))
      rcases bd with _ | _
      · have hgood := HBD.out.symm
        simp only [Bool.or_eq_false_iff, Bool.not_eq_false', decide_eq_false_iff_not] at hgood
        obtain ⟨⟨⟨⟨g1, g2⟩, g3⟩, g4⟩, g5⟩ := hgood
        obtain ⟨L, hKL, hL, hF⟩ : ∃ L : Scr.Ln, K = L.kind ∧ Scr.lineR one = some L ∧ IsFile w4 f ((Scr.fileOf acc).put L) := by
          rcases HK.out with ⟨h, -⟩ | h
          · exact absurd h g2
          · exact h
        have hns : ¬ Scr.stops last L := by
          unfold Scr.stops
          rw [← hKL]
          rintro (h | h | h)
          · exact g3 h
          · exact g4 h
          · exact g5 h
        have hcl := Scr.cutNl_len t (by rw [HC.out]; exact g1)
        rw [HC.out] at hcl
        have hnext : Scr.parseL 0 1 [] text.data.toList = Scr.parseL K (n + 1) (acc ++ [L]) rst := by
          rw [HP.out, Scr.parseL_go (L := L) (by rw [HC.out]; exact g1) (by rw [HC.out]; exact hL) hns, HC.out, ← hKL]
        have HNX := hide hnext
        rw [← Scr.fileOf_snoc] at hF
        have HF := hide hF
        have HKL := hide hKL
        simp only at hcl
        have hcl' : rst.length < bt.size := by rw [hbsz]; exact hcl
        obtain ⟨br, hbr⟩ : ∃ b : ByteArray, b = ⟨rst.toArray⟩ := ⟨_, rfl⟩
        have hbrs : br.size = rst.length := by rw [hbr]; simp [ByteArray.size]
        have HBR := hide hbr
        have HBRS := hide hbrs
        have HBSZ := hide hbsz
        have HCL := hide hcl'
        clear hnext hF hKL hcl' hbr hbrs hbsz g1 g2 g3 g4 g5 hns hL hcl
        go_wp2_with fail
        go_roundw
        case rel =>
          refine ⟨rst, K, n + 1, acc ++ [L], rfl, rfl, by go_num, ?_, ?_, hK4, HNX.out, HF.out, hbf4⟩
          · have h1 := HCL.out; have h2 := HBSZ.out; rw [List.length_append, List.length_singleton]; omega
          · rw [List.length_append, List.length_singleton, HN.out]
        case measure =>
          have e : (⟨rst.toArray⟩ : ByteArray).size = rst.length := by simp [ByteArray.size]
          show (⟨rst.toArray⟩ : ByteArray).size < bt.size
          rw [e]; exact HCL.out
      · have hbad : Scr.parseL 0 1 [] text.data.toList = .bad n := by
          rw [HP.out]
          by_cases hen : en = true
          · rcases HK.out with ⟨-, h⟩ | ⟨L, h1, h2, -⟩
            · exact Scr.parseL_none HST.out (by rw [HC.out]; exact h)
            · refine Scr.parseL_stop HST.out (by rw [HC.out]; exact h2) ?_
              have hb := HBD.out.symm
              have hk0 : K ≠ 0 := by rw [h1]; cases L <;> simp [Scr.Ln.kind]
              rw [hen] at hb
              simp only [Bool.not_true, Bool.false_or, Bool.or_eq_true, decide_eq_true_eq] at hb
              unfold Scr.stops
              rw [← h1]
              rcases hb with ((h | h) | h) | h
              · exact absurd h hk0
              · exact .inl h
              · exact .inr (.inl h)
              · exact .inr (.inr h)
          · exact Scr.parseL_open HST.out (by rw [HC.out]; simpa using hen)
        have HBAD := hide hbad
        obtain ⟨z0, y0⟩ := hbC4.2 0 _ rfl
        obtain ⟨z1, y1⟩ := hbC4.2 1 _ rfl
        obtain ⟨z2, y2⟩ := hbC4.2 2 _ rfl
        obtain ⟨z3, y3⟩ := hbC4.2 3 _ rfl
        obtain ⟨z4, y4⟩ := hbC4.2 4 _ rfl
        obtain ⟨z5, y5⟩ := hbC4.2 5 _ rfl
        obtain ⟨z6, y6⟩ := hbC4.2 6 _ rfl
        clear hbad
        go_wp2_with fail
        have bx7 := Box.fill7_ hbC4 (.slice none 0 0) (.slice none 0 0) (.int .i64 0) (.int .i64 0) (.int .i64 0) (.int .i64 0) (.int .i64 0)
        have g7 := grown_fill7 w4 g (.slice none 0 0) (.slice none 0 0) (.int .i64 0) (.int .i64 0) (.int .i64 0) (.int .i64 0) (.int .i64 0)
        have b7 := hbz.grown g7 (Nat.le_of_lt hbC4.1) (fun k e => by cases e; exact Nat.le_refl _)
        show bodyPost _ _ _ _ _ (fill7 w4 g (.slice none 0 0) (.slice none 0 0) (.int .i64 0) (.int .i64 0) (.int .i64 0) (.int .i64 0) (.int .i64 0))
        generalize fill7 w4 g _ _ _ _ _ _ _ = w7 at bx7 b7 ⊢
        refine bodyPost_ret (results_cfg rfl _ w7 g _ _ _ _ _ _ _ _ _ _ bx7 rfl rfl rfl rfl) rfl ?_
        exact ⟨by rw [hg]; exact b7, .inr ⟨n, HBAD.out, rfl⟩⟩
end Go.Proofs.YtbplnglmjcmfiaaGreatDoor
