/- script.Print. (printed by gen/scrprint.py) -/
import Derived.Test.YtbgbggodjhbgbaaDoorScrSteps
import Derived.Test.YtbgbggodjhbgbaaDoorScrArgs
namespace Go.Proofs.YtbgbggodjhbgbaaDoor
open Go.RowKit
set_option linter.unusedVariables false
set_option linter.unusedSimpArgs false

/-- The arguments are a file's. -/
structure Match (C : CfgA) (S : ActA) (F : Scr.Fl) : Prop where
  a : C.a = (F.a : Nat)
  b : C.b = (F.b : Nat)
  c : C.c = (F.c : Nat)
  d : C.d = (F.d : Nat)
  e : C.e = (F.e : Nat)
  rs : C.rs = F.rts.map fun r => (r.1, r.2.1, (r.2.2 : Int))
  ts : C.ts = F.tys
  al : S.al = F.acs.map fun a => ((a.1 : Int), (a.2.1 : Int), (a.2.2.1 : Int), a.2.2.2)
theorem Match.below {C : CfgA} {S : ActA} {F : Scr.Fl} (h : Match C S F) : belowB C S = false := by
  unfold belowB cfgNeg
  rw [h.a, h.b, h.c, h.d, h.e, h.rs, h.al]
  have e1 : ∀ n : Nat, decide ((n : Int) < 0) = false := fun n => by simp
  rw [e1, e1, e1, e1, e1]
  simp only [Bool.false_or, Bool.or_eq_false_iff, List.any_eq_false, List.mem_map, Bool.not_eq_true]
  refine ⟨?_, ?_⟩
  · rintro x ⟨r, -, rfl⟩
    simp [rtNeg]
  · rintro x ⟨r, -, rfl⟩
    simp only [acNeg, e1, Bool.false_or]
theorem scr_cfgT (a b c d e : Nat) : (Scr.Ln.cfg a b c d e).text = Scr.wCfg ++ numsT [a, b, c, d, e] := by
  simp [Scr.Ln.text, Scr.Ln.words, Scr.joinW, numsT]
theorem scr_rtT (h p : List UInt8) (u : Nat) : (Scr.Ln.rt h p u).text = Scr.wRt ++ 32 :: Scr.hexL h ++ 32 :: Scr.hexL p ++ numsT [u] := by
  simp [Scr.Ln.text, Scr.Ln.words, Scr.joinW, numsT]
theorem scr_tyT (t : List UInt8) : (Scr.Ln.ty t).text = Scr.wTy ++ 32 :: Scr.hexL t := by
  simp [Scr.Ln.text, Scr.Ln.words, Scr.joinW]
theorem scr_acT (k c n : Nat) (d : List UInt8) : (Scr.Ln.ac k c n d).text = Scr.wAc ++ numsT [k, c, n] ++ 32 :: Scr.hexL d := by
  simp [Scr.Ln.text, Scr.Ln.words, Scr.joinW, numsT]
def rtL (r : List UInt8 × List UInt8 × Nat) : Scr.Ln := .rt r.1 r.2.1 r.2.2
def acL (a : Nat × Nat × Nat × List UInt8) : Scr.Ln := .ac a.1 a.2.1 a.2.2.1 a.2.2.2
def cfgL (F : Scr.Fl) : Scr.Ln := .cfg F.a F.b F.c F.d F.e
theorem lines_is (F : Scr.Fl) : F.lines = cfgL F :: (F.rts.map rtL ++ (F.tys.map Scr.Ln.ty ++ F.acs.map acL)) := rfl
theorem linesT_one (L : Scr.Ln) : Scr.linesT [L] = L.text ++ [10] := rfl
theorem linesT_cons (L : Scr.Ln) (r : List Scr.Ln) : Scr.linesT (L :: r) = L.text ++ [10] ++ Scr.linesT r := by rw [Scr.linesT]; simp
theorem linesT_len (a b : List Scr.Ln) : (Scr.linesT a).length ≤ (Scr.linesT (a ++ b)).length := by rw [Scr.linesT_app, List.length_append]; omega
theorem pre_rt (F : Scr.Fl) (k : Nat) : (Scr.linesT ([cfgL F] ++ (F.rts.take k).map rtL)).length ≤ (Scr.linesT F.lines).length := by
  have e : F.lines = ([cfgL F] ++ (F.rts.take k).map rtL) ++ ((F.rts.drop k).map rtL ++ (F.tys.map Scr.Ln.ty ++ F.acs.map acL)) := by
    rw [lines_is]
    conv => lhs; rw [← List.take_append_drop k F.rts]
    simp only [List.map_append, List.append_assoc, List.singleton_append, List.cons_append]
    simp
  rw [e]
  exact linesT_len _ _
theorem pre_ty (F : Scr.Fl) (k : Nat) : (Scr.linesT ([cfgL F] ++ F.rts.map rtL ++ (F.tys.take k).map Scr.Ln.ty)).length ≤ (Scr.linesT F.lines).length := by
  have e : F.lines = ([cfgL F] ++ F.rts.map rtL ++ (F.tys.take k).map Scr.Ln.ty) ++ ((F.tys.drop k).map Scr.Ln.ty ++ F.acs.map acL) := by
    rw [lines_is]
    have e2 : F.tys.map Scr.Ln.ty = (F.tys.take k).map Scr.Ln.ty ++ (F.tys.drop k).map Scr.Ln.ty := by rw [← List.map_append, List.take_append_drop]
    rw [e2]
    simp only [List.append_assoc, List.singleton_append, List.cons_append, List.nil_append]
  rw [e]
  exact linesT_len _ _
theorem pre_ac (F : Scr.Fl) (k : Nat) : (Scr.linesT ([cfgL F] ++ F.rts.map rtL ++ F.tys.map Scr.Ln.ty ++ (F.acs.take k).map acL)).length ≤ (Scr.linesT F.lines).length := by
  have e : F.lines = ([cfgL F] ++ F.rts.map rtL ++ F.tys.map Scr.Ln.ty ++ (F.acs.take k).map acL) ++ (F.acs.drop k).map acL := by
    rw [lines_is]
    have e2 : F.acs.map acL = (F.acs.take k).map acL ++ (F.acs.drop k).map acL := by rw [← List.map_append, List.take_append_drop]
    rw [e2]
    simp only [List.append_assoc, List.singleton_append, List.cons_append, List.nil_append]
  rw [e]
  exact linesT_len _ _
theorem mem_sum {α : Type} (f : α → Nat) : ∀ (l : List α) (x : α), x ∈ l → f x ≤ (l.map f).sum
  | [], x, h => by simp at h
  | y :: l, x, h => by
    rw [List.map_cons, List.sum_cons]
    rcases List.mem_cons.1 h with rfl | h
    · omega
    · have := mem_sum f l x h; omega
theorem mem_totR (l : List RtI) (x : RtI) (h : x ∈ l) : x.1.length + x.2.1.length ≤ totR l := mem_sum (fun r : RtI => r.1.length + r.2.1.length) l x h
theorem mem_totT (l : List (List UInt8)) (x : List UInt8) (h : x ∈ l) : x.length ≤ totT l := mem_sum List.length l x h
theorem mem_totA (l : List AcI) (x : AcI) (h : x ∈ l) : x.2.2.2.length ≤ totA l := mem_sum (fun a : AcI => a.2.2.2.length) l x h
theorem hexL_len (l : List UInt8) : (Scr.hexL l).length = 2 * l.length + 1 := by simp [Scr.hexL, hexB_len]
set_option maxRecDepth 100000 in
set_option maxHeartbeats 3200000 in
theorem scrprint_neg (C : CfgA) (S : ActA) (w : World) (B : Nat) (hC : C.In w B) (hS : S.In w B) (hB : B ≤ w.heap.size) (hn : C.nR ≤ 100000 ∧ S.n ≤ 100000) (hneg : belowB C S = true) :
    Calls Tryd.prog 8 #[C.val, S.val] w fun e w' => e = .returned (.tuple #[.string ⟨#[]⟩, .int .i64 2]) ∧ Below w.heap.size w w' := by
  have t0 : Below w.heap.size w (w.alloc (.cells #[.slice C.AR C.nR C.cR, .slice C.AT C.nT C.cT, .int .i64 C.a, .int .i64 C.b, .int .i64 C.c, .int .i64 C.d, .int .i64 C.e] 25)) := (Below.refl _ _).alloc (Nat.le_refl _) _
  have bx := Box.new w #[.slice C.AR C.nR C.cR, .slice C.AT C.nT C.cT, .int .i64 C.a, .int .i64 C.b, .int .i64 C.c, .int .i64 C.d, .int .i64 C.e] 25
  obtain ⟨g, hg⟩ : ∃ g, w.heap.size = g := ⟨_, rfl⟩
  rw [hg] at bx t0 hB
  have q := fun W (b : Below g w W) => scrbelow_any C S W B (hC.below (b.mono hB)) (hS.below (b.mono hB)) (by have := b.size; omega) hn
  unfold CfgA.val ActA.val at q ⊢
  obtain ⟨sv, hsv⟩ : ∃ v : Value, v = .slice S.A S.n S.c := ⟨_, rfl⟩
  rw [← hsv] at q ⊢
  rw [hneg] at q
  obtain ⟨AR, nR, cR, AT, nT, cT, a, b, c, d, e, rs, ts⟩ := C
  simp only at bx t0 q ⊢
  clear hC hS hneg hsv
  go_enter Tryd.func8, Tryd.ntmps8
  go_upto_region 1 with (fail)
  generalize w.alloc _ = w1 at bx t0 ⊢
  obtain ⟨k0, -⟩ := bx.2 0 _ rfl
  obtain ⟨k1, -⟩ := bx.2 1 _ rfl
  obtain ⟨k2, -⟩ := bx.2 2 _ rfl
  obtain ⟨k3, -⟩ := bx.2 3 _ rfl
  obtain ⟨k4, -⟩ := bx.2 4 _ rfl
  obtain ⟨k5, -⟩ := bx.2 5 _ rfl
  obtain ⟨k6, -⟩ := bx.2 6 _ rfl
  go_wp2_with fail
  refine (q w1 t0).mono ?_
  rintro e w2 ⟨rfl, b2⟩
  clear q
  go_wp2_with fail
  go_ret2
  rw [hg]
  exact ⟨rfl, t0.trans (b2.mono (by have := t0.size; omega))⟩
set_option maxRecDepth 100000 in
set_option maxHeartbeats 6400000 in
theorem scrprint_any (C : CfgA) (S : ActA) (F : Scr.Fl) (w : World) (B : Nat) (hC : C.In w B) (hS : S.In w B) (hB : B ≤ w.heap.size) (hn : C.nR ≤ 100000 ∧ C.nT ≤ 100000 ∧ S.n ≤ 100000) (ht : totR C.rs + totT C.ts + totA S.al ≤ 1000000) (M : Match C S F) (hfit : ∀ L ∈ F.lines, L.fit) (hlen : (Scr.linesT F.lines).length ≤ 4194304) (hG : ∀ W, Below w.heap.size w W → Glo W) :
    Calls Tryd.prog 8 #[C.val, S.val] w fun e w' => e = .returned (.tuple #[.string ⟨(Scr.linesT F.lines).toArray⟩, .int .i64 0]) ∧ Below w.heap.size w w' := by
  have t0 : Below w.heap.size w (w.alloc (.cells #[.slice C.AR C.nR C.cR, .slice C.AT C.nT C.cT, .int .i64 C.a, .int .i64 C.b, .int .i64 C.c, .int .i64 C.d, .int .i64 C.e] 25)) := (Below.refl _ _).alloc (Nat.le_refl _) _
  have bx := Box.new w #[.slice C.AR C.nR C.cR, .slice C.AT C.nT C.cT, .int .i64 C.a, .int .i64 C.b, .int .i64 C.c, .int .i64 C.d, .int .i64 C.e] 25
  obtain ⟨g, hg⟩ : ∃ g, w.heap.size = g := ⟨_, rfl⟩
  rw [hg] at bx t0 hB hG
  have HC := hide (fun W (b : Below g w W) => hC.below (b.mono hB))
  have HS := hide (fun W (b : Below g w W) => hS.below (b.mono hB))
  have q := fun W (b : Below g w W) => scrbelow_any C S W B (HC.out W b) (HS.out W b) (by have := b.size; omega) ⟨hn.1, hn.2.2⟩
  have q2 := fun W (b : Below g w W) => scrlarge_any C S W B (HC.out W b) (HS.out W b) (by have := b.size; omega) hn (by omega)
  unfold CfgA.val ActA.val at q q2 ⊢
  rw [M.below] at q
  obtain ⟨AR, nR, cR, AT, nT, cT, ia, ib, ic, id_, ie, rs, ts⟩ := C
  obtain ⟨AA, nA, cA, al, ps⟩ := S
  obtain ⟨fa, fb, fc, fd, fe, frs, fts, fas⟩ := F
  obtain ⟨m1, m2, m3, m4, m5, m6, m7, m8⟩ := M
  simp only at m1 m2 m3 m4 m5 m6 m7 m8 bx t0 q q2 hn ht ⊢
  subst m1 m2 m3 m4 m5 m6 m7 m8
  obtain ⟨n1, n2, n3⟩ := hn
  have hfc := hfit (cfgL ⟨fa, fb, fc, fd, fe, frs, ts, fas⟩) (by simp [lines_is])
  have hfr : Hid (∀ r ∈ frs, (rtL r).fit) := hide fun r hr => hfit (rtL r) (by rw [lines_is]; simp only [List.mem_cons, List.mem_append, List.mem_map]; exact .inr (.inl ⟨r, hr, rfl⟩))
  have hfa : Hid (∀ r ∈ fas, (acL r).fit) := hide fun r hr => hfit (acL r) (by rw [lines_is]; simp only [List.mem_cons, List.mem_append, List.mem_map]; exact .inr (.inr (.inr ⟨r, hr, rfl⟩)))
  obtain ⟨LT, hLT⟩ : ∃ t, t = Scr.linesT (Scr.Fl.lines ⟨fa, fb, fc, fd, fe, frs, ts, fas⟩) := ⟨_, rfl⟩
  rw [← hLT] at hlen ⊢
  have HLT := hide hLT
  clear hC hS hfit hLT
  go_enter Tryd.func8, Tryd.ntmps8
  go_upto_region 1 with (fail)
  generalize w.alloc _ = w1 at bx t0 ⊢
  obtain ⟨k0, -⟩ := bx.2 0 _ rfl
  obtain ⟨k1, -⟩ := bx.2 1 _ rfl
  obtain ⟨k2, -⟩ := bx.2 2 _ rfl
  obtain ⟨k3, -⟩ := bx.2 3 _ rfl
  obtain ⟨k4, -⟩ := bx.2 4 _ rfl
  obtain ⟨k5, -⟩ := bx.2 5 _ rfl
  obtain ⟨k6, -⟩ := bx.2 6 _ rfl
  go_wp2_with fail
  refine (q w1 t0).mono ?_
  rintro e w2 ⟨rfl, b2⟩
  have t2 := t0.trans (b2.mono (by have := t0.size; omega))
  have bx2 := bx.below b2
  clear q k0 k1 k2 k3 k4 k5 k6
  obtain ⟨k0, -⟩ := bx2.2 0 _ rfl
  obtain ⟨k1, -⟩ := bx2.2 1 _ rfl
  obtain ⟨k2, -⟩ := bx2.2 2 _ rfl
  obtain ⟨k3, -⟩ := bx2.2 3 _ rfl
  obtain ⟨k4, -⟩ := bx2.2 4 _ rfl
  obtain ⟨k5, -⟩ := bx2.2 5 _ rfl
  obtain ⟨k6, -⟩ := bx2.2 6 _ rfl
  go_wp2_with fail
  refine (q2 w2 t2).mono ?_
  rintro e w3 ⟨rfl, b3⟩
  have t3 := t2.trans (b3.mono (by have := t2.size; omega))
  have bx3 := bx2.below b3
  clear q2 k0 k1 k2 k3 k4 k5 k6 bx2 bx t0 t2 b2 b3
  obtain ⟨p, hp⟩ : ∃ p, w3.heap.size = p := ⟨_, rfl⟩
  have hgp : g < p := by have := bx3.1; omega
  have hnew : (w3.alloc (.cells #[.pointer none, .slice none 0 0, .bool false] 47)).heap[p]? = some (.cells #[.pointer none, .slice none 0 0, .bool false] 47 (0, 0)) := by rw [← hp]; exact heap_alloc_new w3 _
  have ta : Below w3.heap.size w3 (w3.alloc (.cells #[.pointer none, .slice none 0 0, .bool false] 47)) := (Below.refl _ _).alloc (Nat.le_refl _) _
  go_upto_region 6 with (fail)
  generalize w3.alloc (.cells #[.pointer none, .slice none 0 0, .bool false] 47) = w4 at hnew ta ⊢
  have t4 := t3.trans (ta.mono (by omega))
  have bx4 := bx3.below ta
  have hp4 : p < w4.heap.size := lt_of_block hnew
  have hBp : B ≤ p := by omega
  have hB0 : PrB w4 w4 p [] g [.slice AR nR cR, .slice AT nT cT, .int .i64 (fa : Nat), .int .i64 (fb : Nat), .int .i64 (fc : Nat), .int .i64 (fd : Nat), .int .i64 (fe : Nat)] :=
    ⟨false, none, ⟨.slice none 0 0, hnew, ⟨by simp [bcells], .inl ⟨rfl, rfl⟩⟩, rfl⟩, PrStep.refl _ _ _, bx4, by omega, by simp⟩
  have HG : Hid (∀ X, Below p w4 X → Glo X) := hide fun X b => hG X (t4.trans (b.mono (by omega)))
  have hT0 : ([] : List UInt8).length ≤ 0 := Nat.le_refl _
  have HAT : Hid (∀ X, Below p w4 X → Below g w X) := hide fun X b => t4.trans (b.mono (by omega))
  have HBX : Hid (∀ X, Below p w4 X → Box X g [.slice AR nR cR, .slice AT nT cT, .int .i64 (fa : Nat), .int .i64 (fb : Nat), .int .i64 (fc : Nat), .int .i64 (fd : Nat), .int .i64 (fe : Nat)]) := hide fun X b => Box.below3 bx4 b hgp
  clear hnew ta t3 bx3 bx4 t4 hG hp
  have q := step_str ⟨#[99, 111, 110, 102, 105, 103]⟩ hB0 (by have e : (⟨#[99, 111, 110, 102, 105, 103]⟩ : ByteArray).size = 6 := rfl; omega)
  go_wp2_with fail
  refine q.mono ?_
  rintro e y1 ⟨⟨kk1, rfl⟩, hB1⟩
  obtain ⟨T1, hT1⟩ : ∃ t, t = ([] : List UInt8) ++ [99, 111, 110, 102, 105, 103] := ⟨_, rfl⟩
  replace hB1 : PrB w4 y1 p T1 g [.slice AR nR cR, .slice AT nT cT, .int .i64 (fa : Nat), .int .i64 (fb : Nat), .int .i64 (fc : Nat), .int .i64 (fd : Nat), .int .i64 (fe : Nat)] := by rw [hT1]; exact hB1
  have hl1 : T1.length ≤ ([] : List UInt8).length + 6 := by rw [hT1, List.length_append]; exact Nat.le_refl _
  have HT1 := hide hT1
  clear hT1 q hB0
  obtain ⟨ca2, -⟩ := hB1.box.2 2 _ rfl
  obtain ⟨ca3, -⟩ := hB1.box.2 3 _ rfl
  obtain ⟨ca4, -⟩ := hB1.box.2 4 _ rfl
  obtain ⟨ca5, -⟩ := hB1.box.2 5 _ rfl
  obtain ⟨ca6, -⟩ := hB1.box.2 6 _ rfl
  have q := step_nums [fa, fb, fc, fd, fe] hB1 hp4 (by omega) (by obtain ⟨u1, u2, u3, u4, u5⟩ := hfc; intro k hk; simp only [List.mem_cons, List.not_mem_nil, or_false] at hk; rcases hk with rfl | rfl | rfl | rfl | rfl <;> assumption) (by simp) HG.out
  simp only [icells, List.map_cons, List.map_nil, List.length_cons, List.length_nil, Nat.zero_add, Nat.reduceAdd] at q
  go_wp2_with fail
  refine q.mono ?_
  rintro e y2 ⟨rfl, hB2⟩
  obtain ⟨T2, hT2⟩ : ∃ t, t = T1 ++ numsT [fa, fb, fc, fd, fe] := ⟨_, rfl⟩
  rw [← hT2] at hB2
  have hl2 : T2.length ≤ T1.length + 105 := by
    have := numsT_len [fa, fb, fc, fd, fe] (by obtain ⟨u1, u2, u3, u4, u5⟩ := hfc; intro k hk; simp only [List.mem_cons, List.not_mem_nil, or_false] at hk; rcases hk with rfl | rfl | rfl | rfl | rfl <;> assumption)
    rw [hT2, List.length_append]; simp only [List.length_cons, List.length_nil] at this; omega
  have HT2 := hide hT2
  clear hT2 q hB1 ca2 ca3 ca4 ca5 ca6
  have q := step_byte 10 hB2 (by omega)
  rw [show (((10 : UInt8).toNat : Nat) : Int) = 10 from rfl] at q
  go_wp2_with fail
  refine q.mono ?_
  rintro e y3 ⟨rfl, hB3⟩
  obtain ⟨T3, hT3⟩ : ∃ t, t = T2 ++ [10] := ⟨_, rfl⟩
  rw [← hT3] at hB3
  have hl3 : T3.length ≤ T2.length + 1 := by rw [hT3, List.length_append]; exact Nat.le_refl _
  have HT3 := hide hT3
  clear hT3 q hB2
  obtain ⟨k0, -⟩ := hB3.box.2 0 _ rfl
  have hPA := hB3.a
  have hTc : T3 = Scr.linesT [cfgL ⟨fa, fb, fc, fd, fe, frs, ts, fas⟩] := by
    rw [HT3.out, HT2.out, HT1.out, linesT_one]
    show _ = (Scr.Ln.cfg fa fb fc fd fe).text ++ [10]
    rw [scr_cfgT]
    rfl
  rw [hTc] at hPA
  clear hTc hB3 HT1 HT2 HT3
  go_wp2_with fail
  go_loopw [38] (fun i wr => ∃ k : Nat, k ≤ nR ∧ i = .int .i64 k ∧ PrA w4 wr p (Scr.linesT ([cfgL ⟨fa, fb, fc, fd, fe, frs, ts, fas⟩] ++ (frs.take k).map rtL))) (fun i _ => nR - (intOf i).toNat)
  case atStart => exact ⟨0, Nat.zero_le _, rfl, by simpa using hPA⟩
  case round =>
    clear hPA
    obtain ⟨k, hk, rfl, hPA⟩ := hrel
    have hbelow := hPA.below hp4
    obtain ⟨T0, hT0⟩ : ∃ t, t = Scr.linesT ([cfgL ⟨fa, fb, fc, fd, fe, frs, ts, fas⟩] ++ (frs.take k).map rtL) := ⟨_, rfl⟩
    rw [← hT0] at hPA
    have hl0 : T0.length ≤ 4194304 := by
      refine Nat.le_trans ?_ hlen
      rw [hT0, HLT.out]
      exact pre_rt _ k
    by_cases hlt : k < nR
    · have hlt' : (k : Int) < (nR : Int) := by omega
      obtain ⟨hl, ab, ao, hAA, hab, r0, r1, r2⟩ := (HC.out wr (HAT.out wr hbelow)).rt hlt
      simp only [List.getElem_map] at r0 r1 r2
      have hkl : k < frs.length := by simpa using hl
      have hsum := mem_totR (frs.map fun r => (r.1, r.2.1, (r.2.2 : Int))) ((frs[k]).1, (frs[k]).2.1, ((frs[k]).2.2 : Int)) (List.mem_map.2 ⟨frs[k], List.getElem_mem hkl, rfl⟩)
      have hz := hfr.out frs[k] (List.getElem_mem hkl)
      obtain ⟨x, hx⟩ : ∃ x, x = frs[k] := ⟨_, rfl⟩
      rw [← hx] at r0 r1 r2 hsum hz
      have HX := hide hx
      change x.2.2 ≤ Scr.maxI at hz
      simp only at hsum
      obtain ⟨z2, hz2⟩ : ∃ y, y = x.2.2 := ⟨_, rfl⟩
      obtain ⟨x0, hx0⟩ : ∃ y : ByteArray, y = ⟨x.1.toArray⟩ := ⟨_, rfl⟩
      obtain ⟨x1, hx1⟩ : ∃ y : ByteArray, y = ⟨x.2.1.toArray⟩ := ⟨_, rfl⟩
      have hx0s : x0.size ≤ 1000000 := by rw [hx0]; simp only [ByteArray.size, List.size_toArray]; omega
      have hx1s : x1.size ≤ 1000000 := by rw [hx1]; simp only [ByteArray.size, List.size_toArray]; omega
      rw [← hz2] at hz r2
      rw [← hx0] at r0
      rw [← hx1] at r1
      have X0 := hide (show x.1 = x0.data.toList by rw [hx0])
      have X1 := hide (show x.2.1 = x1.data.toList by rw [hx1])
      have Z2 := hide hz2
      clear hx hx0 hx1 hz2 hsum
      subst hAA
      have HT0 := hide hT0
      clear hT0
      have hBz := hPA.newbox #[.string x0, .string x1, .int .i64 (z2 : Nat)] 42
      obtain ⟨gz, hgz⟩ : ∃ y, wr.heap.size = y := ⟨_, rfl⟩
      rw [hgz] at hBz
      go_upto_region 12 with (fail)
      generalize wr.alloc _ = w5 at hBz ⊢
      clear r0 r1 r2 hgz hPA
      have q := step_str ⟨#[114, 111, 117, 116, 101]⟩ hBz (by have e : (⟨#[114, 111, 117, 116, 101]⟩ : ByteArray).size = 5 := rfl; omega)
      go_wp2_with fail
      refine q.mono ?_
      rintro e y11 ⟨⟨kk11, rfl⟩, hB11⟩
      obtain ⟨T11, hT11⟩ : ∃ t, t = T0 ++ [114, 111, 117, 116, 101] := ⟨_, rfl⟩
      replace hB11 : PrB w4 y11 p T11 gz [.string x0, .string x1, .int .i64 (z2 : Nat)] := by rw [hT11]; exact hB11
      have hl11 : T11.length ≤ T0.length + 5 := by rw [hT11, List.length_append]; exact Nat.le_refl _
      have HT11 := hide hT11
      clear hT11 q hBz
      obtain ⟨ca, -⟩ := hB11.box.2 0 _ rfl
      obtain ⟨A12, c12, v12, hcv, ho12, bv12⟩ := conv_ow y11 x0 (by omega)
      have hld12 : x0.data.toList.length = x0.size := by rw [Array.length_toList]; rfl
      have q := step_hex x0.data.toList A12 x0.size c12 hB11 bv12 ho12 (by omega) (by omega)
      obtain ⟨T12, hT12⟩ : ∃ t, t = T11 ++ 32 :: Scr.hexL x0.data.toList := ⟨_, rfl⟩
      rw [← hT12] at q
      have hl12 : T12.length ≤ T11.length + 2 * x0.size + 2 := by
        have h1 := hexL_len x0.data.toList
        rw [hT12, List.length_append, List.length_cons]; omega
      have HT12 := hide hT12
      clear hT12 hld12 ho12 bv12 hB11
      go_wp2_with fail
      refine q.mono ?_
      rintro e y12 ⟨rfl, hB12⟩
      clear q hcv ca
      obtain ⟨ca, -⟩ := hB12.box.2 1 _ rfl
      obtain ⟨A13, c13, v13, hcv, ho13, bv13⟩ := conv_ow y12 x1 (by omega)
      have hld13 : x1.data.toList.length = x1.size := by rw [Array.length_toList]; rfl
      have q := step_hex x1.data.toList A13 x1.size c13 hB12 bv13 ho13 (by omega) (by omega)
      obtain ⟨T13, hT13⟩ : ∃ t, t = T12 ++ 32 :: Scr.hexL x1.data.toList := ⟨_, rfl⟩
      rw [← hT13] at q
      have hl13 : T13.length ≤ T12.length + 2 * x1.size + 2 := by
        have h1 := hexL_len x1.data.toList
        rw [hT13, List.length_append, List.length_cons]; omega
      have HT13 := hide hT13
      clear hT13 hld13 ho13 bv13 hB12
      go_wp2_with fail
      refine q.mono ?_
      rintro e y13 ⟨rfl, hB13⟩
      clear q hcv ca
      obtain ⟨ca2, -⟩ := hB13.box.2 2 _ rfl
      have q := step_nums [z2] hB13 hp4 (by omega) (by intro k hk; simp only [List.mem_cons, List.not_mem_nil, or_false] at hk; rw [hk]; exact hz) (by simp) HG.out
      simp only [icells, List.map_cons, List.map_nil, List.length_cons, List.length_nil, Nat.zero_add, Nat.reduceAdd] at q
      go_wp2_with fail
      refine q.mono ?_
      rintro e y14 ⟨rfl, hB14⟩
      obtain ⟨T14, hT14⟩ : ∃ t, t = T13 ++ numsT [z2] := ⟨_, rfl⟩
      rw [← hT14] at hB14
      have hl14 : T14.length ≤ T13.length + 21 := by
        have := numsT_len [z2] (by intro k hk; simp only [List.mem_cons, List.not_mem_nil, or_false] at hk; rw [hk]; exact hz)
        rw [hT14, List.length_append]; simp only [List.length_cons, List.length_nil] at this; omega
      have HT14 := hide hT14
      clear hT14 q hB13 ca2
      have q := step_byte 10 hB14 (by omega)
      rw [show (((10 : UInt8).toNat : Nat) : Int) = 10 from rfl] at q
      go_wp2_with fail
      refine q.mono ?_
      rintro e y15 ⟨rfl, hB15⟩
      obtain ⟨T15, hT15⟩ : ∃ t, t = T14 ++ [10] := ⟨_, rfl⟩
      rw [← hT15] at hB15
      have hl15 : T15.length ≤ T14.length + 1 := by rw [hT15, List.length_append]; exact Nat.le_refl _
      have HT15 := hide hT15
      clear hT15 q hB14
      have hPA2 := hB15.a
      have hTn : T15 = Scr.linesT ([cfgL ⟨fa, fb, fc, fd, fe, frs, ts, fas⟩] ++ (frs.take (k + 1)).map rtL) := by
        rw [HT15.out, HT14.out, HT13.out, HT12.out, HT11.out, list_take_snoc frs k hkl, List.map_append, ← List.append_assoc, Scr.linesT_app, ← HT0.out]
        simp only [List.map_cons, List.map_nil, linesT_one]
        rw [← HX.out]
        show _ = T0 ++ ((Scr.Ln.rt x.1 x.2.1 x.2.2).text ++ [10])
        rw [scr_rtT, X0.out, X1.out, ← Z2.out]
        simp only [List.append_assoc]
        rfl
      rw [hTn] at hPA2
      clear hTn hB15 HT11 HT12 HT13 HT14 HT15
      go_wp2_with fail
      go_roundw
      case rel => exact ⟨k + 1, by omega, by go_num, hPA2⟩
      case measure => simp [intOf]; omega
    · have hlt' : ¬ (k : Int) < (nR : Int) := by omega
      have hall : frs.take k = frs := List.take_of_length_le (by have := (HC.out wr (HAT.out wr hbelow)).nR; simp only [List.length_map] at this; omega)
      rw [hall] at hT0
      rw [hT0] at hPA
      clear hall hT0
      obtain ⟨kk1, -⟩ := (HBX.out wr hbelow).2 1 _ rfl
      go_wp2_with fail
      go_loopw [62] (fun i wr => ∃ k : Nat, k ≤ nT ∧ i = .int .i64 k ∧ PrA w4 wr p (Scr.linesT (([cfgL ⟨fa, fb, fc, fd, fe, frs, ts, fas⟩] ++ frs.map rtL) ++ (ts.take k).map Scr.Ln.ty))) (fun i _ => nT - (intOf i).toNat)
      case atStart => exact ⟨0, Nat.zero_le _, rfl, by simpa using hPA⟩
      case round =>
        clear hPA
        obtain ⟨k, hk, rfl, hPA⟩ := hrel
        have hbelow := hPA.below hp4
        obtain ⟨T0, hT0⟩ : ∃ t, t = Scr.linesT (([cfgL ⟨fa, fb, fc, fd, fe, frs, ts, fas⟩] ++ frs.map rtL) ++ (ts.take k).map Scr.Ln.ty) := ⟨_, rfl⟩
        rw [← hT0] at hPA
        have hl0 : T0.length ≤ 4194304 := by
          refine Nat.le_trans ?_ hlen
          rw [hT0, HLT.out]
          exact pre_ty _ k
        by_cases hlt : k < nT
        · have hlt' : (k : Int) < (nT : Int) := by omega
          have hkl : k < ts.length := by have := (HC.out wr (HAT.out wr hbelow)).nT; simp only at this; omega
          obtain ⟨ax, hAT, hab, r0⟩ := Rd.text (HC.out wr (HAT.out wr hbelow)).2 hlt hkl
          have hsum := mem_totT ts ts[k] (List.getElem_mem hkl)
          simp only at r0 hAT
          obtain ⟨x, hx⟩ : ∃ x, x = ts[k] := ⟨_, rfl⟩
          rw [← hx] at r0 hsum
          have HX := hide hx
          obtain ⟨x0, hx0⟩ : ∃ y : ByteArray, y = ⟨x.toArray⟩ := ⟨_, rfl⟩
          have hx0s : x0.size ≤ 1000000 := by rw [hx0]; simp only [ByteArray.size, List.size_toArray]; omega
          rw [← hx0] at r0
          have X0 := hide (show x = x0.data.toList by rw [hx0])
          have hBz : PrB w4 wr p T0 g [.slice AR nR cR, .slice AT nT cT, .int .i64 (fa : Nat), .int .i64 (fb : Nat), .int .i64 (fc : Nat), .int .i64 (fd : Nat), .int .i64 (fe : Nat)] := by
            obtain ⟨u8, row8, p8, s8⟩ := hPA
            exact ⟨u8, row8, p8, s8, HBX.out wr hbelow, by omega, fun e => by have := (p8.row_lt g e).1; omega⟩
          clear hx hx0 hsum hPA
          subst hAT
          have HT0 := hide hT0
          clear hT0

          have q := step_str ⟨#[116, 121, 112, 101]⟩ hBz (by have e : (⟨#[116, 121, 112, 101]⟩ : ByteArray).size = 4 := rfl; omega)
          go_wp2_with fail
          refine q.mono ?_
          rintro e y8 ⟨⟨kk8, rfl⟩, hB8⟩
          obtain ⟨T8, hT8⟩ : ∃ t, t = T0 ++ [116, 121, 112, 101] := ⟨_, rfl⟩
          replace hB8 : PrB w4 y8 p T8 g [.slice AR nR cR, .slice (some ax) nT cT, .int .i64 (fa : Nat), .int .i64 (fb : Nat), .int .i64 (fc : Nat), .int .i64 (fd : Nat), .int .i64 (fe : Nat)] := by rw [hT8]; exact hB8
          have hl8 : T8.length ≤ T0.length + 4 := by rw [hT8, List.length_append]; exact Nat.le_refl _
          have HT8 := hide hT8
          clear hT8 q hBz
          obtain ⟨A9, c9, v9, hcv, ho9, bv9⟩ := conv_ow y8 x0 (by omega)
          have hld9 : x0.data.toList.length = x0.size := by rw [Array.length_toList]; rfl
          have q := step_hex x0.data.toList A9 x0.size c9 hB8 bv9 ho9 (by omega) (by omega)
          obtain ⟨T9, hT9⟩ : ∃ t, t = T8 ++ 32 :: Scr.hexL x0.data.toList := ⟨_, rfl⟩
          rw [← hT9] at q
          have hl9 : T9.length ≤ T8.length + 2 * x0.size + 2 := by
            have h1 := hexL_len x0.data.toList
            rw [hT9, List.length_append, List.length_cons]; omega
          have HT9 := hide hT9
          clear hT9 hld9 ho9 bv9 hB8
          go_wp2_with fail
          refine q.mono ?_
          rintro e y9 ⟨rfl, hB9⟩
          clear q hcv 
          have q := step_byte 10 hB9 (by omega)
          rw [show (((10 : UInt8).toNat : Nat) : Int) = 10 from rfl] at q
          go_wp2_with fail
          refine q.mono ?_
          rintro e y10 ⟨rfl, hB10⟩
          obtain ⟨T10, hT10⟩ : ∃ t, t = T9 ++ [10] := ⟨_, rfl⟩
          rw [← hT10] at hB10
          have hl10 : T10.length ≤ T9.length + 1 := by rw [hT10, List.length_append]; exact Nat.le_refl _
          have HT10 := hide hT10
          clear hT10 q hB9
          have hPA2 := hB10.a
          have hTn : T10 = Scr.linesT (([cfgL ⟨fa, fb, fc, fd, fe, frs, ts, fas⟩] ++ frs.map rtL) ++ (ts.take (k + 1)).map Scr.Ln.ty) := by
            rw [HT10.out, HT9.out, HT8.out, list_take_snoc ts k hkl, List.map_append, ← List.append_assoc, Scr.linesT_app, ← HT0.out]
            simp only [List.map_cons, List.map_nil, linesT_one]
            rw [← HX.out]
            show _ = T0 ++ ((Scr.Ln.ty x).text ++ [10])
            rw [scr_tyT, X0.out]
            simp only [List.append_assoc]
            rfl
          rw [hTn] at hPA2
          clear hTn hB10 HT8 HT9 HT10
          go_wp2_with fail
          go_roundw
          case rel => exact ⟨k + 1, by omega, by go_num, hPA2⟩
          case measure => simp [intOf]; omega
        · have hlt' : ¬ (k : Int) < (nT : Int) := by omega
          have hall : ts.take k = ts := List.take_of_length_le (by have := (HC.out wr (HAT.out wr hbelow)).nT; simp only at this; omega)
          rw [hall] at hT0
          rw [hT0] at hPA
          clear hall hT0
          obtain ⟨kk1, -⟩ := (HBX.out wr hbelow).2 1 _ rfl
          go_wp2_with fail
          go_loopw [76] (fun i wr => ∃ k : Nat, k ≤ nA ∧ i = .int .i64 k ∧ PrA w4 wr p (Scr.linesT (([cfgL ⟨fa, fb, fc, fd, fe, frs, ts, fas⟩] ++ frs.map rtL ++ ts.map Scr.Ln.ty) ++ (fas.take k).map acL))) (fun i _ => nA - (intOf i).toNat)
          case atStart => exact ⟨0, Nat.zero_le _, rfl, by simpa using hPA⟩
          case round =>
            clear hPA
            obtain ⟨k, hk, rfl, hPA⟩ := hrel
            have hbelow := hPA.below hp4
            obtain ⟨T0, hT0⟩ : ∃ t, t = Scr.linesT (([cfgL ⟨fa, fb, fc, fd, fe, frs, ts, fas⟩] ++ frs.map rtL ++ ts.map Scr.Ln.ty) ++ (fas.take k).map acL) := ⟨_, rfl⟩
            rw [← hT0] at hPA
            have hl0 : T0.length ≤ 4194304 := by
              refine Nat.le_trans ?_ hlen
              rw [hT0, HLT.out]
              exact pre_ac _ k
            by_cases hlt : k < nA
            · have hlt' : (k : Int) < (nA : Int) := by omega
              obtain ⟨hl, hl2, ab, ao, hAA, hab, r0, r1, r2, r3, prd⟩ := (HS.out wr (HAT.out wr hbelow)).ac hlt
              have prd4 := (HS.out w4 (HAT.out w4 (Below.refl _ _))).2.2 k hl hl2
              simp only [List.getElem_map] at r0 r1 r2 r3 prd prd4
              have hkl : k < fas.length := by simpa using hl
              have hsum := mem_totA (fas.map fun a => ((a.1 : Int), (a.2.1 : Int), (a.2.2.1 : Int), a.2.2.2)) (((fas[k]).1 : Int), ((fas[k]).2.1 : Int), ((fas[k]).2.2.1 : Int), (fas[k]).2.2.2) (List.mem_map.2 ⟨fas[k], List.getElem_mem hkl, rfl⟩)
              have hz := hfa.out fas[k] (List.getElem_mem hkl)
              obtain ⟨x, hx⟩ : ∃ x, x = fas[k] := ⟨_, rfl⟩
              rw [← hx] at r0 r1 r2 r3 prd4 hsum hz
              have HX := hide hx
              change x.1 ≤ Scr.maxI ∧ x.2.1 ≤ Scr.maxI ∧ x.2.2.1 ≤ Scr.maxI at hz
              simp only at hsum
              obtain ⟨z0, hz0⟩ : ∃ y, y = x.1 := ⟨_, rfl⟩
              obtain ⟨z1, hz1⟩ : ∃ y, y = x.2.1 := ⟨_, rfl⟩
              obtain ⟨z2, hz2⟩ : ∃ y, y = x.2.2.1 := ⟨_, rfl⟩
              obtain ⟨pl, hpl⟩ : ∃ y, y = x.2.2.2 := ⟨_, rfl⟩
              rw [← hz0, ← hz1, ← hz2] at hz
              rw [← hz0] at r0
              rw [← hz1] at r1
              rw [← hz2] at r2
              rw [← hpl] at r3 prd4 hsum
              obtain ⟨pA, hpA⟩ : ∃ y, y = (ps[k]).1 := ⟨_, rfl⟩
              obtain ⟨pc, hpc⟩ : ∃ y, y = (ps[k]).2 := ⟨_, rfl⟩
              rw [← hpA] at prd4
              rw [← hpA, ← hpc] at r3
              have Z0 := hide hz0
              have Z1 := hide hz1
              have Z2 := hide hz2
              have PL := hide hpl
              clear hx hz0 hz1 hz2 hpl hpA hpc
              subst hAA
              have HT0 := hide hT0
              clear hT0
              have hBz := hPA.newbox #[.int .i64 (z0 : Nat), .int .i64 (z1 : Nat), .int .i64 (z2 : Nat), .slice pA pl.length pc] 40
              obtain ⟨gz, hgz⟩ : ∃ y, wr.heap.size = y := ⟨_, rfl⟩
              rw [hgz] at hBz
              go_upto_region 28 with (fail)
              generalize wr.alloc _ = w5 at hBz ⊢
              clear r0 r1 r2 r3 hgz hPA
              have q := step_str ⟨#[97, 99, 116]⟩ hBz (by have e : (⟨#[97, 99, 116]⟩ : ByteArray).size = 3 := rfl; omega)
              go_wp2_with fail
              refine q.mono ?_
              rintro e y4 ⟨⟨kk4, rfl⟩, hB4⟩
              obtain ⟨T4, hT4⟩ : ∃ t, t = T0 ++ [97, 99, 116] := ⟨_, rfl⟩
              replace hB4 : PrB w4 y4 p T4 gz [.int .i64 (z0 : Nat), .int .i64 (z1 : Nat), .int .i64 (z2 : Nat), .slice pA pl.length pc] := by rw [hT4]; exact hB4
              have hl4 : T4.length ≤ T0.length + 3 := by rw [hT4, List.length_append]; exact Nat.le_refl _
              have HT4 := hide hT4
              clear hT4 q hBz
              obtain ⟨ca0, -⟩ := hB4.box.2 0 _ rfl
              obtain ⟨ca1, -⟩ := hB4.box.2 1 _ rfl
              obtain ⟨ca2, -⟩ := hB4.box.2 2 _ rfl
              have q := step_nums [z0, z1, z2] hB4 hp4 (by omega) (by intro k hk; simp only [List.mem_cons, List.not_mem_nil, or_false] at hk; rcases hk with rfl | rfl | rfl; exact hz.1; exact hz.2.1; exact hz.2.2) (by simp) HG.out
              simp only [icells, List.map_cons, List.map_nil, List.length_cons, List.length_nil, Nat.zero_add, Nat.reduceAdd] at q
              go_wp2_with fail
              refine q.mono ?_
              rintro e y5 ⟨rfl, hB5⟩
              obtain ⟨T5, hT5⟩ : ∃ t, t = T4 ++ numsT [z0, z1, z2] := ⟨_, rfl⟩
              rw [← hT5] at hB5
              have hl5 : T5.length ≤ T4.length + 63 := by
                have := numsT_len [z0, z1, z2] (by intro k hk; simp only [List.mem_cons, List.not_mem_nil, or_false] at hk; rcases hk with rfl | rfl | rfl; exact hz.1; exact hz.2.1; exact hz.2.2)
                rw [hT5, List.length_append]; simp only [List.length_cons, List.length_nil] at this; omega
              have HT5 := hide hT5
              clear hT5 q hB4 ca0 ca1 ca2
              obtain ⟨ca, -⟩ := hB5.box.2 3 _ rfl
              have q := step_hexold pl pA pl.length pc B hB5 (prd4.below ((hB5.below_ hp4).mono hBp)) hBp (by omega) (by omega)
              obtain ⟨T6, hT6⟩ : ∃ t, t = T5 ++ 32 :: Scr.hexL pl := ⟨_, rfl⟩
              rw [← hT6] at q
              have hl6 : T6.length ≤ T5.length + 2 * pl.length + 2 := by
                have h1 := hexL_len pl
                rw [hT6, List.length_append, List.length_cons]; omega
              have HT6 := hide hT6
              clear hT6 hB5
              go_wp2_with fail
              refine q.mono ?_
              rintro e y6 ⟨rfl, hB6⟩
              clear q ca
              have q := step_byte 10 hB6 (by omega)
              rw [show (((10 : UInt8).toNat : Nat) : Int) = 10 from rfl] at q
              go_wp2_with fail
              refine q.mono ?_
              rintro e y7 ⟨rfl, hB7⟩
              obtain ⟨T7, hT7⟩ : ∃ t, t = T6 ++ [10] := ⟨_, rfl⟩
              rw [← hT7] at hB7
              have hl7 : T7.length ≤ T6.length + 1 := by rw [hT7, List.length_append]; exact Nat.le_refl _
              have HT7 := hide hT7
              clear hT7 q hB6
              have hPA2 := hB7.a
              have hTn : T7 = Scr.linesT (([cfgL ⟨fa, fb, fc, fd, fe, frs, ts, fas⟩] ++ frs.map rtL ++ ts.map Scr.Ln.ty) ++ (fas.take (k + 1)).map acL) := by
                rw [HT7.out, HT6.out, HT5.out, HT4.out, list_take_snoc fas k hkl, List.map_append, ← List.append_assoc, Scr.linesT_app, ← HT0.out]
                simp only [List.map_cons, List.map_nil, linesT_one]
                rw [← HX.out]
                show _ = T0 ++ ((Scr.Ln.ac x.1 x.2.1 x.2.2.1 x.2.2.2).text ++ [10])
                rw [scr_acT, ← Z0.out, ← Z1.out, ← Z2.out, ← PL.out]
                simp only [List.append_assoc]
                rfl
              rw [hTn] at hPA2
              clear hTn hB7 HT4 HT5 HT6 HT7
              go_wp2_with fail
              go_roundw
              case rel => exact ⟨k + 1, by omega, by go_num, hPA2⟩
              case measure => simp [intOf]; omega
            · have hlt' : ¬ (k : Int) < (nA : Int) := by omega
              have hall : fas.take k = fas := List.take_of_length_le (by have := (HS.out wr (HAT.out wr hbelow)).nA; simp only [List.length_map] at this; omega)
              rw [hall] at hT0
              rw [hT0] at hPA
              clear hall hT0
              have hfinal : Scr.linesT ([cfgL ⟨fa, fb, fc, fd, fe, frs, ts, fas⟩] ++ frs.map rtL ++ ts.map Scr.Ln.ty ++ fas.map acL) = LT := by
                rw [HLT.out, lines_is]; simp only [List.singleton_append, List.cons_append, List.append_assoc, List.nil_append]
              rw [hfinal] at hPA
              obtain ⟨u9, row9, pr9, st9⟩ := hPA
              have ln := pr_len p u9 row9 LT false wr pr9
              have hno : ¬ ((4194304 : Int) < (LT.length : Int)) := by omega
              have hne : LT ≠ [] := by
                intro e
                have := congrArg List.length (hfinal.trans e)
                simp only [List.singleton_append, List.cons_append, Scr.linesT, List.length_append, List.length_cons, List.length_nil] at this
                omega
              have tx := pr_text p u9 row9 LT false wr pr9 hne
              obtain ⟨LN, hLN⟩ : ∃ y, y = LT.length := ⟨_, rfl⟩
              rw [← hLN] at ln hno
              obtain ⟨LB, hLB⟩ : ∃ y : ByteArray, y = ⟨LT.toArray⟩ := ⟨_, rfl⟩
              rw [← hLB] at tx
              have HLB := hide hLB
              have HLN := hide hLN
              clear hfinal hne hLN hLB hlen hl0
              go_wp2_with fail
              refine ln.mono ?_
              rintro e wl ⟨rfl, rfl⟩
              go_wp2_with fail
              refine tx.mono ?_
              rintro e wm ⟨rfl, bm⟩
              go_wp2_with fail
              go_ret2
              rw [hg]
              exact ⟨by rw [← HLB.out]; rfl, HAT.out _ (hbelow.trans bm)⟩
end Go.Proofs.YtbgbggodjhbgbaaDoor
