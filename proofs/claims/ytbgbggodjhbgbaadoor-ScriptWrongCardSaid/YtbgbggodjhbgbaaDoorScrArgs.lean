/- A configuration and acts as arguments; script.below and script.large. -/
import Derived.Test.YtbgbggodjhbgbaaDoorScrNums
import Derived.Test.YtbgbggodjhbgbaaDoorLit
import Derived.Deep.CutRange
import Derived.Deep.DeepCutAuto
import Derived.Deep.CutBlock
namespace Go.Proofs.YtbgbggodjhbgbaaDoor
open Go.RowKit
set_option linter.unusedVariables false
set_option linter.unusedSimpArgs false

abbrev RtI := List UInt8 × List UInt8 × Int
abbrev AcI := Int × Int × Int × List UInt8
def rcellsI (rs : List RtI) : List Value := rs.flatMap fun r => [.string ⟨r.1.toArray⟩, .string ⟨r.2.1.toArray⟩, .int .i64 r.2.2]
def acellsI : List AcI → List Pl → List Value
  | a :: al, p :: ps => .int .i64 a.1 :: .int .i64 a.2.1 :: .int .i64 a.2.2.1 :: .slice p.1 a.2.2.2.length p.2 :: acellsI al ps
  | _, _ => []
structure CfgA where
  AR : Option Addr
  nR : Nat
  cR : Nat
  AT : Option Addr
  nT : Nat
  cT : Nat
  a : Int
  b : Int
  c : Int
  d : Int
  e : Int
  rs : List RtI
  ts : List (List UInt8)
def CfgA.val (C : CfgA) : Value := .agg #[.slice C.AR C.nR C.cR, .slice C.AT C.nT C.cT, .int .i64 C.a, .int .i64 C.b, .int .i64 C.c, .int .i64 C.d, .int .i64 C.e]
def CfgA.In (C : CfgA) (w : World) (base : Nat) : Prop := Rd w base 3 C.AR C.nR (rcellsI C.rs) ∧ Rd w base 1 C.AT C.nT (scells C.ts)
structure ActA where
  A : Option Addr
  n : Nat
  c : Nat
  al : List AcI
  ps : List Pl
def ActA.val (S : ActA) : Value := .slice S.A S.n S.c
def ActA.In (S : ActA) (w : World) (base : Nat) : Prop := Rd w base 4 S.A S.n (acellsI S.al S.ps) ∧ S.al.length = S.ps.length ∧ ∀ i (h : i < S.al.length) (h' : i < S.ps.length), Rd w base 1 S.ps[i].1 S.al[i].2.2.2.length (bcells S.al[i].2.2.2)
theorem CfgA.In.below {C : CfgA} {w w' : World} {B : Nat} (h : C.In w B) (hb : Below B w w') : C.In w' B := ⟨h.1.below hb, h.2.below hb⟩
theorem ActA.In.below {S : ActA} {w w' : World} {B : Nat} (h : S.In w B) (hb : Below B w w') : S.In w' B := ⟨h.1.below hb, h.2.1, fun i h1 h2 => (h.2.2 i h1 h2).below hb⟩
theorem rcellsI_length (l : List RtI) : (rcellsI l).length = l.length * 3 := by
  induction l with
  | nil => rfl
  | cons x l ih =>
    unfold rcellsI at ih ⊢
    rw [List.flatMap_cons, List.length_append, ih]
    simp only [List.length_cons, List.length_nil]; omega
theorem acellsI_length : ∀ (l : List AcI) (ps : List Pl), l.length = ps.length → (acellsI l ps).length = l.length * 4
  | [], [], _ => rfl
  | [], _ :: _, h => by simp at h
  | _ :: _, [], h => by simp at h
  | a :: l, p :: ps, h => by
    have := acellsI_length l ps (by simpa using h)
    simp only [acellsI, List.length_cons, this]; omega
theorem rcellsI_at : ∀ (l : List RtI) (k : Nat) (h : k < l.length), (rcellsI l)[k * 3]? = some (.string ⟨l[k].1.toArray⟩) ∧ (rcellsI l)[k * 3 + 1]? = some (.string ⟨l[k].2.1.toArray⟩) ∧ (rcellsI l)[k * 3 + 2]? = some (.int .i64 l[k].2.2)
  | [], k, h => by simp at h
  | x :: l, 0, h => ⟨rfl, rfl, rfl⟩
  | x :: l, k + 1, h => by
    have ih := rcellsI_at l k (by simpa using h)
    have e : ∀ j, (rcellsI (x :: l))[(k + 1) * 3 + j]? = (rcellsI l)[k * 3 + j]? := fun j => by
      show ([_, _, _] ++ rcellsI l)[_]? = _
      rw [List.getElem?_append_right (by simp; omega)]
      congr 1
      simp only [List.length_cons, List.length_nil]; omega
    exact ⟨(e 0).trans ih.1, (e 1).trans ih.2.1, (e 2).trans ih.2.2⟩
theorem acellsI_at : ∀ (l : List AcI) (ps : List Pl) (hl : l.length = ps.length) (k : Nat) (h : k < l.length), (acellsI l ps)[k * 4]? = some (.int .i64 l[k].1) ∧ (acellsI l ps)[k * 4 + 1]? = some (.int .i64 l[k].2.1) ∧ (acellsI l ps)[k * 4 + 2]? = some (.int .i64 l[k].2.2.1) ∧ (acellsI l ps)[k * 4 + 3]? = some (.slice (ps[k]'(by omega)).1 l[k].2.2.2.length (ps[k]'(by omega)).2)
  | [], _, _, k, h => by simp at h
  | _ :: _, [], hl, _, _ => by simp at hl
  | x :: l, p :: ps, hl, 0, h => ⟨rfl, rfl, rfl, rfl⟩
  | x :: l, p :: ps, hl, k + 1, h => by
    have ih := acellsI_at l ps (by simpa using hl) k (by simpa using h)
    have e : ∀ j, (acellsI (x :: l) (p :: ps))[(k + 1) * 4 + j]? = (acellsI l ps)[k * 4 + j]? := fun j => by
      show ([_, _, _, _] ++ acellsI l ps)[_]? = _
      rw [List.getElem?_append_right (by simp; omega)]
      congr 1
      simp only [List.length_cons, List.length_nil]; omega
    exact ⟨(e 0).trans ih.1, (e 1).trans ih.2.1, (e 2).trans ih.2.2.1, (e 3).trans ih.2.2.2⟩
/-- A route's cells, an act's cells. -/
theorem CfgA.In.rt {C : CfgA} {w : World} {B : Nat} (h : C.In w B) {k : Nat} (hk : k < C.nR) : ∃ (hl : k < C.rs.length) (ab ao : Nat), C.AR = some ⟨ab, ao, none⟩ ∧ ab < B ∧ w.cell? ⟨ab, ao + k * 3, none⟩ = some (.string ⟨C.rs[k].1.toArray⟩) ∧ w.cell? ⟨ab, ao + k * 3 + 1, none⟩ = some (.string ⟨C.rs[k].2.1.toArray⟩) ∧ w.cell? ⟨ab, ao + k * 3 + 2, none⟩ = some (.int .i64 C.rs[k].2.2) := by
  have hl : C.rs.length = C.nR := by have := h.1.1; rw [rcellsI_length] at this; omega
  have hk' : k < C.rs.length := by omega
  obtain ⟨ab, ao, hA, hb, hc⟩ := h.1.lit hk (by omega)
  obtain ⟨e0, e1, e2⟩ := rcellsI_at C.rs k hk'
  exact ⟨hk', ab, ao, hA, hb, hc _ _ e0, by rw [Nat.add_assoc]; exact hc _ _ e1, by rw [Nat.add_assoc]; exact hc _ _ e2⟩
theorem ActA.In.ac {S : ActA} {w : World} {B : Nat} (h : S.In w B) {k : Nat} (hk : k < S.n) : ∃ (hl : k < S.al.length) (hl' : k < S.ps.length) (ab ao : Nat), S.A = some ⟨ab, ao, none⟩ ∧ ab < B ∧ w.cell? ⟨ab, ao + k * 4, none⟩ = some (.int .i64 S.al[k].1) ∧ w.cell? ⟨ab, ao + k * 4 + 1, none⟩ = some (.int .i64 S.al[k].2.1) ∧ w.cell? ⟨ab, ao + k * 4 + 2, none⟩ = some (.int .i64 S.al[k].2.2.1) ∧
    w.cell? ⟨ab, ao + k * 4 + 3, none⟩ = some (.slice S.ps[k].1 S.al[k].2.2.2.length S.ps[k].2) ∧ Rd w B 1 S.ps[k].1 S.al[k].2.2.2.length (bcells S.al[k].2.2.2) := by
  have hl : S.al.length = S.n := by have := h.1.1; rw [acellsI_length _ _ h.2.1] at this; omega
  have hk' : k < S.al.length := by omega
  have hk2 : k < S.ps.length := by have := h.2.1; omega
  obtain ⟨ab, ao, hA, hb, hc⟩ := h.1.lit hk (by omega)
  obtain ⟨e0, e1, e2, e3⟩ := acellsI_at S.al S.ps h.2.1 k hk'
  exact ⟨hk', hk2, ab, ao, hA, hb, hc _ _ e0, by rw [Nat.add_assoc]; exact hc _ _ e1, by rw [Nat.add_assoc]; exact hc _ _ e2, by rw [Nat.add_assoc]; exact hc _ _ e3, h.2.2 k hk' hk2⟩
theorem CfgA.In.nR {C : CfgA} {w : World} {B : Nat} (h : C.In w B) : C.rs.length = C.nR := by have := h.1.1; rw [rcellsI_length] at this; omega
theorem CfgA.In.nT {C : CfgA} {w : World} {B : Nat} (h : C.In w B) : C.ts.length = C.nT := by have := h.2.1; rw [scells_length] at this; omega
theorem ActA.In.nA {S : ActA} {w : World} {B : Nat} (h : S.In w B) : S.al.length = S.n := by have := h.1.1; rw [acellsI_length _ _ h.2.1] at this; omega
def cfgNeg (C : CfgA) : Bool := decide (C.a < 0) || decide (C.b < 0) || decide (C.c < 0) || decide (C.d < 0) || decide (C.e < 0)
def rtNeg (r : RtI) : Bool := decide (r.2.2 < 0)
def acNeg (a : AcI) : Bool := decide (a.1 < 0) || decide (a.2.1 < 0) || decide (a.2.2.1 < 0)
def belowB (C : CfgA) (S : ActA) : Bool := cfgNeg C || C.rs.any rtNeg || S.al.any acNeg
theorem any_take {α : Type} (l : List α) (f : α → Bool) (k : Nat) (h : k < l.length) : (l.take (k + 1)).any f = ((l.take k).any f || f l[k]) := by
  rw [list_take_snoc l k h, List.any_append]; simp
set_option maxRecDepth 100000 in
set_option maxHeartbeats 3200000 in
theorem scrbelow_any (C : CfgA) (S : ActA) (w : World) (B : Nat) (hC : C.In w B) (hS : S.In w B) (hB : B ≤ w.heap.size) (hn : C.nR ≤ 100000 ∧ S.n ≤ 100000) :
    Calls Tryd.prog 13 #[C.val, S.val] w fun e w' => e = .returned (.bool (belowB C S)) ∧ Below w.heap.size w w' := by
  obtain ⟨AR, nR, cR, AT, nT, cT, a, b, c, d, e, rs, ts⟩ := C
  obtain ⟨A, n, cA, al, ps⟩ := S
  simp only [CfgA.val, ActA.val] at *
  obtain ⟨g, hg⟩ : ∃ g, w.heap.size = g := ⟨_, rfl⟩
  have bx := Box.new w #[.slice AR nR cR, .slice AT nT cT, .int .i64 a, .int .i64 b, .int .i64 c, .int .i64 d, .int .i64 e] 25
  have t0 : Below g w (w.alloc (.cells #[.slice AR nR cR, .slice AT nT cT, .int .i64 a, .int .i64 b, .int .i64 c, .int .i64 d, .int .i64 e] 25)) := (Below.refl _ _).alloc (Nat.le_of_eq hg.symm) _
  rw [hg] at bx
  obtain ⟨n1, n2⟩ := hn
  have HC := hide hC
  have HS := hide hS
  clear hC hS
  go_enter Tryd.func13, Tryd.ntmps13
  go_upto_region 1 with (fail)
  generalize w.alloc _ = w1 at bx t0 ⊢
  obtain ⟨k0, -⟩ := bx.2 0 _ rfl
  obtain ⟨k1, -⟩ := bx.2 1 _ rfl
  obtain ⟨k2, -⟩ := bx.2 2 _ rfl
  obtain ⟨k3, -⟩ := bx.2 3 _ rfl
  obtain ⟨k4, -⟩ := bx.2 4 _ rfl
  obtain ⟨k5, -⟩ := bx.2 5 _ rfl
  obtain ⟨k6, -⟩ := bx.2 6 _ rfl
  obtain ⟨bb, hbb⟩ : ∃ x, x = (decide (a < 0) || decide (b < 0) || decide (c < 0) || decide (d < 0) || decide (e < 0)) := ⟨_, rfl⟩
  go_cut [5] from 10 to 32 (fun v wx => v = .bool bb ∧ wx = w1)
  case first =>
    have HBB := hide hbb
    clear hbb
    by_cases ha : a < 0
    · go_wp2_with fail
      go_meet
      refine ⟨congrArg Value.bool ?_, rfl⟩
      rw [HBB.out]
      simp [ha]
    by_cases hb : b < 0
    · go_wp2_with fail
      go_meet
      refine ⟨congrArg Value.bool ?_, rfl⟩
      rw [HBB.out]
      simp [ha, hb]
    by_cases hc : c < 0
    · go_wp2_with fail
      go_meet
      refine ⟨congrArg Value.bool ?_, rfl⟩
      rw [HBB.out]
      simp [ha, hb, hc]
    by_cases hd : d < 0
    · go_wp2_with fail
      go_meet
      refine ⟨congrArg Value.bool ?_, rfl⟩
      rw [HBB.out]
      simp [ha, hb, hc, hd]
    by_cases he : e < 0
    · go_wp2_with fail
      go_meet
      refine ⟨congrArg Value.bool ?_, rfl⟩
      rw [HBB.out]
      simp [ha, hb, hc, hd, he]
    go_wp2_with fail
    go_meet
    refine ⟨congrArg Value.bool ?_, rfl⟩
    rw [HBB.out]
    simp [ha, hb, hc, hd, he]
  case rest =>
  obtain ⟨rfl, hwc⟩ := hcut
  obtain rfl : w1 = wc := hwc.symm
  have HBB := hide hbb
  clear hbb
  go_wp2_with fail
  go_loopw [36, 5] (fun i v wr => ∃ k : Nat, k ≤ nR ∧ i = .int .i64 k ∧ v = .bool (bb || (rs.take k).any rtNeg) ∧ Below g w wr) (fun i _ _ => nR - (intOf i).toNat)
  case atStart => exact ⟨0, Nat.zero_le _, rfl, by simp, t0⟩
  case round =>
    obtain ⟨k, hk, rfl, rfl, hb⟩ := hrel
    have hgr : g ≤ wr.heap.size := hg ▸ hb.size
    by_cases hlt : k < nR
    · have hlt' : (k : Int) < (nR : Int) := by omega
      obtain ⟨hl, ab, ao, rfl, hab, r0, r1, r2⟩ := (HC.out.below (hb.mono (by omega))).rt hlt
      have htk := any_take rs rtNeg k hl
      simp only at r0 r1 r2
      obtain ⟨x, hx⟩ : ∃ x, x = rs[k] := ⟨_, rfl⟩
      rw [← hx] at r0 r1 r2 htk
      obtain ⟨x0, hx0⟩ : ∃ y : ByteArray, y = ⟨x.1.toArray⟩ := ⟨_, rfl⟩
      obtain ⟨x1, hx1⟩ : ∃ y : ByteArray, y = ⟨x.2.1.toArray⟩ := ⟨_, rfl⟩
      obtain ⟨x2, hx2⟩ : ∃ y : Int, y = x.2.2 := ⟨_, rfl⟩
      rw [← hx0] at r0
      rw [← hx1] at r1
      rw [← hx2] at r2
      obtain ⟨v0, hv0⟩ : ∃ v : Bool, v = (bb || (rs.take k).any rtNeg) := ⟨_, rfl⟩
      rw [← hv0]
      have HT := hide (show (bb || (rs.take (k + 1)).any rtNeg) = (v0 || decide (x2 < 0)) by rw [htk, ← Bool.or_assoc, ← hv0, hx2]; rfl)
      have bz := Box.new wr #[.string x0, .string x1, .int .i64 x2] 42
      have tz := hb.alloc hgr (.cells #[.string x0, .string x1, .int .i64 x2] 42)
      obtain ⟨gz, hgz⟩ : ∃ y, wr.heap.size = y := ⟨_, rfl⟩
      rw [hgz] at bz
      clear htk hx hx0 hx1 hx2 hv0
      go_upto_region 5 with (fail)
      generalize wr.alloc _ = w5 at bz tz ⊢
      obtain ⟨c2, -⟩ := bz.2 2 _ rfl
      have HGZ := hide hgz
      clear r0 r1 r2 bz hgz
      rcases v0 with _ | _
      · by_cases h2 : x2 < 0
        · go_wp2_with fail
          go_roundw
          case rel => exact ⟨k + 1, by omega, by go_num, by rw [HT.out]; simp [h2], tz⟩
          case measure => simp [intOf]; omega
        · go_wp2_with fail
          go_roundw
          case rel => exact ⟨k + 1, by omega, by go_num, by rw [HT.out]; simp [h2], tz⟩
          case measure => simp [intOf]; omega
      · go_wp2_with fail
        go_roundw
        case rel => exact ⟨k + 1, by omega, by go_num, by rw [HT.out]; simp, tz⟩
        case measure => simp [intOf]; omega
    · have hlt' : ¬ (k : Int) < (nR : Int) := by omega
      have hall : rs.take k = rs := List.take_of_length_le (by have := HC.out.nR; simp only at this; omega)
      rw [hall]
      obtain ⟨vR, hvR⟩ : ∃ v : Bool, v = (bb || rs.any rtNeg) := ⟨_, rfl⟩
      rw [← hvR]
      have HVR := hide hvR
      have hbw := hb
      clear hall hvR t0 hb hgr
      go_wp2_with fail
      go_loopw [49, 5] (fun i v W => ∃ k : Nat, k ≤ n ∧ i = .int .i64 k ∧ v = .bool (vR || (al.take k).any acNeg) ∧ Below g w W) (fun i _ _ => n - (intOf i).toNat)
      case atStart => exact ⟨0, Nat.zero_le _, rfl, by simp, hbw⟩
      case round =>
        clear hbw
        obtain ⟨q, hq, rfl, rfl, hb⟩ := hrel
        have hgr : g ≤ wr.heap.size := hg ▸ hb.size
        by_cases hql : q < n
        · have hql' : (q : Int) < (n : Int) := by omega
          obtain ⟨hl, hl2, ab, ao, rfl, hab, r0, r1, r2, r3, -⟩ := (HS.out.below (hb.mono (by omega))).ac hql
          have htk := any_take al acNeg q hl
          simp only at r0 r1 r2 r3
          obtain ⟨x, hx⟩ : ∃ x, x = al[q] := ⟨_, rfl⟩
          rw [← hx] at r0 r1 r2 r3 htk
          obtain ⟨pv, hpv⟩ : ∃ v : Value, v = .slice (ps[q]).1 x.2.2.2.length (ps[q]).2 := ⟨_, rfl⟩
          obtain ⟨pA, hpA⟩ : ∃ v, v = (ps[q]).1 := ⟨_, rfl⟩
          obtain ⟨pc, hpc⟩ : ∃ v, v = (ps[q]).2 := ⟨_, rfl⟩
          obtain ⟨pn, hpn⟩ : ∃ v, v = x.2.2.2.length := ⟨_, rfl⟩
          rw [← hpA, ← hpc, ← hpn] at r3
          obtain ⟨x0, hx0⟩ : ∃ y : Int, y = x.1 := ⟨_, rfl⟩
          obtain ⟨x1, hx1⟩ : ∃ y : Int, y = x.2.1 := ⟨_, rfl⟩
          obtain ⟨x2, hx2⟩ : ∃ y : Int, y = x.2.2.1 := ⟨_, rfl⟩
          rw [← hx0] at r0
          rw [← hx1] at r1
          rw [← hx2] at r2
          obtain ⟨v0, hv0⟩ : ∃ v : Bool, v = (vR || (al.take q).any acNeg) := ⟨_, rfl⟩
          rw [← hv0]
          have HT := hide (show (vR || (al.take (q + 1)).any acNeg) = (v0 || (decide (x0 < 0) || decide (x1 < 0) || decide (x2 < 0))) by rw [htk, ← Bool.or_assoc, ← hv0, hx0, hx1, hx2]; rfl)
          have bz := Box.new wr #[.int .i64 x0, .int .i64 x1, .int .i64 x2, .slice pA pn pc] 40
          have tz := hb.alloc hgr (.cells #[.int .i64 x0, .int .i64 x1, .int .i64 x2, .slice pA pn pc] 40)
          obtain ⟨gz, hgz⟩ : ∃ y, wr.heap.size = y := ⟨_, rfl⟩
          rw [hgz] at bz
          clear htk hx hx0 hx1 hx2 hv0 hpv hpA hpc hpn
          go_upto_region 10 with (fail)
          generalize wr.alloc _ = w5 at bz tz ⊢
          obtain ⟨c0, -⟩ := bz.2 0 _ rfl
          obtain ⟨c1, -⟩ := bz.2 1 _ rfl
          obtain ⟨c2, -⟩ := bz.2 2 _ rfl
          have HGZ := hide hgz
          clear r0 r1 r2 r3 bz hgz
          rcases v0 with _ | _
          · by_cases h0 : x0 < 0
            · go_wp2_with fail
              go_roundw
              case rel => exact ⟨q + 1, by omega, by go_num, by rw [HT.out]; simp [h0], tz⟩
              case measure => simp [intOf]; omega
            by_cases h1 : x1 < 0
            · go_wp2_with fail
              go_roundw
              case rel => exact ⟨q + 1, by omega, by go_num, by rw [HT.out]; simp [h0, h1], tz⟩
              case measure => simp [intOf]; omega
            by_cases h2 : x2 < 0
            · go_wp2_with fail
              go_roundw
              case rel => exact ⟨q + 1, by omega, by go_num, by rw [HT.out]; simp [h0, h1, h2], tz⟩
              case measure => simp [intOf]; omega
            · go_wp2_with fail
              go_roundw
              case rel => exact ⟨q + 1, by omega, by go_num, by rw [HT.out]; simp [h0, h1, h2], tz⟩
              case measure => simp [intOf]; omega
          · go_wp2_with fail
            go_roundw
            case rel => exact ⟨q + 1, by omega, by go_num, by rw [HT.out]; simp, tz⟩
            case measure => simp [intOf]; omega
        · have hql' : ¬ (q : Int) < (n : Int) := by omega
          have hall : al.take q = al := List.take_of_length_le (by have := HS.out.nA; simp only at this; omega)
          rw [hall]
          clear hall
          go_wp2_with fail
          go_ret
          refine ⟨?_, hb⟩
          show Ending.returned (Value.bool (vR || al.any acNeg)) = _
          unfold belowB cfgNeg
          simp only
          rw [HVR.out, HBB.out]
theorem Box.below3 {w w' : World} {g r : Nat} {cs : List Value} (h : Box w g cs) (hb : Below r w w') (hg : g < r) : Box w' g cs := by
  refine ⟨Nat.lt_of_lt_of_le h.1 hb.size, fun j u hu => ?_⟩
  have e : w'.heap[g]? = w.heap[g]? := hb.block g hg
  exact ⟨(World.cell?_of_block (a := ⟨g, j, none⟩) e).trans (h.2 j u hu).1, (World.frozen?_of_block (a := ⟨g, j, none⟩) e).trans (h.2 j u hu).2⟩
def totR (rs : List RtI) : Nat := (rs.map fun r => r.1.length + r.2.1.length).sum
def totT (ts : List (List UInt8)) : Nat := (ts.map List.length).sum
def totA (al : List AcI) : Nat := (al.map fun a => a.2.2.2.length).sum
theorem sum_take {α : Type} (l : List α) (f : α → Nat) (k : Nat) (h : k < l.length) : ((l.take (k + 1)).map f).sum = ((l.take k).map f).sum + f l[k] := by
  rw [list_take_snoc l k h, List.map_append, List.sum_append]; simp
theorem sum_take_le {α : Type} (l : List α) (f : α → Nat) (k : Nat) : ((l.take k).map f).sum ≤ (l.map f).sum := by
  have := congrArg List.sum (congrArg (List.map f) (List.take_append_drop k l))
  rw [List.map_append, List.sum_append] at this
  omega
set_option maxRecDepth 100000 in
set_option maxHeartbeats 3200000 in
theorem scrlarge_any (C : CfgA) (S : ActA) (w : World) (B : Nat) (hC : C.In w B) (hS : S.In w B) (hB : B ≤ w.heap.size) (hn : C.nR ≤ 100000 ∧ C.nT ≤ 100000 ∧ S.n ≤ 100000) (ht : totR C.rs + totT C.ts + totA S.al ≤ 2000000) :
    Calls Tryd.prog 14 #[C.val, S.val] w fun e w' => e = .returned (.bool false) ∧ Below w.heap.size w w' := by
  obtain ⟨AR, nR, cR, AT, nT, cT, a, b, c, d, e, rs, ts⟩ := C
  obtain ⟨A, n, cA, al, ps⟩ := S
  simp only [CfgA.val, ActA.val] at *
  obtain ⟨g, hg⟩ : ∃ g, w.heap.size = g := ⟨_, rfl⟩
  have bx := Box.new w #[.slice AR nR cR, .slice AT nT cT, .int .i64 a, .int .i64 b, .int .i64 c, .int .i64 d, .int .i64 e] 25
  have t0 : Below g w (w.alloc (.cells #[.slice AR nR cR, .slice AT nT cT, .int .i64 a, .int .i64 b, .int .i64 c, .int .i64 d, .int .i64 e] 25)) := (Below.refl _ _).alloc (Nat.le_of_eq hg.symm) _
  rw [hg] at bx
  obtain ⟨n1, n2, n3⟩ := hn
  have HC := hide hC
  have HS := hide hS
  clear hC hS
  go_enter Tryd.func14, Tryd.ntmps14
  go_upto_region 1 with (fail)
  generalize w.alloc _ = w1 at bx t0 ⊢
  obtain ⟨k0, -⟩ := bx.2 0 _ rfl
  obtain ⟨tR, htR⟩ : ∃ x, x = totR rs := ⟨_, rfl⟩
  obtain ⟨tT, htT⟩ : ∃ x, x = totT ts := ⟨_, rfl⟩
  obtain ⟨tA, htA⟩ : ∃ x, x = totA al := ⟨_, rfl⟩
  rw [← htR, ← htT, ← htA] at ht
  have HTR := hide htR
  have HTT := hide htT
  have HTA := hide htA
  clear htR htT htA
  go_wp2_with fail
  go_loopw [15, 5] (fun i v wr => ∃ k s : Nat, k ≤ nR ∧ i = .int .i64 k ∧ v = .int .i64 s ∧ s = totR (rs.take k) ∧ Below g w wr ∧ Below (g + 1) w1 wr) (fun i _ _ => nR - (intOf i).toNat)
  case atStart => exact ⟨0, 0, Nat.zero_le _, rfl, rfl, rfl, t0, Below.refl _ _⟩
  case round =>
    obtain ⟨k, s, hk, rfl, rfl, hs, hb, hb1⟩ := hrel
    have hgr : g ≤ wr.heap.size := hg ▸ hb.size
    have hgr1 : g + 1 ≤ wr.heap.size := by have := bx.1; have := hb1.size; omega
    by_cases hlt : k < nR
    · have hlt' : (k : Int) < (nR : Int) := by omega
      obtain ⟨hl, ab, ao, rfl, hab, r0, r1, r2⟩ := (HC.out.below (hb.mono (by omega))).rt hlt
      have htk := sum_take rs (fun r => r.1.length + r.2.1.length) k hl
      have hle := sum_take_le rs (fun r => r.1.length + r.2.1.length) (k + 1)
      simp only at r0 r1 r2
      obtain ⟨x, hx⟩ : ∃ x, x = rs[k] := ⟨_, rfl⟩
      rw [← hx] at r0 r1 r2 htk
      obtain ⟨x0, hx0⟩ : ∃ y : ByteArray, y = ⟨x.1.toArray⟩ := ⟨_, rfl⟩
      obtain ⟨x1, hx1⟩ : ∃ y : ByteArray, y = ⟨x.2.1.toArray⟩ := ⟨_, rfl⟩
      obtain ⟨x2, hx2⟩ : ∃ y : Int, y = x.2.2 := ⟨_, rfl⟩
      have z0 : x0.size = x.1.length := by rw [hx0]; simp [ByteArray.size]
      have z1 : x1.size = x.2.1.length := by rw [hx1]; simp [ByteArray.size]
      rw [← hx0] at r0
      rw [← hx1] at r1
      rw [← hx2] at r2
      have hsum : s + (x0.size + x1.size) ≤ 2000000 := by
        have h1 : totR (rs.take (k + 1)) ≤ tR := by rw [HTR.out]; exact hle
        have h2 : totR (rs.take (k + 1)) = s + (x0.size + x1.size) := by rw [hs, z0, z1]; exact htk
        omega
      have hnext : s + (x0.size + x1.size) = totR (rs.take (k + 1)) := by rw [hs, z0, z1]; exact htk.symm
      have HN := hide hnext
      have bz := Box.new wr #[.string x0, .string x1, .int .i64 x2] 42
      have tz := hb.alloc hgr (.cells #[.string x0, .string x1, .int .i64 x2] 42)
      have tz1 := hb1.alloc hgr1 (.cells #[.string x0, .string x1, .int .i64 x2] 42)
      obtain ⟨gz, hgz⟩ : ∃ y, wr.heap.size = y := ⟨_, rfl⟩
      rw [hgz] at bz
      clear htk hx hx0 hx1 hx2 hs z0 z1 hnext hle
      go_upto_region 5 with (fail)
      generalize wr.alloc _ = w5 at bz tz tz1 ⊢
      obtain ⟨c0, -⟩ := bz.2 0 _ rfl
      obtain ⟨c1, -⟩ := bz.2 1 _ rfl
      clear r0 r1 r2 bz hgz
      go_wp2_with fail
      go_roundw
      case rel => exact ⟨k + 1, s + (x0.size + x1.size), by omega, by go_num, by go_num, HN.out, tz, tz1⟩
      case measure => simp [intOf]; omega
    · have hlt' : ¬ (k : Int) < (nR : Int) := by omega
      have hsR : s ≤ tR := by rw [hs, HTR.out]; exact sum_take_le rs (fun r => r.1.length + r.2.1.length) k
      have bx2 := Box.below3 bx hb1 (Nat.lt_succ_self g)
      obtain ⟨kT, -⟩ := bx2.2 1 _ rfl
      have hb0 := hb
      clear hs t0 hgr hgr1 hb hb1
      go_wp2_with fail
      go_loopw [32, 5] (fun i v W => ∃ k2 s2 : Nat, k2 ≤ nT ∧ i = .int .i64 k2 ∧ v = .int .i64 s2 ∧ s2 = s + totT (ts.take k2) ∧ Below g w W) (fun i _ _ => nT - (intOf i).toNat)
      case atStart => exact ⟨0, s, Nat.zero_le _, rfl, rfl, rfl, hb0⟩
      case round =>
        clear hb0
        obtain ⟨q, s2, hq, rfl, rfl, hs2, hb0⟩ := hrel
        have hgr : g ≤ wr.heap.size := hg ▸ hb0.size
        by_cases hql : q < nT
        · have hql' : (q : Int) < (nT : Int) := by omega
          have hl : q < ts.length := by have := HC.out.nT; simp only at this; omega
          obtain ⟨ax, rfl, hab, r0⟩ := Rd.text (HC.out.below (hb0.mono (by omega))).2 hql hl
          have htk := sum_take ts List.length q hl
          have hle := sum_take_le ts List.length (q + 1)
          obtain ⟨x, hx⟩ : ∃ x, x = ts[q] := ⟨_, rfl⟩
          rw [← hx] at r0 htk
          obtain ⟨x0, hx0⟩ : ∃ y : ByteArray, y = ⟨x.toArray⟩ := ⟨_, rfl⟩
          have z0 : x0.size = x.length := by rw [hx0]; simp [ByteArray.size]
          rw [← hx0] at r0
          have hnext : s2 + x0.size = s + totT (ts.take (q + 1)) := by rw [hs2, z0, Nat.add_assoc]; congr 1; exact htk.symm
          have hsum : s2 + x0.size ≤ 2000000 := by
            have h1 : totT (ts.take (q + 1)) ≤ tT := by rw [HTT.out]; exact hle
            omega
          have HN := hide hnext
          clear htk hx hx0 hs2 z0 hnext hle
          go_wp2_with fail
          go_roundw
          case rel => exact ⟨q + 1, s2 + x0.size, by omega, by go_num, by go_num, HN.out, hb0⟩
          case measure => simp [intOf]; omega
        · have hql' : ¬ (q : Int) < (nT : Int) := by omega
          have hsT : s2 ≤ tR + tT := by
            have h1 : totT (ts.take q) ≤ tT := by rw [HTT.out]; exact sum_take_le ts List.length q
            omega
          clear hs2
          go_wp2_with fail
          go_loopw [43, 5] (fun i v W => ∃ k3 s3 : Nat, k3 ≤ n ∧ i = .int .i64 k3 ∧ v = .int .i64 s3 ∧ s3 = s2 + totA (al.take k3) ∧ Below g w W) (fun i _ _ => n - (intOf i).toNat)
          case atStart => exact ⟨0, s2, Nat.zero_le _, rfl, rfl, rfl, hb0⟩
          case round =>
            clear hb0
            obtain ⟨z, s3, hz, rfl, rfl, hs3, hb⟩ := hrel
            have hgr : g ≤ wr.heap.size := hg ▸ hb.size
            by_cases hzl : z < n
            · have hzl' : (z : Int) < (n : Int) := by omega
              obtain ⟨hl, hl2, ab, ao, rfl, hab, r0, r1, r2, r3, -⟩ := (HS.out.below (hb.mono (by omega))).ac hzl
              have htk := sum_take al (fun a => a.2.2.2.length) z hl
              have hle := sum_take_le al (fun a => a.2.2.2.length) (z + 1)
              simp only at r0 r1 r2 r3
              obtain ⟨x, hx⟩ : ∃ x, x = al[z] := ⟨_, rfl⟩
              rw [← hx] at r0 r1 r2 r3 htk
              obtain ⟨pA, hpA⟩ : ∃ v, v = (ps[z]).1 := ⟨_, rfl⟩
              obtain ⟨pc, hpc⟩ : ∃ v, v = (ps[z]).2 := ⟨_, rfl⟩
              obtain ⟨pn, hpn⟩ : ∃ v, v = x.2.2.2.length := ⟨_, rfl⟩
              rw [← hpA, ← hpc, ← hpn] at r3
              obtain ⟨x0, hx0⟩ : ∃ y : Int, y = x.1 := ⟨_, rfl⟩
              obtain ⟨x1, hx1⟩ : ∃ y : Int, y = x.2.1 := ⟨_, rfl⟩
              obtain ⟨x2, hx2⟩ : ∃ y : Int, y = x.2.2.1 := ⟨_, rfl⟩
              rw [← hx0] at r0
              rw [← hx1] at r1
              rw [← hx2] at r2
              have hnext : s3 + pn = s2 + totA (al.take (z + 1)) := by rw [hs3, hpn, Nat.add_assoc]; congr 1; exact htk.symm
              have hsum : s3 + pn ≤ 2000000 := by
                have h1 : totA (al.take (z + 1)) ≤ tA := by rw [HTA.out]; exact hle
                omega
              have HN := hide hnext
              have bz := Box.new wr #[.int .i64 x0, .int .i64 x1, .int .i64 x2, .slice pA pn pc] 40
              have tz := hb.alloc hgr (.cells #[.int .i64 x0, .int .i64 x1, .int .i64 x2, .slice pA pn pc] 40)
              obtain ⟨gz, hgz⟩ : ∃ y, wr.heap.size = y := ⟨_, rfl⟩
              rw [hgz] at bz
              clear htk hx hx0 hx1 hx2 hpA hpc hpn hs3 hnext hle
              go_upto_region 15 with (fail)
              generalize wr.alloc _ = w5 at bz tz ⊢
              obtain ⟨c3, -⟩ := bz.2 3 _ rfl
              clear r0 r1 r2 r3 bz hgz
              go_wp2_with fail
              go_roundw
              case rel => exact ⟨z + 1, s3 + pn, by omega, by go_num, by go_num, HN.out, tz⟩
              case measure => simp [intOf]; omega
            · have hzl' : ¬ (z : Int) < (n : Int) := by omega
              have hsA : s3 ≤ tR + tT + tA := by
                have h1 : totA (al.take z) ≤ tA := by rw [HTA.out]; exact sum_take_le al (fun a => a.2.2.2.length) z
                omega
              have hno : ¬ ((4194304 : Int) < 2 * (s3 : Int)) := by omega
              clear hs3
              go_wp2_with fail
              go_ret
              exact ⟨rfl, hb⟩
end Go.Proofs.YtbgbggodjhbgbaaDoor
