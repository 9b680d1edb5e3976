/- RingActs: the walk. -/
import Derived.Test.YtbjfhommjkcipaaRingNil
import Derived.Test.YtbjfhommjkcipaaRingB
import Derived.Test.YtbjfhommjkcipaaOwn
import Derived.Test.YtbjfhommjkcipaaSame
import Derived.Test.YtbjfhommjkcipaaRingPosts
import Derived.Test.YtbjfhommjkcipaaBoxA
import Derived.Deep.DeepCutAuto
import Derived.Deep.CutBlock
import Derived.Deep.RegionHeld3
namespace Go.Proofs.Ytbjfhommjkcipaa.RingActsP
open Go.RowKit
open RingPostsP (boundL_any)
set_option linter.unusedVariables false
set_option linter.unusedSimpArgs false

/-- The cells of an act: what to do, a number, bytes. -/
def ActAt (w : World) (b o : Nat) (d n : Int) (A : Option Addr) (m c : Nat) : Prop :=
  w.cell? ⟨b, o, none⟩ = some (.int .i64 d) ∧ w.cell? ⟨b, o + 1, none⟩ = some (.int .i64 n) ∧ w.cell? ⟨b, o + 2, none⟩ = some (.slice A m c)
/-- The list l and the ring hold the same bytes. -/
def SRel (mst r : Nat) (w : World) (l : Value) (wr : World) : Prop :=
  ∃ (q : Nat) (d : Option Nat) (bs : List UInt8), Ow wr r 1 l q (bcells bs) ∧ IsRing wr 60 1 r q mst d (bcells bs) ∧
    l.ownBlock ≠ some r ∧ (l.ownBlock = none ∨ l.ownBlock ≠ d) ∧ w.heap.size ≤ r ∧ Below w.heap.size w wr
theorem ow_none {w : World} {base size n c : Nat} {L : Option Addr} {xs : List Value} (h : Ow w base size (.slice L n c) n xs) : L = none → c = 0 ∧ n = 0 := by
  rintro rfl
  rcases h.2 with ⟨hv, h0⟩ | ⟨g, off, cap, hv, _⟩
  · cases hv; exact ⟨rfl, rfl⟩
  · cases hv
def U8s (zs : List Value) : Prop := ∀ u ∈ zs, ∃ z : Int, u = .int .u8 z
theorem U8s.of_bytes (l : List UInt8) : U8s (bcells l) := by
  intro u hu
  obtain ⟨b, _, rfl⟩ := List.mem_map.1 hu
  exact ⟨_, rfl⟩
theorem U8s.set_ {zs : List Value} (h : U8s zs) (k : Nat) (x : Int) : U8s (zs.set k (.int .u8 x)) := by
  intro u hu
  rcases List.mem_or_eq_of_mem_set hu with h1 | rfl
  · exact h u h1
  · exact ⟨x, rfl⟩
/-- Where the row v lies apart, a write to it leaves what the relation says. -/
theorem SRel.far {mst r : Nat} {w wx : World} {l : Value} {q : Nat} {d : Option Nat} {bs : List UInt8} {wb : World} {g : Nat} (hl : Ow wb r 1 l q (bcells bs)) (hr : IsRing wb 60 1 r q mst d (bcells bs))
    (h1 : l.ownBlock ≠ some r) (h2 : l.ownBlock = none ∨ l.ownBlock ≠ d) (h3 : w.heap.size ≤ r) (hb : Below w.heap.size w wb) (hg : wb.grownBy wx (some g)) (hgr : g ≠ r) (hgd : d ≠ some g) (hgl : l.ownBlock ≠ some g) (hgw : w.heap.size ≤ g) : SRel mst r w l wx :=
  ⟨q, d, bs, hl.kept hg (.inr hgl), hr.grown hg (by simpa using hgr) (.inr (fun e => hgd e.symm)), h1, h2, h3, hb.grown hg hb.size (fun k hk => by cases hk; exact hgw)⟩

/-- What holds behind Push and the append to the list. -/
theorem push_rel {M r q p1 m lc c1 : Nat} {d d' : Option Nat} {w wz w5 w6 w7 : World} {L A1 : Option Addr} {v2 : Value} {bs ys : List UInt8}
    (hl : Ow wz r 1 (.slice L q lc) q (bcells bs)) (hl1 : (Value.slice L q lc).ownBlock ≠ some r) (hl2 : (Value.slice L q lc).ownBlock = none ∨ (Value.slice L q lc).ownBlock ≠ d) (hrw : w.heap.size ≤ r) (hrz : r < wz.heap.size) (hb : Below w.heap.size w wz)
    (hdz : ∀ g, d = some g → g < wz.heap.size) (b5 : Below wz.heap.size wz w5) (ho5 : Ow w5 wz.heap.size 1 (.slice A1 m c1) m (bcells ys))
    (hr6 : IsRing w6 60 1 r (q + p1) M d' (bcells (bs ++ ys.take p1))) (hd' : d' = d ∨ ∀ g, d' = some g → w5.heap.size ≤ g) (g6 : w5.grownBy w6 (some r))
    (ho7 : Ow w7 r 1 v2 (q + p1) (bcells (bs ++ ys.take p1))) (b7 : Below r w6 w7) (g7 : w6.grownBy w7 (Value.slice L q lc).ownBlock) (hv2 : v2.ownBlock = (Value.slice L q lc).ownBlock ∨ ∀ g, v2.ownBlock = some g → w6.heap.size ≤ g) :
    Ow w7 wz.heap.size 1 (.slice A1 m c1) m (bcells ys) ∧ IsRing w7 60 1 r (q + p1) M d' (bcells (bs ++ ys.take p1)) ∧ v2.ownBlock ≠ some r ∧ (v2.ownBlock = none ∨ v2.ownBlock ≠ d') ∧ Below w.heap.size w w7 ∧
      ∀ g, (Value.slice A1 m c1).ownBlock = some g → g ≠ r ∧ d' ≠ some g ∧ v2.ownBlock ≠ some g ∧ w.heap.size ≤ g := by
  have z5 := b5.size
  have z6 := g6.size
  have hlz := hl.lt
  have h5 := ho5.lt
  have hA : ∀ g, (Value.slice A1 m c1).ownBlock = some g → g ≠ r ∧ d' ≠ some g ∧ v2.ownBlock ≠ some g ∧ w.heap.size ≤ g := fun g hg => by
    have h := h5 g hg
    refine ⟨by omega, fun e => ?_, fun e => ?_, by omega⟩
    · rcases hd' with rfl | hd'
      · have := hdz g e; omega
      · have := hd' g e; omega
    · rcases hv2 with h2 | h2
      · have := hlz g (h2 ▸ e); omega
      · have := h2 g e; omega
  have hld : (Value.slice L q lc).ownBlock = none ∨ (Value.slice L q lc).ownBlock ≠ d' := by
    rcases hd' with rfl | hd'
    · exact hl2
    · rcases hob : (Value.slice L q lc).ownBlock with _ | g
      · exact .inl rfl
      · right
        intro e
        have h1 := hd' g e.symm
        have h2 := hlz g hob
        omega
  refine ⟨?_, hr6.grown g7 hl1 hld, ?_, ?_, ?_, hA⟩
  · refine (ho5.kept g6 ?_).kept g7 ?_
    · rcases hob : (Value.slice A1 m c1).ownBlock with _ | g
      · exact .inl rfl
      · right; intro e; exact (hA g hob).1 (Option.some.inj e)
    · rcases hob : (Value.slice A1 m c1).ownBlock with _ | g
      · exact .inl rfl
      · right; intro e
        have h1 := h5 g hob
        have h2 := hlz g e.symm
        omega
  · intro e
    rcases hv2 with h2 | h2
    · exact hl1 (h2 ▸ e)
    · have := h2 r e; omega
  · rcases hv2 with h2 | h2
    · rw [h2]; exact hld
    · rcases hob : v2.ownBlock with _ | g
      · exact .inl rfl
      · right; intro e
        have h3 := h2 g hob
        have h4 := (hr6.far g e.symm).2
        omega
  · exact ((hb.trans (b5.mono hb.size)).grown g6 (Nat.le_trans hb.size z5) (fun k hk => by cases hk; exact hrw)).trans (b7.mono hrw)

set_option maxRecDepth 100000 in
set_option maxHeartbeats 16000000 in
theorem walk (mst : Int) (A : Option Addr) (n c : Nat) (w : World) (_hwf : (Lit.int .i64 mst).wf = true) (hn : n ≤ 9223372036854775807)
   (hacts : ∀ k, k < n → ∃ ab ao d nn B m cc ys, A = some ⟨ab, ao, none⟩ ∧ ab < w.heap.size ∧ ActAt w ab (ao + k * 3) d nn B m cc ∧ Rd w w.heap.size 1 B m (bcells ys) ∧ m ≤ cc ∧ cc ≤ maxLen) :
    Calls Try.prog 3 #[.int .i64 mst, .slice A n c] w fun e w' => e = .returned (.bool true) ∧ Below w.heap.size w w' := by
  have HA := hide hacts
  clear hacts
  obtain ⟨M, hM⟩ : ∃ M, M = most mst := ⟨_, rfl⟩
  have hm := most_le mst
  have qn := newB mst w
  have qb := fun w => boundL_any mst w
  simp only [← hM] at qn qb hm
  clear hM
  go_enter Try.func3, Try.ntmps3
  go_wp2_with fail
  refine qn.mono ?_
  rintro e w1 ⟨rfl, hr1, hb1⟩
  go_wp2_with fail
  refine (answers_any w1).mono ?_
  rintro e w2 ⟨rfl, hb2⟩
  go_wp2_with fail
  refine (qb w2).mono ?_
  rintro e w3 ⟨rfl, rfl⟩
  have hr2 := hr1.below hb2
  have hb12 : Below w.heap.size w w2 := hb1.trans (hb2.mono hb1.size)
  obtain ⟨r, hrr⟩ : ∃ r, r = w.heap.size := ⟨_, rfl⟩
  have hrw : w.heap.size ≤ r := by omega
  rw [← hrr] at hr2 ⊢
  clear hrr qb qn hr1 hb1 hb2
  go_wp2_with fail
  go_loopw [6, 7] (fun l i wr => (∃ k : Nat, k ≤ n ∧ i = .int .i64 k) ∧ SRel M r w l wr) (fun _ i _ => n - (intOf i).toNat)
  case atStart => exact ⟨⟨0, by omega, rfl⟩, 0, none, [], Ow.nil_, hr2, by simp [Value.ownBlock], .inl rfl, hrw, hb12⟩
  case round =>
    clear hr2 hb12
    obtain ⟨⟨k, hk, rfl⟩, q, d, bs, hl, hr, hl1, hl2, -, hb⟩ := hrel
    obtain ⟨L, lc, rfl, hlc1, hlc2⟩ := hl.shape
    have hq := hr.le
    by_cases hkn : k < n
    · by_cases hk100 : k < 100
      · obtain ⟨ab, ao, dd, nn, B, m, cc, ys, rfl, hab, ⟨c0, c1, c2⟩, hy, hmc, hcc⟩ := HA.out k hkn
        have e0 := (hb.cell (p := ⟨ab, ao + k * 3, none⟩) hab).trans c0
        have e1 := (hb.cell (p := ⟨ab, ao + k * 3 + 1, none⟩) hab).trans c1
        have e2 := (hb.cell (p := ⟨ab, ao + k * 3 + 2, none⟩) hab).trans c2
        clear c0 c1 c2
        have hrel0 : SRel M r w (.slice L q lc) (wr.alloc (.cells #[.int .i64 dd, .int .i64 nn, .slice B m cc] 29)) := ⟨q, d, bs, hl.alloc _, hr.below ((Below.refl _ _).alloc (Nat.le_refl _) _), hl1, hl2, hrw, hb.alloc hb.size _⟩
        by_cases hbig : 1000 < m
        · have HR := hide hrel0
          clear hrel0 hl hr hb
          go_wp2_with fail
          go_roundw
          case rel => exact ⟨⟨k + 1, by omega, by go_num⟩, HR.out⟩
          case measure => simp [intOf]; omega
        have hbig' : ¬ (1000 < (m : Int)) := by omega
        have bx := Box.new wr #[.int .i64 dd, .int .i64 nn, .slice B m cc] 29
        have hBa : Below wr.heap.size wr (wr.alloc (.cells #[.int .i64 dd, .int .i64 nn, .slice B m cc] 29)) := (Below.refl _ _).alloc (Nat.le_refl _) _
        have hrlt := hr.lt
        have hrf : ∀ g, d = some g → g ≠ r ∧ g < wr.heap.size := hr.far
        have hlf : ∀ g, (Value.slice L q lc).ownBlock = some g → g < wr.heap.size := fun g hg => (hl.lt g hg).2
        replace hl := hl.below hBa
        replace hr := hr.below hBa
        replace hy : Rd (wr.alloc (.cells #[.int .i64 dd, .int .i64 nn, .slice B m cc] 29)) w.heap.size 1 B m (bcells ys) := (hy.below hb).below (hBa.mono hb.size)
        replace hb : Below w.heap.size w (wr.alloc (.cells #[.int .i64 dd, .int .i64 nn, .slice B m cc] 29)) := hb.trans (hBa.mono hb.size)
        have gzz : wr.heap.size < (wr.alloc (.cells #[.int .i64 dd, .int .i64 nn, .slice B m cc] 29)).heap.size := by simp
        go_upto_region 10 with (fail)
        generalize wr.alloc (.cells #[.int .i64 dd, .int .i64 nn, .slice B m cc] 29) = wa at bx hl hr hb hy gzz hrel0 ⊢
        generalize wr.heap.size = ga at bx gzz hrlt hrf hlf ⊢
        obtain ⟨x0, x1, x2⟩ := bx.three
        clear hBa e0 e1 e2 hbig
        obtain ⟨p, hp, hpm, hpq⟩ : ∃ p : Nat, (p : Int) = max 0 (min nn q) ∧ p = (min nn (q : Int)).toNat ∧ p ≤ q := ⟨(min nn (q : Int)).toNat, by omega, rfl, by omega⟩
        have HP := hide hp
        have HPM := hide hpm
        clear hp hpm
        go_upto_if 49 with (fail)
        go_cut [9] (fun s9 wx => s9 = .int .i64 (min nn q) ∧ wx = wa)
        case first =>
          go_wp2
          all_goals go_meet
          case rel => exact ⟨congrArg _ (by omega), rfl⟩
          case rel => exact ⟨congrArg _ (by omega), rfl⟩
        case rest =>
          obtain ⟨rfl, rfl⟩ := hcut
          go_upto_if 53 with (fail)
          go_cut [9] (fun s9 wx => s9 = .int .i64 (p : Int) ∧ wx = wc)
          case first =>
            go_wp2
            all_goals go_meet
            case rel => exact ⟨congrArg _ (by have := HP.out; omega), rfl⟩
            case rel => exact ⟨congrArg _ (by have := HP.out; omega), rfl⟩
          case rest =>
            obtain ⟨rfl, rfl⟩ := hcut
            obtain ⟨wz, hwz⟩ : ∃ wz, wz = wc := ⟨_, rfl⟩
            rw [← hwz] at hl hr hb hy bx x0 x1 x2 gzz hrel0 ⊢
            clear hwz
            have hpl : (p : Int) ≤ (lc : Int) := by omega
            by_cases h3 : dd = 3
            · subst h3
              have n1 : ((3 : Int) == 1) = false := by decide
              have n2 : ((3 : Int) == 2) = false := by decide
              have q1 := peekB r q M d nn (bcells bs) wz hr (by omega) (bcells_one _) p HPM.out
              rw [Nat.mul_one, bcells_take] at q1
              clear hrel0 hy x2 bx
              go_wp2_with fail
              refine q1.mono ?_
              rintro e w5 ⟨A3, c3, rfl, ho, hc3, -, hb5⟩
              have hrd1 := Rd.of_own ho
              have hrd2 := (hl.rd.below hb5).front hpq
              rw [Nat.mul_one, bcells_take] at hrd2
              have q2 := same_any A3 L p c3 p lc _ _ _ _ w5 hrd1 hrd2 (by omega) (by omega)
              rw [beq_self_eq_true] at q2
              clear q1 hrd1 hrd2
              go_wp2_with fail
              refine q2.mono ?_
              rintro e w6 ⟨rfl, kq, rfl⟩
              clear q2
              have hba : Below w.heap.size w (w5.drewN kq) := below_drewN (hb.trans (hb5.mono hb.size))
              have hla : Ow (w5.drewN kq) r 1 (.slice L q lc) q (bcells bs) := (hl.below hb5).drewN _
              have hra := (hr.below hb5).drewN kq
              have hoa : Ow (w5.drewN kq) wz.heap.size 1 (.slice A3 p c3) p (bcells (bs.take p)) := (Ow.of_row ho).drewN _
              obtain ⟨gz, hgz⟩ : ∃ g, g = wz.heap.size := ⟨_, rfl⟩
              rw [← hgz] at hoa gzz
              clear ho hl hr hb hb5 x0 x1 hgz
              go_wp2_with fail
              go_loopw [15] (fun i wx => ∃ (j : Nat) (zs : List Value), j ≤ p ∧ i = .int .i64 j ∧ Ow wx gz 1 (.slice A3 p c3) p zs ∧ U8s zs ∧ (w5.drewN kq).grownBy wx (Value.slice A3 p c3).ownBlock) (fun i _ => p - (intOf i).toNat)
              case atStart => exact ⟨0, _, by omega, rfl, hoa, U8s.of_bytes _, World.grownBy.refl _ _⟩
              case round =>
                obtain ⟨j, zs, hj, rfl, ho, hzs, hg⟩ := hrel
                by_cases hjp : j < p
                · obtain ⟨g, off, rfl, hg1, hg2, hcell, hfr⟩ := ho.at_ (j := j) (by omega)
                  have hjz : j < zs.length := by rw [ho.1]; omega
                  obtain ⟨z, hz⟩ := hzs zs[j] (List.getElem_mem hjz)
                  rw [List.getElem?_eq_getElem hjz, hz] at hcell
                  have hst := fun u => ho.store (j := j) (by omega) u
                  have hg' : (w5.drewN kq).grownBy wr (some g) := hg
                  have hg'' : ∀ u, (w5.drewN kq).grownBy (wr.setCell ⟨g, off + j, none⟩ u) (some g) := fun u => grown_set hg' _ u
                  have HS := hide hst
                  have HZ := hide hz
                  have HG := hide hg''
                  clear hst hg hz hg' hg'' ho hoa hla hra hba
                  go_wp2
                  go_roundw
                  case rel => exact ⟨j + 1, _, by omega, by go_num, HS.out _, hzs.set_ _ _, HG.out _⟩
                  case measure => simp [intOf]; omega
                · have hsr : SRel M r w (.slice L q lc) wr ∧ IsRing wr 60 1 r q M d (bcells bs) := by
                    rcases hA1 : (Value.slice A3 p c3).ownBlock with _ | g
                    · rw [hA1] at hg
                      have hbx := below_of_grown hg
                      exact ⟨⟨q, d, bs, hla.below hbx, hra.below hbx, hl1, hl2, hrw, hba.trans (hbx.mono hba.size)⟩, hra.below hbx⟩
                    · rw [hA1] at hg
                      have h5 := (hoa.lt g hA1).1
                      have hgr : g ≠ r := by omega
                      have hgd : d ≠ some g := fun e => by have := (hrf g e).2; omega
                      exact ⟨SRel.far hla hra hl1 hl2 hrw hba hg hgr hgd (fun e => by have := hlf g e; omega) (by omega), hra.grown hg (by simpa using hgr) (.inr (fun e => hgd e.symm))⟩
                  obtain ⟨hsr, hrr⟩ := hsr
                  have q3 := lenB r q M d (bcells bs) wr hrr
                  have q4 := roomB r q M d (bcells bs) wr hrr (by omega)
                  have HR := hide hsr
                  clear hsr ho hg hoa hla hra hba hrr
                  go_wp2_with fail
                  refine q3.mono ?_
                  rintro e w7 ⟨rfl, rfl⟩
                  go_wp2_with fail
                  refine q4.mono ?_
                  rintro e w7 ⟨rfl, kr, rfl⟩
                  go_wp2_with fail
                  go_roundw
                  case rel =>
                    obtain ⟨q'', d'', bs'', g1, g2, g3, g4, g5, g6⟩ := HR.out
                    exact ⟨⟨k + 1, by omega, by go_num⟩, q'', d'', bs'', g1.drewN _, g2.drewN _, g3, g4, g5, below_drewN g6⟩
                  case measure => simp [intOf]; omega
            by_cases h1 : dd = 1
            · subst h1
              obtain ⟨p1, hp1⟩ : ∃ p1, p1 = min m (M - q) := ⟨_, rfl⟩
              have hp1m : p1 ≤ m := by omega
              have hp1q : q + p1 ≤ M := by omega
              have HP1 := hide hp1
              have hEm : Below wz.heap.size wz (wz.alloc (.cells #[] 5)) := (Below.refl _ _).alloc (Nat.le_refl _) _
              have hoE := Ow.of_row (own_new wz #[] 5 1 0 rfl (by simp [maxLen]) wz.heap.size (Nat.le_refl _))
              have x2' := cell_past wz (.cells #[] 5) x2
              have hgz' : ga < (wz.alloc (.cells #[] 5)).heap.size := by simp; omega
              have hyE : Rd (wz.alloc (.cells #[] 5)) w.heap.size 1 B m (bcells ys) := hy.alloc hb.size _
              obtain ⟨i8, hi8, hy0, hy1, hy2⟩ := info_parts infoRB
              have h1ne : ∀ W : World, True := fun _ => trivial
              clear hp1 hrel0 bx h1ne
              go_upto_region 18 with (fail)
              go_wp2_with (at_builtin; refine wpl_append_ow _ rfl (.tmp 58) (.tmp 60) _ rfl wz.heap.size 5 i8 _ 1 1 Try.underlying27 hi8 hy0 hy1 hy2 rfl (by omega) _ _ _ rfl _ _ _ _ _ rfl hoE hyE (bcells_one _) (by unfold maxLen; omega) (by omega) hEm.size ?_; intro v1 w5 ho5 b5' _ _)
              have b5 : Below wz.heap.size wz w5 := hEm.trans b5'
              rw [List.nil_append, Nat.zero_add] at ho5
              obtain ⟨A3, c3, rfl, hc3, -⟩ := Ow.shape ho5
              have q1 := pushB r q M d (bcells bs) (bcells ys) A3 m c3 _ w5 (hr.below b5) (by omega) (bcells_one _) ho5.rd hc3 (by omega) (bcells_one _) (Nat.le_refl _) p1 HP1.out
              rw [Nat.mul_one, bcells_take, bcells_append] at q1
              refine q1.mono ?_
              rintro e w6 ⟨rfl, ⟨d', hr6, hd'⟩, g6⟩
              have x2'' : w6.cell? ⟨ga, 2, none⟩ = some (.slice B m cc) := g6.cell ((b5.cell (p := ⟨ga, 2, none⟩) gzz).trans x2) (by simp; omega)
              have hg6' : ga < w6.heap.size := Nat.lt_of_lt_of_le gzz (Nat.le_trans b5.size g6.size)
              have hb6 : Below w.heap.size w w6 := (hb.trans (b5.mono hb.size)).grown g6 (Nat.le_trans hb.size b5.size) (fun k hk => by cases hk; exact hrw)
              have hl6 : Ow w6 r 1 (.slice L q lc) q (bcells bs) := (hl.below b5).kept g6 (.inr hl1)
              have hy6 : Rd w6 w.heap.size 1 B p1 (bcells (ys.take p1)) := by
                have hbz : Below w.heap.size wz w6 := (b5.mono hb.size).trans ((Below.refl w.heap.size w5).grown g6 (Nat.le_trans hb.size b5.size) (fun k hk => by cases hk; exact hrw))
                have := (hy.below hbz).front hp1m
                rw [Nat.mul_one, bcells_take] at this
                exact this
              have hr6z : r ≤ w6.heap.size := Nat.le_of_lt hr6.lt
              have hp1c : (p1 : Int) ≤ (cc : Int) := by omega
              clear q1 hoE hyE hEm x2' hgz' b5' x0 x1 x2
              by_cases hmq : (M : Int) - (q : Int) < (m : Int)
              · have hk : ((p1 : Int) != (M : Int) - (q : Int)) = false := by have := HP1.out; simp; omega
                go_wp2_with (at_builtin; refine wpl_append_ow _ rfl (.tmp 81) (.tmp 85) _ rfl r 5 i8 _ 1 1 Try.underlying27 hi8 hy0 hy1 hy2 rfl (by omega) _ _ _ rfl _ _ _ _ _ rfl hl6 hy6 (bcells_one _) (by unfold maxLen; omega) (by omega) hr6z ?_; intro v2 w7 ho7 b7 g7 hv2)
                rw [bcells_append] at ho7
                obtain ⟨j1, j2, j3, j4, j5, j6⟩ := push_rel hl hl1 hl2 hrw (Nat.lt_trans hrlt gzz) hb (fun g hg => Nat.lt_trans (hrf g hg).2 gzz) b5 ho5 hr6 hd' g6 ho7 b7 g7 hv2
                obtain ⟨gz, hgz⟩ : ∃ g, g = wz.heap.size := ⟨_, rfl⟩
                rw [← hgz] at j1 gzz
                obtain ⟨A2, c2, rfl, hc2, -⟩ := Ow.shape ho7
                have hk2 : q + p1 ≤ M := hp1q
                clear hl6 hy6 hl hr hb hy b5 ho5 hr6 hd' g6 b7 g7 hv2 hgz x2'' hg6' hb6 hr6z hk hmq hl1 hl2 hlf hrf hlc1 hlc2 hpl hpq
                go_wp2_with fail
                go_loopw [13] (fun i wx => ∃ (j : Nat) (zs : List Value), j ≤ m ∧ i = .int .i64 j ∧ Ow wx gz 1 (.slice A3 m c3) m zs ∧ U8s zs ∧ w7.grownBy wx (Value.slice A3 m c3).ownBlock) (fun i _ => m - (intOf i).toNat)
                case atStart => exact ⟨0, _, by omega, rfl, j1, U8s.of_bytes _, World.grownBy.refl _ _⟩
                case round =>
                  obtain ⟨j, zs, hj, rfl, ho, hzs, hg⟩ := hrel
                  by_cases hjp : j < m
                  · obtain ⟨g, off, rfl, hg1, hg2, hcell, hfr⟩ := ho.at_ (j := j) (by omega)
                    have hjz : j < zs.length := by rw [ho.1]; omega
                    obtain ⟨z, hz⟩ := hzs zs[j] (List.getElem_mem hjz)
                    rw [List.getElem?_eq_getElem hjz, hz] at hcell
                    have hst := fun u => ho.store (j := j) (by omega) u
                    have hg' : w7.grownBy wr (some g) := hg
                    have hg'' : ∀ u, w7.grownBy (wr.setCell ⟨g, off + j, none⟩ u) (some g) := fun u => grown_set hg' _ u
                    have HS := hide hst
                    have HZ := hide hz
                    have HG := hide hg''
                    clear hst hg hz hg' hg'' ho ho7 j1 j2 j3 j4 j5 j6
                    go_wp2
                    go_roundw
                    case rel => exact ⟨j + 1, _, by omega, by go_num, HS.out _, hzs.set_ _ _, HG.out _⟩
                    case measure => simp [intOf]; omega
                  · have hsr : SRel M r w (.slice A2 (q + p1) c2) wr ∧ IsRing wr 60 1 r (q + p1) M d' (bcells (bs ++ ys.take p1)) := by
                      rcases hA1 : (Value.slice A3 m c3).ownBlock with _ | g
                      · rw [hA1] at hg
                        have hbx := below_of_grown hg
                        exact ⟨⟨q + p1, d', _, ho7.below hbx, j2.below hbx, j3, j4, hrw, j5.trans (hbx.mono j5.size)⟩, j2.below hbx⟩
                      · rw [hA1] at hg
                        obtain ⟨y1, y2, y3, y4⟩ := j6 g hA1
                        exact ⟨SRel.far ho7 j2 j3 j4 hrw j5 hg y1 y2 y3 y4, j2.grown hg (by simpa using y1) (.inr (fun e => y2 e.symm))⟩
                    obtain ⟨hsr, hrr⟩ := hsr
                    have q3 := lenB r (q + p1) M d' _ wr hrr
                    have q4 := roomB r (q + p1) M d' _ wr hrr (by omega)
                    have HR := hide hsr
                    clear hsr ho hg ho7 j1 j2 j3 j4 j5 j6 hrr
                    go_wp2_with fail
                    refine q3.mono ?_
                    rintro e w9 ⟨rfl, rfl⟩
                    go_wp2_with fail
                    refine q4.mono ?_
                    rintro e w9 ⟨rfl, kr, rfl⟩
                    go_wp2_with fail
                    go_roundw
                    case rel =>
                      obtain ⟨q'', d'', bs'', g1, g2, g3, g4, g5, g6⟩ := HR.out
                      exact ⟨⟨k + 1, by omega, by go_num⟩, q'', d'', bs'', g1.drewN _, g2.drewN _, g3, g4, g5, below_drewN g6⟩
                    case measure => simp [intOf]; omega
              · have hk : ((p1 : Int) != (m : Int)) = false := by have := HP1.out; simp; omega
                go_wp2_with (at_builtin; refine wpl_append_ow _ rfl (.tmp 81) (.tmp 85) _ rfl r 5 i8 _ 1 1 Try.underlying27 hi8 hy0 hy1 hy2 rfl (by omega) _ _ _ rfl _ _ _ _ _ rfl hl6 hy6 (bcells_one _) (by unfold maxLen; omega) (by omega) hr6z ?_; intro v2 w7 ho7 b7 g7 hv2)
                rw [bcells_append] at ho7
                obtain ⟨j1, j2, j3, j4, j5, j6⟩ := push_rel hl hl1 hl2 hrw (Nat.lt_trans hrlt gzz) hb (fun g hg => Nat.lt_trans (hrf g hg).2 gzz) b5 ho5 hr6 hd' g6 ho7 b7 g7 hv2
                obtain ⟨gz, hgz⟩ : ∃ g, g = wz.heap.size := ⟨_, rfl⟩
                rw [← hgz] at j1 gzz
                obtain ⟨A2, c2, rfl, hc2, -⟩ := Ow.shape ho7
                have hk2 : q + p1 ≤ M := hp1q
                clear hl6 hy6 hl hr hb hy b5 ho5 hr6 hd' g6 b7 g7 hv2 hgz x2'' hg6' hb6 hr6z hk hmq hl1 hl2 hlf hrf hlc1 hlc2 hpl hpq
                go_wp2_with fail
                go_loopw [13] (fun i wx => ∃ (j : Nat) (zs : List Value), j ≤ m ∧ i = .int .i64 j ∧ Ow wx gz 1 (.slice A3 m c3) m zs ∧ U8s zs ∧ w7.grownBy wx (Value.slice A3 m c3).ownBlock) (fun i _ => m - (intOf i).toNat)
                case atStart => exact ⟨0, _, by omega, rfl, j1, U8s.of_bytes _, World.grownBy.refl _ _⟩
                case round =>
                  obtain ⟨j, zs, hj, rfl, ho, hzs, hg⟩ := hrel
                  by_cases hjp : j < m
                  · obtain ⟨g, off, rfl, hg1, hg2, hcell, hfr⟩ := ho.at_ (j := j) (by omega)
                    have hjz : j < zs.length := by rw [ho.1]; omega
                    obtain ⟨z, hz⟩ := hzs zs[j] (List.getElem_mem hjz)
                    rw [List.getElem?_eq_getElem hjz, hz] at hcell
                    have hst := fun u => ho.store (j := j) (by omega) u
                    have hg' : w7.grownBy wr (some g) := hg
                    have hg'' : ∀ u, w7.grownBy (wr.setCell ⟨g, off + j, none⟩ u) (some g) := fun u => grown_set hg' _ u
                    have HS := hide hst
                    have HZ := hide hz
                    have HG := hide hg''
                    clear hst hg hz hg' hg'' ho ho7 j1 j2 j3 j4 j5 j6
                    go_wp2
                    go_roundw
                    case rel => exact ⟨j + 1, _, by omega, by go_num, HS.out _, hzs.set_ _ _, HG.out _⟩
                    case measure => simp [intOf]; omega
                  · have hsr : SRel M r w (.slice A2 (q + p1) c2) wr ∧ IsRing wr 60 1 r (q + p1) M d' (bcells (bs ++ ys.take p1)) := by
                      rcases hA1 : (Value.slice A3 m c3).ownBlock with _ | g
                      · rw [hA1] at hg
                        have hbx := below_of_grown hg
                        exact ⟨⟨q + p1, d', _, ho7.below hbx, j2.below hbx, j3, j4, hrw, j5.trans (hbx.mono j5.size)⟩, j2.below hbx⟩
                      · rw [hA1] at hg
                        obtain ⟨y1, y2, y3, y4⟩ := j6 g hA1
                        exact ⟨SRel.far ho7 j2 j3 j4 hrw j5 hg y1 y2 y3 y4, j2.grown hg (by simpa using y1) (.inr (fun e => y2 e.symm))⟩
                    obtain ⟨hsr, hrr⟩ := hsr
                    have q3 := lenB r (q + p1) M d' _ wr hrr
                    have q4 := roomB r (q + p1) M d' _ wr hrr (by omega)
                    have HR := hide hsr
                    clear hsr ho hg ho7 j1 j2 j3 j4 j5 j6 hrr
                    go_wp2_with fail
                    refine q3.mono ?_
                    rintro e w9 ⟨rfl, rfl⟩
                    go_wp2_with fail
                    refine q4.mono ?_
                    rintro e w9 ⟨rfl, kr, rfl⟩
                    go_wp2_with fail
                    go_roundw
                    case rel =>
                      obtain ⟨q'', d'', bs'', g1, g2, g3, g4, g5, g6⟩ := HR.out
                      exact ⟨⟨k + 1, by omega, by go_num⟩, q'', d'', bs'', g1.drewN _, g2.drewN _, g3, g4, g5, below_drewN g6⟩
                    case measure => simp [intOf]; omega
            by_cases h2 : dd = 2
            · subst h2
              have n1 : ((2 : Int) == 1) = false := by decide
              have q1 := popB r q M d nn (bcells bs) wz.drew (hr.drewN 1) (by omega) (bcells_one _) p HPM.out
              rw [Nat.mul_one, bcells_take, bcells_drop] at q1
              clear hrel0 hy x2 bx
              go_upto_region 31 with (fail)
              have x1' : wz.drew.cell? ⟨ga, 1, none⟩ = some (.int .i64 nn) := x1
              have hl' : Ow wz.drew r 1 (.slice L q lc) q (bcells bs) := hl.drewN 1
              have hb' : Below w.heap.size w wz.drew := below_drewN (k := 1) hb
              have gz' : ga < wz.drew.heap.size := gzz
              clear hl hr hb gzz x0 x1
              go_region_held3 (fun w' => w'.cell? ⟨ga, 1, none⟩ = some (.int .i64 nn))
                (first
                  | exact x1'
                  | exact x5
                  | assumption)
                (first
                  | (go_at_call 11; refine q1.mono ?_; rintro e w5 ⟨A3, c3, rfl, ho, hr5, hg5⟩; have x5 := hg5.cell x1' (by simp; omega); have hl5 := hl'.kept hg5 (.inr hl1); have hrd1 := Rd.of_own ho; have hrd2 := (hl5.rd).front hpq; rw [Nat.mul_one, bcells_take] at hrd2; have q2 := same_any A3 L p c3 p lc _ _ _ _ w5 hrd1 hrd2 (by omega) (by omega); rw [beq_self_eq_true] at q2)
                  | (go_at_call 10; refine q2.mono ?_; rintro e w6 ⟨rfl, kq, rfl⟩))
              all_goals
                have hlx := (hl5.drewN kq).cut hpq (Nat.le_refl q)
                have hxe : ((bcells bs).drop (p * 1)).take ((q - p) * 1) = bcells (bs.drop p) := by
                  rw [Nat.mul_one, Nat.mul_one, bcells_drop]; exact List.take_of_length_le (by have := hl5.1; rw [bcells_length] at this ⊢; rw [List.length_drop]; omega)
                rw [hxe] at hlx
                have hrx := hr5.drewN kq
                have hbx : Below w.heap.size w (w5.drewN kq) := below_drewN (hb'.grown hg5 hb'.size (fun k hk => by cases hk; exact hrw))
                have hob : (Value.slice (if lc = p then L else L.map (fun a => a.add (p * 1))) (q - p) (lc - p)).ownBlock = (Value.slice L q lc).ownBlock := by
                  split
                  · cases L <;> simp [Value.ownBlock]
                  · cases L <;> simp [Value.ownBlock, addr_add_block]
                have hrel' : SRel M r w (.slice (if lc = p then L else L.map (fun a => a.add (p * 1))) (q - p) (lc - p)) (w5.drewN kq) :=
                  ⟨q - p, d, bs.drop p, hlx, hrx, by rw [hob]; exact hl1, by rw [hob]; exact hl2, hrw, hbx⟩
                have q3 := lenB r (q - p) M d (bcells (bs.drop p)) (w5.drewN kq) hrx
                have q4 := roomB r (q - p) M d (bcells (bs.drop p)) (w5.drewN kq) hrx (by omega)
                have hL0 := ow_none hl5
                clear hlx hrx hob q1 q2 hrd1 hrd2 hr5 hg5 hl5 ho x5 x1' hl' hb' hbx hxe
                have HRR := hide hrel'
                clear hrel'
                go_upto_region 33 with (fail)
                generalize w5.drewN kq = wv at q3 q4 HRR ⊢
                have HX := hide (And.intro hl1 hl2)
                clear hrf hlf hl1 hl2 hrlt gz' hbig'
                have tail : ∀ V z, V = Value.slice (if lc = p then L else L.map (fun a => a.add (p * 1))) (q - p) (lc - p) → q - p = z → SRel M r w V wv ∧ z ≤ M := fun V z h1 h2 => ⟨h1 ▸ HRR.out, by omega⟩
                have HT := hide tail
                clear tail HRR
                rcases L with _ | a
                · obtain ⟨rfl, rfl⟩ := hL0 rfl
                  obtain rfl : p = 0 := by omega
                  clear hL0 hpq hpl hlc1 hlc2
                  have HZ := hide (HT.out (.slice none 0 0) 0 rfl rfl)
                  rw [Nat.sub_zero] at q3 q4
                  go_wp2_with fail
                  refine q3.mono ?_
                  rintro e w7 ⟨rfl, rfl⟩
                  go_wp2_with fail
                  refine q4.mono ?_
                  rintro e w7 ⟨rfl, kr, rfl⟩
                  go_wp2_with fail
                  go_roundw
                  case rel =>
                    obtain ⟨q'', d'', bs'', g1, g2, g3, g4, g5, g6⟩ := HZ.out.1
                    exact ⟨⟨k + 1, by omega, by go_num⟩, q'', d'', bs'', g1.drewN _, g2.drewN _, g3, g4, g5, below_drewN g6⟩
                  case measure => simp [intOf]; omega
                clear hL0
                by_cases hcp : lc = p
                · obtain rfl : q = p := by omega
                  obtain rfl : lc = q := hcp
                  have HZ := hide (HT.out (.slice (some a) 0 0) 0 (by rw [if_pos rfl, Nat.sub_self]) (Nat.sub_self _))
                  rw [Nat.sub_self] at q3 q4
                  clear hpq hpl hlc1
                  go_wp2_with fail
                  refine q3.mono ?_
                  rintro e w7 ⟨rfl, rfl⟩
                  go_wp2_with fail
                  refine q4.mono ?_
                  rintro e w7 ⟨rfl, kr, rfl⟩
                  go_wp2_with fail
                  go_roundw
                  case rel =>
                    obtain ⟨q'', d'', bs'', g1, g2, g3, g4, g5, g6⟩ := HZ.out.1
                    exact ⟨⟨k + 1, by omega, by go_num⟩, q'', d'', bs'', g1.drewN _, g2.drewN _, g3, g4, g5, below_drewN g6⟩
                  case measure => simp [intOf]; omega
                have hcp' : ¬ (p = lc) := fun e => hcp e.symm
                have HZ := hide (HT.out (.slice (some (a.add p)) (q - p) (lc - p)) _ (by rw [if_neg hcp, Nat.mul_one]; rfl) rfl)
                clear hlc1
                go_wp2_with fail
                refine q3.mono ?_
                rintro e w7 ⟨rfl, rfl⟩
                go_wp2_with fail
                refine q4.mono ?_
                rintro e w7 ⟨rfl, kr, rfl⟩
                go_wp2_with fail
                go_roundw
                case rel =>
                  obtain ⟨q'', d'', bs'', g1, g2, g3, g4, g5, g6⟩ := HZ.out.1
                  exact ⟨⟨k + 1, by omega, by go_num⟩, q'', d'', bs'', g1.drewN _, g2.drewN _, g3, g4, g5, below_drewN g6⟩
                case measure => simp [intOf]; omega
            have n1 : (dd == 1) = false := by simpa using h1
            have n2 : (dd == 2) = false := by simpa using h2
            have n3 : (dd == 3) = false := by simpa using h3
            have q1 := lenB r q M d (bcells bs) wz hr
            have q2 := roomB r q M d (bcells bs) wz hr (by omega)
            have HR := hide hrel0
            clear h1 h2 h3 hrel0 hl hb hy
            go_wp2_with fail
            refine q1.mono ?_
            rintro e w5 ⟨rfl, rfl⟩
            go_wp2_with fail
            refine q2.mono ?_
            rintro e w5 ⟨rfl, kq, rfl⟩
            go_wp2_with fail
            go_roundw
            case rel =>
              obtain ⟨q'', d'', bs'', g1, g2, g3, g4, g5, g6⟩ := HR.out
              exact ⟨⟨k + 1, by omega, by go_num⟩, q'', d'', bs'', g1.drewN _, g2.drewN _, g3, g4, g5, below_drewN g6⟩
            case measure => simp [intOf]; omega
      · go_wp2_with fail
        go_ret
        exact ⟨rfl, hb⟩
    · go_wp2_with fail
      go_ret
      exact ⟨rfl, hb⟩
end Go.Proofs.Ytbjfhommjkcipaa.RingActsP
