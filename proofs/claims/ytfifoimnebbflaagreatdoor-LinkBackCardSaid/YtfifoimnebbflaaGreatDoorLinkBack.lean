/- Law LinkBack: the walk. -/
import Derived.Test.YtfifoimnebbflaaGreatDoorLinkE
import Derived.Test.YtfifoimnebbflaaGreatDoorLinkAns
import Derived.Test.YtfifoimnebbflaaGreatDoorBackCalls
import Derived.Test.YtfifoimnebbflaaGreatDoorOpenBs
import Derived.Test.YtfifoimnebbflaaGreatDoorSame
import Derived.Test.YtfifoimnebbflaaGreatDoorLaid7
import Derived.Deep.CutRange
import Derived.Deep.DeepCutAuto
import Derived.Deep.CutBlock
namespace Go.Proofs.YtfifoimnebbflaaGreatDoor
open Go.RowKit
set_option linter.unusedVariables false
set_option linter.unusedSimpArgs false

def Rq.val (q : Rq) : Value := .agg #[.string q.m, .string q.t, .int .i64 q.mi, .slice q.B q.nf q.cf]
def Rq.In (w : World) (base : Nat) (q : Rq) : Prop := Rd w base 2 q.B q.nf (fcells q.fs) ∧ (∀ f ∈ q.fs, f.1.length ≤ 9223372036854775807 ∧ f.2.length ≤ 9223372036854775807) ∧ q.m.size ≤ 9223372036854775807 ∧ q.t.size ≤ 9223372036854775807
theorem Rq.prints (q : Rq) {w W : World} {base : Nat} (h : q.In w base) (hb : Below base w W) (hs : base ≤ W.heap.size) :
    Calls Tryz.prog 7 #[q.val] W fun e w' => ∃ A' c', e = .returned (.tuple #[.slice A' q.P.length c', .int .i64 (q.E : Nat)]) ∧ Rd w' w'.heap.size 1 A' q.P.length (bcells q.P) ∧ q.P.length ≤ c' ∧ Below W.heap.size W w' :=
  refprintreqG_any q.m q.t q.mi q.B q.nf q.cf base q.fs W (h.1.below hb) hs h.2.1 h.2.2.1 h.2.2.2
theorem Rq.of {w : World} {A : Option Addr} {n : Nat} (h : ∀ k, k < n → ∃ ab ao m t mi B nf cf fs, A = some ⟨ab, ao, none⟩ ∧ ab < w.heap.size ∧ ReqAt w ab (ao + k * 4) m t mi B nf cf ∧ Rd w w.heap.size 2 B nf (fcells fs) ∧ nf ≤ cf ∧ cf ≤ maxLen ∧ (∀ f ∈ fs, f.1.length ≤ maxLen ∧ f.2.length ≤ maxLen) ∧ m.size ≤ maxLen ∧ t.size ≤ maxLen) :
    ∃ R : Nat → Rq, ∀ k, k < n → (R k).In w w.heap.size ∧ ∃ ab ao, A = some ⟨ab, ao, none⟩ ∧ ab < w.heap.size ∧ ReqAt w ab (ao + k * 4) (R k).m (R k).t (R k).mi (R k).B (R k).nf (R k).cf := by
  obtain ⟨R, hR⟩ := Go.Deep.choose_lt (p := fun k (q : Rq) => q.In w w.heap.size ∧ ∃ ab ao, A = some ⟨ab, ao, none⟩ ∧ ab < w.heap.size ∧ ReqAt w ab (ao + k * 4) q.m q.t q.mi q.B q.nf q.cf) (fun k (hk : k < n) => by
    obtain ⟨ab, ao, m, t, mi, B, nf, cf, fs, h1, h2, h3, h4, h5, h6, h7, h8, h9⟩ := h k hk
    have hM : maxLen ≤ 9223372036854775807 := by unfold maxLen; omega
    exact ⟨⟨m, t, mi, B, nf, cf, fs⟩, ⟨h4, fun f hf => ⟨Nat.le_trans (h7 f hf).1 hM, Nat.le_trans (h7 f hf).2 hM⟩, Nat.le_trans h8 hM, Nat.le_trans h9 hM⟩, ab, ao, h1, h2, h3⟩)
  exact ⟨R, hR⟩
end Go.Proofs.YtfifoimnebbflaaGreatDoor
namespace Go.Proofs.YtfifoimnebbflaaGreatDoor.LinkBackP
open Go.RowKit
set_option linter.unusedVariables false
set_option linter.unusedSimpArgs false
/-- The first k messages. -/
def msgs (R : Nat → Rq) (ps : List (List UInt8)) (k : Nat) : List (List UInt8 × List UInt8) := (List.range k).map fun i => ((R i).P, ps[i]?.getD [])
def lenOf : Value → Nat
  | .slice _ n _ => n
  | _ => 0
theorem msgs_succ (R : Nat → Rq) (ps : List (List UInt8)) (k : Nat) : msgs R ps (k + 1) = msgs R ps k ++ [((R k).P, ps[k]?.getD [])] := by simp [msgs, List.range_succ]
theorem msgs_at (R : Nat → Rq) (ps : List (List UInt8)) {j k : Nat} (hj : j < k) : ∃ rest, backL (msgs R ps k) = backL (msgs R ps j) ++ ((R j).P ++ (ps[j]?.getD [] ++ rest)) := by
  have hl : j < (msgs R ps k).length := by simp [msgs]; exact hj
  refine ⟨backL ((msgs R ps k).drop (j + 1)), ?_⟩
  have e1 : (msgs R ps k).take j = msgs R ps j := by
    unfold msgs; rw [← List.map_take, List.take_range, Nat.min_eq_left (Nat.le_of_lt hj)]
  have e2 : (msgs R ps k)[j] = ((R j).P, ps[j]?.getD []) := by simp [msgs]
  rw [backL_at _ j hl, e1, e2]
theorem msgs_len (R : Nat → Rq) (ps : List (List UInt8)) (k : Nat) : (msgs R ps k).length = k := by simp [msgs]
def Fine (R : Nat → Rq) (ps : List (List UInt8)) (k : Nat) : Prop := ∀ i, i < k → (R i).E = 0 ∧ (R i).P.length ≤ 2000 ∧ (ps[i]?.getD []).length ≤ 500
theorem Fine.len {R : Nat → Rq} {ps : List (List UInt8)} {k : Nat} (h : Fine R ps k) : (backL (msgs R ps k)).length ≤ 2500 * k := by
  have := backL_len (msgs R ps k) (fun m hm => by
    unfold msgs at hm
    obtain ⟨i, hi, rfl⟩ := List.mem_map.1 hm
    exact (h i (List.mem_range.1 hi)).2)
  rwa [msgs_len] at this
theorem Ow.stay_ {w w' : World} {base size : Nat} {v : Value} {n : Nat} {xs : List Value} {S : List (Option Nat)} (h : Ow w base size v n xs) (hs : Stay w w' S) (hn : ∀ x, v.ownBlock = some x → some x ∉ S) : Ow w' base size v n xs := by
  refine ⟨h.1, h.2.imp id ?_⟩
  rintro ⟨g, off, cap, rfl, h1, h2, h3, h4, h5, h6⟩
  have hb : w'.heap[g]? = w.heap[g]? := hs.2.2.2.2 g h2 (hn g rfl)
  refine ⟨g, off, cap, rfl, h1, Nat.lt_of_lt_of_le h2 hs.2.2.2.1, h3, h4, fun j u hu => (World.cell?_of_block (a := ⟨g, off + j, none⟩) hb).trans (h5 j u hu), fun j hj => ?_⟩
  rw [World.cell?_of_block (a := ⟨g, off + j, none⟩) hb, World.frozen?_of_block (a := ⟨g, off + j, none⟩) hb]
  exact h6 j hj
theorem sideB_lt {w : World} {s r mo : Nat} {d : Option Nat} {rs : List UInt8} {b : Nat} {own : Option Nat} {left : Int} {cb : Nat} {bs : List UInt8} (h : IsSideB w s r mo d rs b own left cb bs) :
    s < w.heap.size ∧ r < w.heap.size ∧ b < w.heap.size ∧ cb < w.heap.size ∧ (∀ x, d = some x → x < w.heap.size) ∧ (∀ x, own = some x → x < w.heap.size) := by
  obtain ⟨k1, k2, k3, k4, k5, ⟨A, c, e1, e2, e3, e4⟩, k7, k8⟩ := h
  exact ⟨k1.1, k2.lt, e1.1, k7.1, fun x e => (k2.far x e).2, fun x e => (e2.lt x (by rw [e3]; exact e)).2⟩
theorem take_facts {left : Int} {n : Nat} (h : 0 ≤ left) : takeN 1 left n 7 ≤ n ∧ (takeN 1 left n 7 : Int) ≤ left := by
  unfold takeN mostB
  rw [if_pos rfl]
  omega
theorem take0 {left : Int} {n : Nat} (h : 0 ≤ left) (he : takeE 1 left n 7 false = 0) : 0 < takeN 1 left n 7 := by
  unfold takeE at he
  split at he
  · rename_i h1; omega
  · split at he <;> cases he
theorem take5 {left : Int} {n : Nat} (h : 0 ≤ left) (he : takeE 1 left n 7 false = 5) (hk : takeN 1 left n 7 = 0) : n = 0 ∧ 0 < left := by
  have hn : takeN 1 left n 7 = (min (max 7 0) (min left n)).toNat := by unfold takeN mostB; rw [if_pos rfl]
  unfold takeE at he
  rw [hk] at he
  split at he
  · rename_i h1; omega
  · split at he
    · rename_i h1 h2
      rcases h2 with h2 | h2
      · omega
      · unfold overB takeLeft mostB at h2
        simp at h2
        omega
    · cases he
theorem take_glue (bd rest : List UInt8) (M o K : Nat) (h1 : o + K ≤ M) (h2 : o + K ≤ bd.length) : bd.take o ++ (((bd ++ rest).take M).drop o).take K = bd.take (o + K) := by
  rw [List.take_drop, List.take_take, Nat.min_eq_left h1, List.take_append_of_le_length h2]
  have e : bd.take o = (bd.take (o + K)).take o := by rw [List.take_take, Nat.min_eq_left (by omega)]
  rw [e, List.take_append_drop]
theorem row_ne {row : Option Nat} {y : Nat} (h : ∀ x, row = some x → x ≠ y) : row ≠ some y := fun e => h y e rfl
theorem row_or {row d : Option Nat} (h : ∀ x, row = some x → d ≠ some x) : row = none ∨ row ≠ d := by
  cases row with
  | none => exact .inl rfl
  | some x => exact .inr fun e => h x rfl e.symm
theorem row_or2 {row d : Option Nat} (h : ∀ x, row = some x → d ≠ some x) : d = none ∨ d ≠ row := by
  cases d with
  | none => exact .inl rfl
  | some x => exact .inr fun e => h x e.symm rfl
theorem back_take (all rs bs : List UInt8) (s r mo pos at_ b cb bn o : Nat) (own : Option Nat) (d : Option Nat) (w : World) (h : IsSideB w s r mo d rs b own ((bn - o : Nat) : Int) cb bs) (hh : bs ++ rs = heldAt all pos at_) (h1 : pos ≤ at_) (h3 : at_ ≤ all.length) (hmo : all.length ≤ mo) (hob : o ≤ bn) (hbn : bn ≤ 1000000) :
    Calls Tryz.prog 13 #[.pointer (some ⟨s, 0, none⟩), .int .i64 7] w fun e w' => ∃ A c K E, e = .returned (.tuple #[.slice A K c, .int .i64 (E : Nat)]) ∧ Rd w' w'.heap.size 1 A K (bcells ((heldAt all pos at_).take K)) ∧ Stay w w' [some r, own, some b, some s] ∧
      ((E = 8 ∧ K = 0 ∧ o = bn ∧ ∃ d', IsSide w' s r mo false d' (heldAt all pos at_) ∧ (d' = d ∨ ∀ g, d' = some g → w.heap.size ≤ g)) ∨
       ((E = 0 ∨ E = 5) ∧ K ≤ at_ - pos ∧ o + K ≤ bn ∧ (K = 0 → E = 5 ∧ at_ = pos ∧ o < bn) ∧ ∃ own', IsSideB w' s r mo d [] b own' ((bn - (o + K) : Nat) : Int) cb (heldAt all (pos + K) at_) ∧ (∀ g, own' = some g → w.heap.size ≤ g))) := by
  have hl := heldAt_len (all := all) (pos := pos) (at_ := at_) h3
  have hlen : rs.length + bs.length = at_ - pos := by rw [← hl, ← hh, List.length_append]; omega
  have q := linktakeB_any s r mo d rs b own ((bn - o : Nat) : Int) cb bs 7 w h (by omega) (by omega) (by omega)
  rw [hh, hl] at q
  refine q.mono ?_
  rintro e w' ⟨A, c, N, K, E, hN, hK, hE, rfl, rd, st, h8, hn8⟩
  obtain ⟨tf1, tf2⟩ := take_facts (left := ((bn - o : Nat) : Int)) (n := N) (by omega)
  rw [← hK] at tf1 tf2
  rcases takeE_is ((bn - o : Nat) : Int) N 7 with e | e | e
  · rw [e] at hE
    subst hE
    have hk := take0 (by omega) e
    rw [← hK] at hk
    rw [if_neg (by decide)] at rd ⊢
    obtain ⟨own', s1, s2⟩ := hn8 (by decide)
    rw [heldAt_drop, show ((bn - o : Nat) : Int) - (K : Int) = ((bn - (o + K) : Nat) : Int) by omega] at s1
    exact ⟨A, c, K, 0, rfl, rd, st, .inr ⟨.inl rfl, by omega, by omega, by omega, own', s1, s2⟩⟩
  · rw [e] at hE
    subst hE
    rw [if_neg (by decide)] at rd ⊢
    obtain ⟨own', s1, s2⟩ := hn8 (by decide)
    rw [heldAt_drop, show ((bn - o : Nat) : Int) - (K : Int) = ((bn - (o + K) : Nat) : Int) by omega] at s1
    refine ⟨A, c, K, 5, rfl, rd, st, .inr ⟨.inr rfl, by omega, by omega, ?_, own', s1, s2⟩⟩
    intro hk0
    have := take5 (left := ((bn - o : Nat) : Int)) (n := N) (by omega) e (by rw [← hK]; exact hk0)
    omega
  · rw [e] at hE
    subst hE
    rw [if_pos rfl] at rd ⊢
    have t8 := take8 e
    obtain ⟨d', s1, s2⟩ := h8 rfl
    exact ⟨A, c, 0, 8, rfl, rd, st, .inl ⟨rfl, rfl, by omega, d', s1, s2⟩⟩
set_option maxRecDepth 100000 in
set_option maxHeartbeats 40000000 in
theorem walk (A : Option Addr) (n c : Nat) (A' : Option Addr) (n' c' : Nat) (ps : List (List UInt8)) (A2 : Option Addr) (n2 c2 : Nat) (pt : List UInt8) (w : World)
    (hn : n ≤ maxLen) (hR : ∀ k, k < n → ∃ ab ao m t mi B nf cf fs, A = some ⟨ab, ao, none⟩ ∧ ab < w.heap.size ∧ ReqAt w ab (ao + k * 4) m t mi B nf cf ∧ Rd w w.heap.size 2 B nf (fcells fs) ∧ nf ≤ cf ∧ cf ≤ maxLen ∧ (∀ f ∈ fs, f.1.length ≤ maxLen ∧ f.2.length ≤ maxLen) ∧ m.size ≤ maxLen ∧ t.size ≤ maxLen)
    (h' : RdBs w w.heap.size A' n' ps) (hn' : n' ≤ maxLen) (h2 : Rd w w.heap.size 1 A2 n2 (bcells pt)) (hn2 : n2 ≤ maxLen) (mx : Int) (hm : w.cell? ⟨0, 0, none⟩ = some (.int .i64 mx)) :
    Calls Tryz.prog 3 #[.slice A n c, .slice A' n' c', .slice A2 n2 c2] w fun e w' => e = .returned (.bool true) ∧ Below w.heap.size w w' := by
  obtain ⟨R, hR⟩ := Rq.of hR
  have hmb : 0 < w.heap.size := World.block_lt_of_cell? w _ hm
  have hmx : Hid (∀ W : World, Below w.heap.size w W → W.cell? ⟨0, 0, none⟩ = some (.int .i64 mx)) := hide fun W bl => (bl.cell (p := ⟨0, 0, none⟩) hmb).trans hm
  have an : Hid (∀ W : World, Below w.heap.size w W → Calls Tryz.prog 6 #[] W fun e w' => e = .returned (.bool true) ∧ Below W.heap.size W w') := hide fun W bl => ans25_any W mx (hmx.out W bl)
  have an0 := an.out w (Below.refl _ _)
  have hn63 : n ≤ 9223372036854775807 := by unfold maxLen at hn; omega
  have hn63' : n' ≤ 9223372036854775807 := by unfold maxLen at hn'; omega
  have hn632 : n2 ≤ 9223372036854775807 := by unfold maxLen at hn2; omega
  have bad : (8 < n ∨ 8 < n' ∨ n2 = 0 ∨ 100 < n2) → Calls Tryz.prog 3 #[.slice A n c, .slice A' n' c', .slice A2 n2 c2] w fun e w' => e = .returned (.bool true) ∧ Below w.heap.size w w' := by
    intro hb
    by_cases h1 : 8 < n
    · have h1' : (8 : Int) < (n : Int) := by omega
      go_enter Tryz.func3, Tryz.ntmps3
      go_wp2_with fail
      refine an0.mono ?_
      rintro e w1 ⟨rfl, b1⟩
      go_wp2_with fail
      go_ret
      exact ⟨rfl, b1⟩
    have h1' : ¬ (8 : Int) < (n : Int) := by omega
    by_cases h3 : 8 < n'
    · have h3' : (8 : Int) < (n' : Int) := by omega
      go_enter Tryz.func3, Tryz.ntmps3
      go_wp2_with fail
      refine an0.mono ?_
      rintro e w1 ⟨rfl, b1⟩
      go_wp2_with fail
      go_ret
      exact ⟨rfl, b1⟩
    have h3' : ¬ (8 : Int) < (n' : Int) := by omega
    by_cases h4 : n2 = 0
    · subst h4
      go_enter Tryz.func3, Tryz.ntmps3
      go_wp2_with fail
      refine an0.mono ?_
      rintro e w1 ⟨rfl, b1⟩
      go_wp2_with fail
      go_ret
      exact ⟨rfl, b1⟩
    have h4' : ((n2 : Int) == 0) = false := by simp; omega
    have h5' : (100 : Int) < (n2 : Int) := by omega
    go_enter Tryz.func3, Tryz.ntmps3
    go_wp2_with fail
    refine an0.mono ?_
    rintro e w1 ⟨rfl, b1⟩
    go_wp2_with fail
    go_ret
    exact ⟨rfl, b1⟩
  by_cases hb : 8 < n ∨ 8 < n' ∨ n2 = 0 ∨ 100 < n2
  · exact bad hb
  simp only [not_or] at hb
  obtain ⟨g1, g2, g3, g4⟩ := hb
  have g1' : ¬ (8 : Int) < (n : Int) := by omega
  have g2' : ¬ (8 : Int) < (n' : Int) := by omega
  have g3' : ((n2 : Int) == 0) = false := by simp; omega
  have g4' : ¬ (100 : Int) < (n2 : Int) := by omega
  clear bad an0
  go_enter Tryz.func3, Tryz.ntmps3
  go_wp2_with fail
  obtain ⟨g, hg⟩ : ∃ g, w.heap.size = g := ⟨_, rfl⟩
  rw [hg] at hR h' h2 hmb hmx an
  obtain ⟨i0, hi0, hz0, hz1, hz2⟩ := info_parts infoU8b
  go_loopw [7, 8, 9] (fun al nn i wr => ∃ (k m : Nat) (B : Option Addr) (cB : Nat), k ≤ n ∧ k ≤ n' ∧ i = .int .i64 k ∧ nn = .int .i64 k ∧ Fine R ps k ∧ al = .slice B m cB ∧ m = (backL (msgs R ps k)).length ∧ wr.ownsRow g 5 1 (.slice B m cB) m (bcells (backL (msgs R ps k))) ∧ Below g w wr) (fun _ _ i _ => n - (intOf i).toNat)
  case atStart => exact ⟨0, 0, none, 0, Nat.zero_le _, Nat.zero_le _, rfl, rfl, (fun i hi => absurd hi (Nat.not_lt_zero _)), rfl, rfl, ⟨by simp [bcells, backL, msgs], .inl ⟨rfl, rfl⟩⟩, Below.refl _ _⟩
  case round =>
    obtain ⟨k, m, B, cB, hk, hk', rfl, rfl, hfine, rfl, hml, ob, hb⟩ := hrel
    have hgz : g ≤ wr.heap.size := hg ▸ hb.size
    have hmlb : m ≤ 20000 := by have := hfine.len; omega
    by_cases hlt : k < n ∧ k < n'
    · obtain ⟨hln, hln'⟩ := hlt
      have a1 : (k : Int) < (n : Int) := by omega
      have a2 : (k : Int) < (n' : Int) := by omega
      obtain ⟨hin, ab, ao, rfl, hab, r0, r1, r2, r3⟩ := hR k hln
      have d0 := (hb.cell (p := ⟨ab, ao + k * 4, none⟩) hab).trans r0
      have d1 := (hb.cell (p := ⟨ab, ao + k * 4 + 1, none⟩) hab).trans r1
      have d2 := (hb.cell (p := ⟨ab, ao + k * 4 + 2, none⟩) hab).trans r2
      have d3 := (hb.cell (p := ⟨ab, ao + k * 4 + 3, none⟩) hab).trans r3
      have pr := (R k).prints hin hb hgz
      unfold Rq.val at pr
      obtain ⟨P, hP⟩ : ∃ x, x = (R k).P := ⟨_, rfl⟩
      obtain ⟨pn, hpn⟩ : ∃ x, x = P.length := ⟨_, rfl⟩
      obtain ⟨E, hE⟩ : ∃ x, x = (R k).E := ⟨_, rfl⟩
      rw [← hP, ← hE, ← hpn] at pr
      have HP := hide hP
      have HPN := hide hpn
      have HE := hide hE
      have HML := hide hml
      have HF := hide hfine
      obtain ⟨qm, hqm⟩ : ∃ x, x = (R k).m := ⟨_, rfl⟩
      obtain ⟨qt, hqt⟩ : ∃ x, x = (R k).t := ⟨_, rfl⟩
      obtain ⟨qi, hqi⟩ : ∃ x, x = (R k).mi := ⟨_, rfl⟩
      obtain ⟨qB, hqB⟩ : ∃ x, x = (R k).B := ⟨_, rfl⟩
      obtain ⟨qn, hqn⟩ : ∃ x, x = (R k).nf := ⟨_, rfl⟩
      obtain ⟨qc, hqc⟩ : ∃ x, x = (R k).cf := ⟨_, rfl⟩
      rw [← hqm] at d0 pr
      rw [← hqt] at d1 pr
      rw [← hqi] at d2 pr
      rw [← hqB, ← hqn, ← hqc] at d3 pr
      obtain ⟨bd, hbd⟩ : ∃ x, x = ps[k]'(by have := h'.1; omega) := ⟨_, rfl⟩
      obtain ⟨a, Ai, ci, hAa, hAb, hcell, hrd, hci, hcm⟩ := (h'.below hb).2 k (by have := h'.1; omega)
      subst hAa
      rw [← hbd] at hcell hrd hci
      obtain ⟨bn, hbn⟩ : ∃ x, x = bd.length := ⟨_, rfl⟩
      rw [← hbn] at hcell hrd hci
      have HBD := hide hbd
      have HBN := hide hbn
      clear hP hpn hE hml hfine hqm hqt hqi hqB hqn hqc hbd hbn r0 r1 r2 r3 hin
      go_wp2_with fail
      refine pr.mono ?_
      rintro e w1 ⟨A1, c1, rfl, rd1, nc1, b1⟩
      have t1 := hb.trans (b1.mono hgz)
      have hg1 : g ≤ w1.heap.size := Nat.le_trans hgz b1.size
      have ob1 := own_below ob b1
      have cell1 := (b1.cell (p := a.add k) (by rw [addr_add_block]; omega)).trans hcell
      have rb1 := hrd.below (b1.mono hgz)
      have an1 := an.out w1 t1
      have hbn63 : bn ≤ 9223372036854775807 := by unfold maxLen at hcm; omega
      clear pr d0 d1 d2 d3 ob hcell hrd
      by_cases e0 : E = 0
      · subst e0
        by_cases e1 : 2000 < pn
        · have e1' : (2000 : Int) < (pn : Int) := by omega
          go_wp2_with fail
          refine an1.mono ?_
          rintro e w2 ⟨rfl, b2⟩
          go_wp2_with fail
          go_ret
          rw [hg]
          exact ⟨rfl, t1.trans (b2.mono hg1)⟩
        · have e1' : ¬ (2000 : Int) < (pn : Int) := by omega
          by_cases e2 : 500 < bn
          · have e2' : (500 : Int) < (bn : Int) := by omega
            go_wp2_with fail
            refine an1.mono ?_
            rintro e w2 ⟨rfl, b2⟩
            go_wp2_with fail
            go_ret
            rw [hg]
            exact ⟨rfl, t1.trans (b2.mono hg1)⟩
          · have e2' : ¬ (500 : Int) < (bn : Int) := by omega
            go_upto_region 11 with (fail)
            have fin : Hid (∀ (A3 : Option Addr) (c3 : Nat) (w3 : World), w3.ownsRow g 5 1 (.slice A3 (m + pn + bn) c3) (m + pn + bn) (bcells (backL (msgs R ps k)) ++ bcells P ++ bcells bd) → Below g w w3 →
                ∃ (k' m' : Nat) (B : Option Addr) (cB : Nat), k' ≤ n ∧ k' ≤ n' ∧ Value.int .i64 ((k : Int) + 1) = .int .i64 k' ∧ Value.int .i64 ((k : Int) + 1) = .int .i64 k' ∧ Fine R ps k' ∧ Value.slice A3 (m + pn + bn) c3 = .slice B m' cB ∧ m' = (backL (msgs R ps k')).length ∧ w3.ownsRow g 5 1 (.slice B m' cB) m' (bcells (backL (msgs R ps k'))) ∧ Below g w w3) := by
              refine hide fun A3 c3 w3 ow z => ?_
              have hbd : ps[k]?.getD [] = bd := by rw [HBD.out, List.getElem?_eq_getElem (by have := h'.1; omega)]; rfl
              have e : backL (msgs R ps (k + 1)) = backL (msgs R ps k) ++ P ++ bd := by rw [msgs_succ, backL_snoc, hbd, HP.out]
              refine ⟨k + 1, _, A3, c3, hln, hln', rfl, rfl, ?_, rfl, ?_, ?_, z⟩
              · intro i hi
                rcases Nat.lt_succ_iff_lt_or_eq.1 hi with h | rfl
                · exact HF.out i h
                · exact ⟨HE.out.symm, by rw [← HP.out, ← HPN.out]; omega, by rw [hbd, ← HBN.out]; omega⟩
              · rw [e, List.length_append, List.length_append, ← HML.out, ← HPN.out, ← HBN.out]
              · rw [e, ← bcells_append, ← bcells_append]; exact ow
            refine CalmP.hideN (fun K0 hQ => ?_)
            refine wp_region_held_drew (S := (fun W : World => W.cell? (a.add k) = some (.slice Ai bn ci))) (by kernel_rfl) cell1 (fun hHeld => ?_)
            refine wpAnyH_take (i := 0) (v := ?_) rfl (by kernel_rfl) (by kernel_rfl) (by kernel_rfl) CalmP.onlyN_panic (Or.inl ⟨by kernel_rfl, ?_⟩) (by assumption) ?_
            rotate_left
            · (intro w_ hSw; (try dsimp only at hSw); go_simp; try with_reducible rfl)
            try simp only [List.getElem_toArray, List.getElem_cons_succ, List.getElem_cons_zero, Act.put, List.setIfInBounds_toArray, List.set_cons_zero, List.set_cons_succ]
            refine wpAnyH_take (i := 1) (v := ?_) rfl (by kernel_rfl) (by kernel_rfl) (by kernel_rfl) CalmP.onlyN_panic (Or.inl ⟨by kernel_rfl, ?_⟩) (by assumption) ?_
            rotate_left
            · (intro w_ hSw; (try dsimp only at hSw); go_simp; try with_reducible rfl)
            try simp only [List.getElem_toArray, List.getElem_cons_succ, List.getElem_cons_zero, Act.put, List.setIfInBounds_toArray, List.set_cons_zero, List.set_cons_succ]
            refine wpAnyH_take (i := 3) (v := ?_) rfl (by kernel_rfl) (by kernel_rfl) (by kernel_rfl) CalmP.onlyN_panic (Or.inl ⟨by kernel_rfl, ?_⟩) (by assumption) ?_
            rotate_left
            · (intro w_ hSw; (try dsimp only at hSw); go_simp; try with_reducible rfl)
            try simp only [List.getElem_toArray, List.getElem_cons_succ, List.getElem_cons_zero, Act.put, List.setIfInBounds_toArray, List.set_cons_zero, List.set_cons_succ]
            refine wpAnyH_take (i := 4) (v := ?_) rfl (by kernel_rfl) (by kernel_rfl) (by kernel_rfl) CalmP.onlyN_panic (Or.inl ⟨by kernel_rfl, ?_⟩) (by assumption) ?_
            rotate_left
            · (intro w_ hSw; (try dsimp only at hSw); go_simp; try with_reducible rfl)
            try simp only [List.getElem_toArray, List.getElem_cons_succ, List.getElem_cons_zero, Act.put, List.setIfInBounds_toArray, List.set_cons_zero, List.set_cons_succ]
            refine wpAnyH_take (i := 5) (v := ?_) rfl (by kernel_rfl) (by kernel_rfl) (by kernel_rfl) CalmP.onlyN_panic (Or.inl ⟨by kernel_rfl, ?_⟩) (by assumption) ?_
            rotate_left
            · (intro w_ hSw; (try dsimp only at hSw); go_simp; try with_reducible rfl)
            try simp only [List.getElem_toArray, List.getElem_cons_succ, List.getElem_cons_zero, Act.put, List.setIfInBounds_toArray, List.set_cons_zero, List.set_cons_succ]
            refine wpAnyH_take (i := 6) (v := ?_) rfl (by kernel_rfl) (by kernel_rfl) (by kernel_rfl) CalmP.onlyN_panic (Or.inl ⟨by kernel_rfl, ?_⟩) (by assumption) ?_
            rotate_left
            · (intro w_ hSw; (try dsimp only at hSw); go_simp; try with_reducible rfl)
            try simp only [List.getElem_toArray, List.getElem_cons_succ, List.getElem_cons_zero, Act.put, List.setIfInBounds_toArray, List.set_cons_zero, List.set_cons_succ]
            refine wpAnyH_ready (rs := [2]) (by kernel_rfl) (by simp) ?_
            refine AllReadyH.cons rfl (fun K_ hK => ?_) AllReadyH.nil
            refine step_append _ rfl _ _ _ rfl g _ i0 _ 1 1 Tryz.underlying24 hi0 hz0 hz1 hz2 rfl (by omega) _ _ _ rfl _ _ _ _ _ rfl ob1 rd1 (bcells_one _) (by unfold maxLen; omega) (by omega) (by first | exact hg1 | exact hg2) ?_
            intro v2 w2 ow2 z2 hgr
            have z2 : Below g w1 w2 := (show Below g w1 (w1.drewN 1) from below_drewN (Below.refl _ _)).trans z2
            have hg2 : g ≤ w2.heap.size := Nat.le_trans hg1 z2.size
            have t2 := t1.trans z2
            have rb2 := rb1.below z2
            have cell2 := (z2.cell (p := a.add k) (by rw [addr_add_block]; exact hAb)).trans cell1
            refine hK.out _ _ cell2 (fun hHeld => ?_)
            clear hK K_
            try simp only [List.getElem_toArray, List.getElem_cons_succ, List.getElem_cons_zero, Act.put, List.setIfInBounds_toArray, List.set_cons_zero, List.set_cons_succ]
            refine wpAnyH_ready (rs := [7]) (by kernel_rfl) (by simp) ?_
            refine AllReadyH.cons rfl (fun K_ hK => ?_) AllReadyH.nil
            refine step_append _ rfl _ _ _ rfl g _ i0 _ 1 1 Tryz.underlying24 hi0 hz0 hz1 hz2 rfl (by omega) _ _ _ rfl _ _ _ _ _ rfl ow2 rb2 (bcells_one _) (by unfold maxLen; omega) (by omega) (by first | exact hg1 | exact hg2) ?_
            intro v3 w3 ow3 z3 hgr3
            have t3 := t2.trans z3
            have cell3 := (z3.cell (p := a.add k) (by rw [addr_add_block]; exact hAb)).trans cell2
            obtain ⟨A3, c3, rfl, -, -⟩ := own_shape ow3
            refine hK.out _ _ cell3 (fun hHeld => ?_)
            clear hK K_
            try simp only [List.getElem_toArray, List.getElem_cons_succ, List.getElem_cons_zero, Act.put, List.setIfInBounds_toArray, List.set_cons_zero, List.set_cons_succ]
            refine wpAnyH_take (i := 8) (v := ?_) rfl (by kernel_rfl) (by kernel_rfl) (by kernel_rfl) CalmP.onlyN_panic (Or.inl ⟨by kernel_rfl, ?_⟩) (by assumption) ?_
            rotate_left
            · (intro w_ hSw; (try dsimp only at hSw); go_simp; try with_reducible rfl)
            try simp only [List.getElem_toArray, List.getElem_cons_succ, List.getElem_cons_zero, Act.put, List.setIfInBounds_toArray, List.set_cons_zero, List.set_cons_succ]
            refine wpAnyH_done (by kernel_rfl) ?_ _
            refine CalmP.onlyN_here (hQ.out _ _ ?_)
            clear hQ K0
            go_wp2_with fail
            go_roundw
            case rel => exact fin.out _ _ _ ow3 t3
            case measure => simp [intOf]; omega
      · have e0' : ((E : Int) != 0) = true := by simp; omega
        go_wp2_with fail
        refine an1.mono ?_
        rintro e w2 ⟨rfl, b2⟩
        go_wp2_with fail
        go_ret
        rw [hg]
        exact ⟨rfl, t1.trans (b2.mono hg1)⟩
    · have HML := hide hml
      have HF := hide hfine
      have an1 := fun W b => an.out W (hb.trans b)
      clear hml hfine
      obtain ⟨qn, hqn⟩ : ∃ q, q = linknew_any 20000 wr := ⟨_, rfl⟩
      go_upto_region 6 with (fail)
      go_cut [55] from 46 to 55 (fun v wx => v = .bool false ∧ wx = wr)
      case first =>
        by_cases hkn : k < n
        · have a1 : (k : Int) < (n : Int) := by omega
          have a2 : ¬ (k : Int) < (n' : Int) := by omega
          go_wp2_with fail
          go_meet
          exact ⟨rfl, rfl⟩
        · have a1 : ¬ (k : Int) < (n : Int) := by omega
          go_wp2_with fail
          go_meet
          exact ⟨rfl, rfl⟩
      case rest =>
      obtain ⟨rfl, hwc⟩ := hcut
      obtain rfl : wr = wc := hwc.symm
      go_wp2_with fail
      refine (linknew_any 20000 wr).mono ?_
      rintro e w1 ⟨s, r, rfl, hs0, hs, hr, b1⟩
      rw [show bufN 20000 = 20000 by decide] at hs0
      have t1 := hb.trans (b1.mono hgz)
      go_wp2_with fail
      refine (an.out w1 t1).mono ?_
      rintro e w2 ⟨rfl, b2⟩
      have hs2 := hs0.below b2
      have T2 := b1.trans (b2.mono b1.size)
      have ra := (Ow.of_row ob).rd
      have hmk : m ≤ cB := (own_shape ob).elim fun _ h => h.elim fun _ h => by cases h.1; exact h.2.1
      have hmlen : (backL (msgs R ps k)).length = m := HML.out.symm
      obtain ⟨al, hal⟩ : ∃ x, x = backL (msgs R ps k) := ⟨_, rfl⟩
      rw [← hal] at ra hmlen
      have HAL := hide hal
      have HLEN := hide hmlen
      clear hs0 t1 b2 ob hal hmlen HML hqn qn an1
      obtain ⟨gA, hgA⟩ : ∃ x, wr.heap.size = x := ⟨_, rfl⟩
      rw [hgA] at hgz ra hs hr T2
      generalize wr = wA at hb ra T2 hgA
      go_wp2_with fail
      go_loopw [13, 14, 15] (fun at_ tn i W => ∃ (j a t : Nat) (d : Option Nat), j ≤ k ∧ i = .int .i64 j ∧ at_ = .int .i64 a ∧ tn = .int .i64 t ∧ t ≤ a ∧ a ≤ m ∧ (backL (msgs R ps j)).length ≤ a ∧ IsSide W s r 20000 false d (heldAt al (backL (msgs R ps j)).length a) ∧ Below gA wA W) (fun _ _ i _ => k - (intOf i).toNat)
      case atStart => exact ⟨0, 0, 0, none, Nat.zero_le _, rfl, rfl, rfl, Nat.le_refl _, Nat.zero_le _, Nat.le_refl _, hs2, T2⟩
      case round =>
        clear hs2 T2
        obtain ⟨j, a, t, d, hj, rfl, rfl, rfl, hta, ham, hpa, hsd, hbl⟩ := hrel
        by_cases hjk : j < k
        · have hjk' : (j : Int) < (k : Int) := by omega
          obtain ⟨rest, hrest⟩ := msgs_at R ps hjk
          obtain ⟨pre, hpre⟩ : ∃ x, x = backL (msgs R ps j) := ⟨_, rfl⟩
          obtain ⟨bd, hbd⟩ : ∃ x, x = ps[j]?.getD [] := ⟨_, rfl⟩
          have hall : al = pre ++ ((R j).P ++ (bd ++ rest)) := by rw [HAL.out, hrest, hpre, hbd]
          rw [← hpre] at hpa hsd
          obtain ⟨fE, fP, fB⟩ := HF.out j hjk
          have hW : Below g w wr := hb.trans (hbl.mono hgz)
          have hgW : gA ≤ wr.heap.size := by have := hbl.size; omega
          rw [hall] at hsd
          have qh := back_head (R j) fE pre (bd ++ rest) s r 20000 a d mx wr hpa hsd (hmx.out _ hW)
          rw [← hall] at qh
          obtain ⟨P, hP⟩ : ∃ x, x = (R j).P := ⟨_, rfl⟩
          obtain ⟨pn, hpn⟩ : ∃ x, x = P.length := ⟨_, rfl⟩
          obtain ⟨po, hpo⟩ : ∃ x, x = pre.length := ⟨_, rfl⟩
          rw [← hP, ← hpn, ← hpo] at qh
          rw [← hpo] at hpa
          have HP := hide hP
          have HPN := hide hpn
          have HPO := hide hpo
          have HPRE := hide hpre
          have HBD := hide hbd
          have HALL := hide hall
          clear hsd hP hpn hpo hpre hbd hall hrest
          go_wp2_with fail
          refine qh.mono ?_
          rintro e w3 ⟨A3, c3, N3, E3, rfl, hd3, g3⟩
          have z3 := hbl.grown g3 hgW (by intro x ex; cases ex; exact hr)
          clear qh
          go_wp2_with fail
          go_loopw [13, 14, 16, 17] (fun at_ tn b e W => ∃ (a' t' : Nat) (d' : Option Nat) (A3 : Option Addr) (N3 c3 E3 : Nat), at_ = .int .i64 a' ∧ tn = .int .i64 t' ∧ b = .slice A3 N3 c3 ∧ e = .int .i64 (E3 : Nat) ∧ t' ≤ a' ∧ a' ≤ m ∧ po ≤ a' ∧
            ((a' < po + pn ∧ E3 = 5 ∧ N3 = 0 ∧ IsSide W s r 20000 false d' (heldAt al po a')) ∨ (po + pn ≤ a' ∧ E3 = 0 ∧ N3 = pn ∧ Rd W W.heap.size 1 A3 N3 (bcells P) ∧ IsSide W s r 20000 false d' (heldAt al (po + pn) a'))) ∧ Below gA wA W) (fun at_ _ _ _ _ => m - (intOf at_).toNat)
          case atStart => exact ⟨a, t, d, A3, N3, c3, E3, rfl, rfl, rfl, rfl, hta, ham, hpa, hd3, z3⟩
          case round =>
            clear hd3 z3 g3
            obtain ⟨a', t', d', A3, N3, c3, E3, rfl, rfl, rfl, rfl, hta', ham', hpa', hdd, hz⟩ := hrel
            have hW' : Below g w wr := hb.trans (hz.mono hgz)
            have hgW' : gA ≤ wr.heap.size := by have := hz.size; omega
            have hpm : po + pn ≤ m := by
              have := congrArg List.length HALL.out
              rw [List.length_append, List.length_append, HLEN.out] at this
              rw [HPO.out, HPN.out, HP.out]; omega
            rcases hdd with ⟨q1, rfl, rfl, sd⟩ | ⟨q1, rfl, rfl, rd, sd⟩
            · have hlt : (a' : Int) < (m : Int) := by omega
              have hjm : t' % n2 < n2 := Nat.mod_lt _ (by omega)
              have hmod : (t' : Int).tmod (n2 : Int) = ((t' % n2 : Nat) : Int) := by rw [Int.tmod_eq_emod_of_nonneg (by omega)]; rfl
              obtain ⟨jm, hjmd⟩ : ∃ x, x = t' % n2 := ⟨_, rfl⟩
              rw [← hjmd] at hjm hmod
              clear hjmd
              obtain ⟨a2, hA2, -, hc2⟩ := (h2.below hW').byte (k := jm) hjm
              obtain ⟨x, hx⟩ : ∃ x : Nat, x = ((pt.getD jm 0).toNat) := ⟨_, rfl⟩
              have hx256 : x < 256 := by rw [hx]; exact UInt8.toNat_lt _
              rw [← hx] at hc2
              clear hx
              subst hA2
              have hn2' : ¬ (n2 : Int) = 0 := by omega
              have v1 : IntKind.i64.wrap ((a' : Int) + (x : Int)) = (a' : Int) + (x : Int) := by rw [IntKind.wrap_i64]; omega
              have v2 : IntKind.i64.wrap ((a' : Int) + (x : Int) + 1) = (a' : Int) + (x : Int) + 1 := by rw [IntKind.wrap_i64]; omega
              obtain ⟨b0, hb0, -, -⟩ := ra.at_ (k := 0) (by omega)
              subst hb0
              have feedK : Hid (∀ K : Nat, a' < K → K ≤ m → Calls Tryz.prog 10 #[.pointer (some ⟨s, 0, none⟩), .slice (some (b0.add a')) (K - a') (cB - a')] wr fun e w' => ∃ z : Nat, a' + z = K ∧ e = .returned (.int .i64 (z : Nat)) ∧ ∃ d2, IsSide w' s r 20000 false d2 (heldAt al po K) ∧ (d2 = d' ∨ ∀ g, d2 = some g → wr.heap.size ≤ g) ∧ wr.grownBy w' (some r)) := hide fun K h1 h2 => by
                have rc := (ra.below hz).cut (k := a') (m := K) (cap := cB) (by omega) h2 hmk
                rw [if_neg (by omega)] at rc
                simp only [Nat.mul_one, Option.map_some] at rc
                rw [bcells_drop, bcells_take] at rc
                refine (back_feed al s r 20000 po a' K d' _ _ _ gA wr sd hpa' (by omega) (by rw [HLEN.out]; exact h2) (by rw [HLEN.out]; omega) rfl ?_ hgW' (by omega)).mono ?_
                · rw [List.drop_take]
                  exact rc
                · rintro e w' ⟨rfl, hx⟩
                  exact ⟨K - a', by omega, rfl, hx⟩
              have headK : Hid (∀ (K : Nat) (d2 : Option Nat) (W : World), a' ≤ K → Below gA wA W → IsSide W s r 20000 false d2 (heldAt al po K) → Calls Tryz.prog 9 #[.pointer (some ⟨s, 0, none⟩)] W fun e w' => ∃ A c N E, e = .returned (.tuple #[.slice A N c, .int .i64 (E : Nat)]) ∧
                  ((K < po + pn ∧ E = 5 ∧ N = 0 ∧ IsSide w' s r 20000 false d2 (heldAt al po K)) ∨ (po + pn ≤ K ∧ E = 0 ∧ N = pn ∧ Rd w' w'.heap.size 1 A N (bcells P) ∧ IsSide w' s r 20000 false d2 (heldAt al (po + pn) K))) ∧ W.grownBy w' (some r)) := hide fun K d2 W h1 h2 h3 => by
                rw [HALL.out, HPO.out] at h3
                have q := back_head (R j) fE pre (bd ++ rest) s r 20000 K d2 mx W (by rw [← HPO.out]; omega) h3 (hmx.out _ (hb.trans (h2.mono hgz)))
                rw [← HALL.out, ← HP.out, ← HPN.out, ← HPO.out] at q
                exact q
              by_cases hov : m < a' + x + 1
              · have hov' : (m : Int) < (a' : Int) + (x : Int) + 1 := by omega
                have fk := feedK.out m (by omega) (Nat.le_refl _)
                go_wp2_with fail
                refine fk.mono ?_
                rintro e w5 ⟨z, hzK, rfl, d2, s5, -, g5⟩
                have v3 : IntKind.i64.wrap ((a' : Int) + (z : Int)) = (m : Int) := by rw [IntKind.wrap_i64]; omega
                have v4 : IntKind.i64.wrap ((t' : Int) + 1) = (t' : Int) + 1 := by rw [IntKind.wrap_i64]; omega
                have v5 : ¬ (20000 : Int) < (t' : Int) + 1 := by omega
                have z5 := hz.grown g5 hgW' (by intro x ex; cases ex; exact hr)
                have hk := headK.out _ d2 w5 (by omega) z5 s5
                have HZ := hide hzK
                clear fk hzK s5 g5
                go_wp2_with fail
                refine hk.mono ?_
                rintro e w6 ⟨A6, c6, N6, E6, rfl, hd6, g6⟩
                have z6 := z5.grown g6 (by have := z5.size; omega) (by intro x ex; cases ex; exact hr)
                clear hk
                go_wp2_with fail
                go_roundw
                case rel => exact ⟨m, t' + 1, d2, A6, N6, c6, E6, rfl, rfl, rfl, rfl, by omega, by omega, by omega, hd6, z6⟩
                case measure => simp [intOf]; omega
              · have hov' : ¬ (m : Int) < (a' : Int) + (x : Int) + 1 := by omega
                have fk := feedK.out (a' + x + 1) (by omega) (by omega)
                go_wp2_with fail
                refine fk.mono ?_
                rintro e w5 ⟨z, hzK, rfl, d2, s5, -, g5⟩
                have v3 : IntKind.i64.wrap ((a' : Int) + (z : Int)) = (a' : Int) + (x : Int) + 1 := by rw [IntKind.wrap_i64]; omega
                have v4 : IntKind.i64.wrap ((t' : Int) + 1) = (t' : Int) + 1 := by rw [IntKind.wrap_i64]; omega
                have v5 : ¬ (20000 : Int) < (t' : Int) + 1 := by omega
                have z5 := hz.grown g5 hgW' (by intro x ex; cases ex; exact hr)
                have hk := headK.out _ d2 w5 (by omega) z5 s5
                have HZ := hide hzK
                clear fk hzK s5 g5
                go_wp2_with fail
                refine hk.mono ?_
                rintro e w6 ⟨A6, c6, N6, E6, rfl, hd6, g6⟩
                have z6 := z5.grown g6 (by have := z5.size; omega) (by intro x ex; cases ex; exact hr)
                clear hk
                go_wp2_with fail
                go_roundw
                case rel => exact ⟨a' + x + 1, t' + 1, d2, A6, N6, c6, E6, rfl, rfl, rfl, rfl, by omega, by omega, by omega, hd6, z6⟩
                case measure => simp [intOf]; omega
            · obtain ⟨hin, ab, ao, rfl, hab, r0, r1, r2, r3⟩ := hR j (by omega)
              have d0 := (hW'.cell (p := ⟨ab, ao + j * 4, none⟩) hab).trans r0
              have d1 := (hW'.cell (p := ⟨ab, ao + j * 4 + 1, none⟩) hab).trans r1
              have d2 := (hW'.cell (p := ⟨ab, ao + j * 4 + 2, none⟩) hab).trans r2
              have d3 := (hW'.cell (p := ⟨ab, ao + j * 4 + 3, none⟩) hab).trans r3
              have hgg : g ≤ wr.heap.size := Nat.le_trans hgz hgW'
              have pr := (R j).prints hin hW' hgg
              unfold Rq.val at pr
              rw [fE, ← HP.out, ← HPN.out] at pr
              obtain ⟨qm, hqm⟩ : ∃ x, x = (R j).m := ⟨_, rfl⟩
              obtain ⟨qt, hqt⟩ : ∃ x, x = (R j).t := ⟨_, rfl⟩
              obtain ⟨qi, hqi⟩ : ∃ x, x = (R j).mi := ⟨_, rfl⟩
              obtain ⟨qB, hqB⟩ : ∃ x, x = (R j).B := ⟨_, rfl⟩
              obtain ⟨qn, hqn⟩ : ∃ x, x = (R j).nf := ⟨_, rfl⟩
              obtain ⟨qc, hqc⟩ : ∃ x, x = (R j).cf := ⟨_, rfl⟩
              rw [← hqm] at d0 pr
              rw [← hqt] at d1 pr
              rw [← hqi] at d2 pr
              rw [← hqB, ← hqn, ← hqc] at d3 pr
              have hjn : (j : Int) < (n : Int) := by omega
              clear hqm hqt hqi hqB hqn hqc r0 r1 r2 r3 hin
              go_wp2_with fail
              refine pr.mono ?_
              rintro e w7 ⟨A7, c7, rfl, rd7, nc7, b7⟩
              have z7 := hz.trans (b7.mono hgW')
              have s7 := sd.below b7
              have sm := same_any A3 A7 N3 c3 N3 c7 _ _ P P w7 (rd.below b7) rd7 (by omega) (by omega)
              rw [beq_self_eq_true] at sm
              clear pr d0 d1 d2 d3
              go_wp2_with fail
              refine sm.mono ?_
              rintro e w8 ⟨rfl, kq, rfl⟩
              have z8 : Below gA wA (w7.drewN kq) := below_drewN z7
              have hW8 : Below g w (w7.drewN kq) := hb.trans (z8.mono hgz)
              obtain ⟨ab2, Ai, ci, hAa, hAb, hcell, hrd, hci, hcm⟩ := (h'.below hW8).2 j (by have := h'.1; omega)
              subst hAa
              have hbe : ps[j]'(by have := h'.1; omega) = bd := by rw [HBD.out, List.getElem?_eq_getElem (by have := h'.1; omega)]; rfl
              rw [hbe] at hcell hrd hci
              obtain ⟨bn, hbn⟩ : ∃ x, x = bd.length := ⟨_, rfl⟩
              rw [← hbn] at hcell hrd hci
              have HBN := hide hbn
              have hjn' : (j : Int) < (n' : Int) := by omega
              have s8 := s7.drewN kq
              have qb := linkbegin_any s r 20000 d' _ (bn : Nat) _ s8
              clear s7 z7 rd7 sm hbn hbe
              go_wp2_with fail
              refine qb.mono ?_
              rintro e w9 ⟨rfl, b, cb, sB, hbb, hcb, st9⟩
              have hg8 : gA ≤ (w7.drewN kq).heap.size := by have := z8.size; omega
              have z9 : Below gA wA w9 := z8.trans (st9.below (fun x hx => by simp at hx; omega) hg8)
              rw [show max (bn : Int) 0 = ((bn - 0 : Nat) : Int) by omega] at sB
              have hbA : gA ≤ b := by omega
              have hcbA : gA ≤ cb := by omega
              go_wp2_with fail
              go_loopw [13, 14, 21] (fun at_ tn out W => ∃ (a4 t4 o : Nat) (d4 own : Option Nat) (rs bs : List UInt8) (A4 : Option Addr) (c4 : Nat), at_ = .int .i64 a4 ∧ tn = .int .i64 t4 ∧ out = .slice A4 o c4 ∧ t4 ≤ a4 ∧ a4 ≤ m ∧ po + N3 + o ≤ a4 ∧ o ≤ bn ∧
                Ow W gA 1 (.slice A4 o c4) o (bcells (bd.take o)) ∧ IsSideB W s r 20000 d4 rs b own ((bn - o : Nat) : Int) cb bs ∧ bs ++ rs = heldAt al (po + N3 + o) a4 ∧ (∀ x, own = some x → gA ≤ x) ∧
                (∀ x, (Value.slice A4 o c4).ownBlock = some x → x ≠ s ∧ x ≠ r ∧ x ≠ b ∧ x ≠ cb ∧ d4 ≠ some x ∧ own ≠ some x) ∧ Below gA wA W) (fun at_ _ out _ => (m - (intOf at_).toNat) + (bn - lenOf out))
              case atStart => exact ⟨a', t', 0, d', none, _, [], none, 0, rfl, rfl, rfl, hta', ham', q1, Nat.zero_le _, Ow.nil_, sB, rfl, (fun x e => by cases e), (fun x e => by cases e), z9⟩
              case round =>
                clear sB z9 st9 qb
                obtain ⟨a4, t4, o, d4, own, rs, bs, A4, c4, rfl, rfl, rfl, ht4, ha4, hpo4, hobn, ow4, sb4, hbs4, hown4, hap4, z4⟩ := hrel
                have hW4 : Below g w wr := hb.trans (z4.mono hgz)
                have hgW4 : gA ≤ wr.heap.size := by have := z4.size; omega
                have hbn500 : bn ≤ 500 := by rw [HBN.out, HBD.out]; exact fB
                have qt := back_take al rs bs s r 20000 (po + N3 + o) a4 b cb bn o own d4 wr sb4 hbs4 hpo4 (by rw [HLEN.out]; exact ha4) (by rw [HLEN.out]; omega) hobn (by omega)
                have hlt4 := sideB_lt sb4
                clear sb4
                go_wp2_with fail
                refine qt.mono ?_
                rintro e w5 ⟨A5, c5, K5, E5, rfl, rd5, st5, hd5⟩
                have z5 : Below gA wA w5 := z4.trans (st5.below (fun x hx => by
                  simp only [List.mem_cons, List.not_mem_nil, or_false, Option.some.injEq] at hx
                  rcases hx with rfl | hx | rfl | rfl
                  · exact hr
                  · exact hown4 x hx.symm
                  · exact hbA
                  · exact hs) hgW4)
                have hg5 : gA ≤ w5.heap.size := Nat.le_trans hgW4 st5.2.2.2.1
                have ow5 := Ow.stay_ ow4 st5 (fun x hx hm => by
                  obtain ⟨h1, h2, h3, h4, h5, h6⟩ := hap4 x hx
                  simp only [List.mem_cons, List.not_mem_nil, or_false, Option.some.injEq] at hm
                  rcases hm with e | e | e | e
                  · exact h2 e
                  · exact h6 e.symm
                  · exact h3 e
                  · exact h1 e)
                have hrowlt := ow4.lt
                have hsz5 : wr.heap.size ≤ w5.heap.size := st5.2.2.2.1
                clear qt ow4 st5
                have w6step : Hid (∀ (v6 : Value) (w6 : World), Below gA w5 w6 → Below gA wA w6 ∧ Below g w w6 ∧ gA ≤ w6.heap.size ∧ w5.heap.size ≤ w6.heap.size) := hide fun v6 w6 z56 => by
                  have z6 := z5.trans z56
                  exact ⟨z6, hb.trans (z6.mono hgz), Nat.le_trans hg5 z56.size, z56.size⟩
                rcases hd5 with ⟨rfl, hK0, hob, d5, s5, hfd⟩ | ⟨hE, hK1, hK2, hK0, own5, s5, hfo⟩
                · have HK := hide hK0
                  have HOB := hide hob
                  have hd5r : ∀ x, (Value.slice A4 o c4).ownBlock = some x → d5 ≠ some x := by
                    intro x hx e
                    rcases hfd with h | h
                    · exact (hap4 x hx).2.2.2.2.1 (h ▸ e)
                    · have h1 := h x e
                      have h2 := (hrowlt x hx).2
                      omega
                  clear hK0 hob hfd
                  go_upto_region 37 with (at_builtin; refine wpl_append_ow _ rfl _ _ _ rfl gA 5 i0 _ 1 1 Tryz.underlying24 hi0 hz0 hz1 hz2 rfl (by omega) (.slice A4 o c4) o _ rfl _ A5 K5 c5 _ rfl ow5 rd5 (bcells_one _) (by have := HK.out; unfold maxLen; omega) (by have := HK.out; omega) hg5 ?_; intro v6 w6 ow6 z56 g6 f6; obtain ⟨A6, c6, rfl, hc6, -⟩ := ow6.shape)
                  obtain ⟨z6, hW6, hg6, -⟩ := w6step.out (.slice A6 (o + K5) c6) w6 z56
                  have ow7 : Ow w6 gA 1 (.slice A6 (o + K5) c6) (o + K5) (bcells bd) := by
                    have e1 : bd.take o = bd := List.take_of_length_le (by rw [← HBN.out, HOB.out]; exact Nat.le_refl _)
                    rw [e1, HK.out] at ow6
                    rw [HK.out]
                    simpa [bcells] using ow6
                  have s6 := side_far_ (g := 0) s5 g6 (row_ne fun x hx => (hap4 x hx).1) (row_ne fun x hx => (hap4 x hx).2.1) (row_or hd5r)
                  obtain ⟨ab3, Ai3, ci3, hAa3, hAb3, hcell3, hrd3, hci3, hcm3⟩ := (h'.below hW6).2 j (by have := h'.1; omega)
                  cases hAa3
                  have hbe3 : ps[j]'(by have := h'.1; omega) = bd := by rw [HBD.out, List.getElem?_eq_getElem (by have := h'.1; omega)]; rfl
                  rw [hbe3, ← HBN.out] at hcell3 hrd3 hci3
                  have sm3 := same_any A6 Ai3 (o + K5) c6 bn ci3 _ _ bd bd w6 ow7.rd hrd3 (by have := HK.out; omega) (by omega)
                  rw [beq_self_eq_true] at sm3
                  clear ow6 ow7 s5 rd5 ow5 hbe3
                  go_wp2_with fail
                  refine sm3.mono ?_
                  rintro e w8 ⟨rfl, kr, rfl⟩
                  go_wp2_with fail
                  go_roundw
                  case rel =>
                    have hnx : backL (msgs R ps (j + 1)) = backL (msgs R ps j) ++ P ++ bd := by rw [msgs_succ, backL_snoc, HP.out, ← HBD.out]
                    have hnl : (backL (msgs R ps (j + 1))).length = po + N3 + o := by
                      rw [hnx, List.length_append, List.length_append, ← HPRE.out, ← HPO.out, ← HPN.out, ← HBN.out, HOB.out]
                    refine ⟨j + 1, a4, t4, d5, by omega, rfl, rfl, rfl, ht4, ha4, ?_, ?_, below_drewN z6⟩
                    · rw [hnl]; exact hpo4
                    · rw [hnl]; exact s6.drewN kr
                  case measure => simp [intOf]; omega
                · have hlt5 := sideB_lt s5
                  have hap5 : ∀ x, (Value.slice A4 o c4).ownBlock = some x → own5 ≠ some x := by
                    intro x hx e
                    have h1 := hfo x e
                    have h2 := (hrowlt x hx).2
                    omega
                  rw [Nat.add_assoc (po + N3) o K5] at s5
                  have hown5 : ∀ x, own5 = some x → gA ≤ x := fun x e => Nat.le_trans hgW4 (hfo x e)
                  have hho : Hid (bd.take o ++ (heldAt al (po + N3 + o) a4).take K5 = bd.take (o + K5)) := hide (by
                    have hpm : po + N3 + bn ≤ m := by
                      have := congrArg List.length HALL.out
                      rw [List.length_append, List.length_append, List.length_append, HLEN.out] at this
                      rw [HPO.out, HPN.out, HP.out, HBN.out]; omega
                    have hrest : al = (pre ++ P) ++ (bd ++ rest) := by rw [HALL.out, HP.out, List.append_assoc]
                    have hpl : (pre ++ P).length = po + N3 := by rw [List.length_append, ← HPO.out, ← HPN.out]
                    have e1 : heldAt al (po + N3 + o) a4 = ((bd ++ rest).take (a4 - (po + N3))).drop o := by
                      unfold heldAt
                      rw [hrest, List.take_append, List.take_of_length_le (by omega), ← List.drop_drop, ← hpl, List.drop_left]
                    rw [e1]
                    exact take_glue bd rest _ o K5 (by omega) (by rw [← HBN.out]; omega))
                  have fin6 : Hid (∀ (A6 : Option Addr) (c6 : Nat) (w6 : World), Ow w6 gA 1 (.slice A6 (o + K5) c6) (o + K5) (bcells (bd.take o) ++ bcells ((heldAt al (po + N3 + o) a4).take K5)) → Below gA w5 w6 → w5.grownBy w6 (Value.slice A4 o c4).ownBlock → ((Value.slice A6 (o + K5) c6).ownBlock = (Value.slice A4 o c4).ownBlock ∨ ∀ g, (Value.slice A6 (o + K5) c6).ownBlock = some g → w5.heap.size ≤ g) →
                      Ow w6 gA 1 (.slice A6 (o + K5) c6) (o + K5) (bcells (bd.take (o + K5))) ∧ IsSideB w6 s r 20000 d4 [] b own5 ((bn - (o + K5) : Nat) : Int) cb (heldAt al (po + N3 + (o + K5)) a4) ∧ (∀ x, (Value.slice A6 (o + K5) c6).ownBlock = some x → x ≠ s ∧ x ≠ r ∧ x ≠ b ∧ x ≠ cb ∧ d4 ≠ some x ∧ own5 ≠ some x)) := hide fun A6 c6 w6 ow6 z56 g6 f6 => by
                    refine ⟨by rw [← hho.out, ← bcells_append]; exact ow6, sideB_far_ s5 g6 (row_ne fun x hx => (hap4 x hx).1) (row_ne fun x hx => (hap4 x hx).2.1) (row_or fun x hx => (hap4 x hx).2.2.2.2.1) (row_ne fun x hx => (hap4 x hx).2.2.1) (row_ne fun x hx => (hap4 x hx).2.2.2.1) (row_or2 hap5), ?_⟩
                    intro x hx
                    rcases f6 with e | e
                    · rw [e] at hx
                      obtain ⟨h1, h2, h3, h4, h5, h6⟩ := hap4 x hx
                      exact ⟨h1, h2, h3, h4, h5, hap5 x hx⟩
                    · have hge := e x hx
                      obtain ⟨l1, l2, l3, l4, l5, l6⟩ := hlt5
                      refine ⟨by omega, by omega, by omega, by omega, fun e2 => ?_, fun e2 => ?_⟩
                      · have := l5 x e2; omega
                      · have := l6 x e2; omega
                  have HHO := hide hho.out
                  clear hap4 hap5 s5 hlt5 hfo hown4 hrowlt hho
                  rcases hE with rfl | rfl
                  · have hkp : 0 < K5 := by
                      rcases Nat.eq_zero_or_pos K5 with h | h
                      · have := (hK0 h).1; omega
                      · exact h
                    go_upto_region 37 with (at_builtin; refine wpl_append_ow _ rfl _ _ _ rfl gA 5 i0 _ 1 1 Tryz.underlying24 hi0 hz0 hz1 hz2 rfl (by omega) (.slice A4 o c4) o _ rfl _ A5 K5 c5 _ rfl ow5 rd5 (bcells_one _) (by unfold maxLen; omega) (by omega) hg5 ?_; intro v6 w6 ow6 z56 g6 f6; obtain ⟨A6, c6, rfl, hc6, -⟩ := ow6.shape)
                    obtain ⟨z6, hW6, hg6, -⟩ := w6step.out (.slice A6 (o + K5) c6) w6 z56
                    obtain ⟨ow7, s6, hap6⟩ := fin6.out A6 c6 w6 ow6 z56 g6 f6
                    have t20 : ¬ (20000 : Int) < (t4 : Int) := by omega
                    have o1000 : ¬ (1000 : Int) < (o : Int) + (K5 : Int) := by omega
                    clear ow6 fin6 w6step rd5 ow5
                    go_wp2_with fail
                    go_roundw
                    case rel => exact ⟨a4, t4, o + K5, d4, own5, [], _, A6, c6, rfl, rfl, rfl, ht4, ha4, by omega, hK2, ow7, s6, List.append_nil _, hown5, hap6, z6⟩
                    case measure => simp [intOf, lenOf]; omega
                  · by_cases hk0 : K5 = 0
                    · obtain ⟨-, hap, hob⟩ := hK0 hk0
                      have hpm : po + N3 + bn ≤ m := by
                        have := congrArg List.length HALL.out
                        rw [List.length_append, List.length_append, List.length_append, HLEN.out] at this
                        rw [HPO.out, HPN.out, HP.out, HBN.out]; omega
                      have hlt : a4 < m := by omega
                      have kz : ((K5 : Int) == 0) = true := by simp; omega
                      have am : ((a4 : Int) == (m : Int)) = false := by simp; omega
                      clear hk0 hap
                      go_upto_region 37 with (at_builtin; refine wpl_append_ow _ rfl _ _ _ rfl gA 5 i0 _ 1 1 Tryz.underlying24 hi0 hz0 hz1 hz2 rfl (by omega) (.slice A4 o c4) o _ rfl _ A5 K5 c5 _ rfl ow5 rd5 (bcells_one _) (by unfold maxLen; omega) (by omega) hg5 ?_; intro v6 w6 ow6 z56 g6 f6; obtain ⟨A6, c6, rfl, hc6, -⟩ := ow6.shape)
                      obtain ⟨z6, hW6, hg6, -⟩ := w6step.out (.slice A6 (o + K5) c6) w6 z56
                      obtain ⟨ow7, s6, hap6⟩ := fin6.out A6 c6 w6 ow6 z56 g6 f6
                      have t20 : ¬ (20000 : Int) < (t4 : Int) := by omega
                      have o1000 : ¬ (1000 : Int) < (o : Int) + (K5 : Int) := by omega
                      clear ow6 fin6 w6step rd5 ow5
                      have hjm : t4 % n2 < n2 := Nat.mod_lt _ (by omega)
                      have hmod : (t4 : Int).tmod (n2 : Int) = ((t4 % n2 : Nat) : Int) := by rw [Int.tmod_eq_emod_of_nonneg (by omega)]; rfl
                      obtain ⟨jm, hjmd⟩ : ∃ x, x = t4 % n2 := ⟨_, rfl⟩
                      rw [← hjmd] at hjm hmod
                      clear hjmd
                      obtain ⟨a2, hA2, -, hc2⟩ := (h2.below hW6).byte (k := jm) hjm
                      obtain ⟨x, hx⟩ : ∃ x : Nat, x = ((pt.getD jm 0).toNat) := ⟨_, rfl⟩
                      have hx256 : x < 256 := by rw [hx]; exact UInt8.toNat_lt _
                      rw [← hx] at hc2
                      clear hx
                      subst hA2
                      have hn2' : ¬ (n2 : Int) = 0 := by omega
                      have v1 : IntKind.i64.wrap ((a4 : Int) + (x : Int)) = (a4 : Int) + (x : Int) := by rw [IntKind.wrap_i64]; omega
                      have v2 : IntKind.i64.wrap ((a4 : Int) + (x : Int) + 1) = (a4 : Int) + (x : Int) + 1 := by rw [IntKind.wrap_i64]; omega
                      obtain ⟨b0, hb0, -, -⟩ := ra.at_ (k := 0) (by omega)
                      subst hb0
                      have feedB : Hid (∀ K : Nat, a4 < K → K ≤ m → Calls Tryz.prog 10 #[.pointer (some ⟨s, 0, none⟩), .slice (some (b0.add a4)) (K - a4) (cB - a4)] w6 fun e w' => ∃ z : Nat, a4 + z = K ∧ e = .returned (.int .i64 (z : Nat)) ∧ ∃ d' rs', IsSideB w' s r 20000 d' rs' b own5 ((bn - (o + K5) : Nat) : Int) cb (heldAt al (po + N3 + (o + K5)) a4) ∧ heldAt al (po + N3 + (o + K5)) a4 ++ rs' = heldAt al (po + N3 + (o + K5)) K ∧ (d' = d4 ∨ ∀ g, d' = some g → w6.heap.size ≤ g) ∧ w6.grownBy w' (some r)) := hide fun K h1 h2 => by
                        have rc := (ra.below z6).cut (k := a4) (m := K) (cap := cB) (by omega) h2 hmk
                        rw [if_neg (by omega)] at rc
                        simp only [Nat.mul_one, Option.map_some] at rc
                        rw [bcells_drop, bcells_take] at rc
                        refine (back_feedB al [] _ s r 20000 (po + N3 + (o + K5)) a4 K b cb own5 _ d4 _ _ _ gA w6 s6 (List.append_nil _) (by omega) (by omega) (by rw [HLEN.out]; exact h2) (by rw [HLEN.out]; omega) rfl ?_ hg6 (by omega)).mono ?_
                        · rw [List.drop_take]
                          exact rc
                        · rintro e w' ⟨rfl, hx⟩
                          exact ⟨K - a4, by omega, rfl, hx⟩
                      by_cases hov : m < a4 + x + 1
                      · have hov' : (m : Int) < (a4 : Int) + (x : Int) + 1 := by omega
                        have fk := feedB.out m (by omega) (Nat.le_refl _)
                        go_wp2_with fail
                        refine fk.mono ?_
                        rintro e w8 ⟨zz, hzK, rfl, d8, rs8, s8, hh8, hfd8, g8⟩
                        have v3 : IntKind.i64.wrap ((a4 : Int) + (zz : Int)) = ((m : Nat) : Int) := by rw [IntKind.wrap_i64]; omega
                        have v4 : IntKind.i64.wrap ((t4 : Int) + 1) = (t4 : Int) + 1 := by rw [IntKind.wrap_i64]; omega
                        have v5 : ¬ (20000 : Int) < (t4 : Int) + 1 := by omega
                        have z8 := z6.grown g8 hg6 (by intro x ex; cases ex; exact hr)
                        have ow8 := ow7.kept g8 (row_or2 (fun x hx => by cases hx; exact fun e => (hap6 _ e).2.1 rfl))
                        have hap8 : ∀ x, (Value.slice A6 (o + K5) c6).ownBlock = some x → x ≠ s ∧ x ≠ r ∧ x ≠ b ∧ x ≠ cb ∧ d8 ≠ some x ∧ own5 ≠ some x := fun x hx => by
                          obtain ⟨h1, h2, h3, h4, h5, h6⟩ := hap6 x hx
                          refine ⟨h1, h2, h3, h4, ?_, h6⟩
                          intro e
                          rcases hfd8 with h | h
                          · exact h5 (h ▸ e)
                          · have k1 := h x e
                            have k2 := (ow7.lt x hx).2
                            omega
                        have HZ := hide hzK
                        clear fk hzK
                        go_wp2_with fail
                        go_roundw
                        case rel => exact ⟨m, t4 + 1, o + K5, d8, own5, rs8, _, A6, c6, rfl, rfl, rfl, by omega, by omega, by omega, hK2, ow8, s8, hh8, hown5, hap8, z8⟩
                        case measure => simp [intOf, lenOf]; omega
                      · have hov' : ¬ (m : Int) < (a4 : Int) + (x : Int) + 1 := by omega
                        have fk := feedB.out (a4 + x + 1) (by omega) (by omega)
                        go_wp2_with fail
                        refine fk.mono ?_
                        rintro e w8 ⟨zz, hzK, rfl, d8, rs8, s8, hh8, hfd8, g8⟩
                        have v3 : IntKind.i64.wrap ((a4 : Int) + (zz : Int)) = (a4 : Int) + (x : Int) + 1 := by rw [IntKind.wrap_i64]; omega
                        have v4 : IntKind.i64.wrap ((t4 : Int) + 1) = (t4 : Int) + 1 := by rw [IntKind.wrap_i64]; omega
                        have v5 : ¬ (20000 : Int) < (t4 : Int) + 1 := by omega
                        have z8 := z6.grown g8 hg6 (by intro x ex; cases ex; exact hr)
                        have ow8 := ow7.kept g8 (row_or2 (fun x hx => by cases hx; exact fun e => (hap6 _ e).2.1 rfl))
                        have hap8 : ∀ x, (Value.slice A6 (o + K5) c6).ownBlock = some x → x ≠ s ∧ x ≠ r ∧ x ≠ b ∧ x ≠ cb ∧ d8 ≠ some x ∧ own5 ≠ some x := fun x hx => by
                          obtain ⟨h1, h2, h3, h4, h5, h6⟩ := hap6 x hx
                          refine ⟨h1, h2, h3, h4, ?_, h6⟩
                          intro e
                          rcases hfd8 with h | h
                          · exact h5 (h ▸ e)
                          · have k1 := h x e
                            have k2 := (ow7.lt x hx).2
                            omega
                        have HZ := hide hzK
                        clear fk hzK
                        go_wp2_with fail
                        go_roundw
                        case rel => exact ⟨(a4 + x + 1), t4 + 1, o + K5, d8, own5, rs8, _, A6, c6, rfl, rfl, rfl, by omega, by omega, by omega, hK2, ow8, s8, hh8, hown5, hap8, z8⟩
                        case measure => simp [intOf, lenOf]; omega
                    · have hkp : 0 < K5 := by omega
                      have kz : ((K5 : Int) == 0) = false := by simp; omega
                      go_upto_region 37 with (at_builtin; refine wpl_append_ow _ rfl _ _ _ rfl gA 5 i0 _ 1 1 Tryz.underlying24 hi0 hz0 hz1 hz2 rfl (by omega) (.slice A4 o c4) o _ rfl _ A5 K5 c5 _ rfl ow5 rd5 (bcells_one _) (by unfold maxLen; omega) (by omega) hg5 ?_; intro v6 w6 ow6 z56 g6 f6; obtain ⟨A6, c6, rfl, hc6, -⟩ := ow6.shape)
                      obtain ⟨z6, hW6, hg6, -⟩ := w6step.out (.slice A6 (o + K5) c6) w6 z56
                      obtain ⟨ow7, s6, hap6⟩ := fin6.out A6 c6 w6 ow6 z56 g6 f6
                      have t20 : ¬ (20000 : Int) < (t4 : Int) := by omega
                      have o1000 : ¬ (1000 : Int) < (o : Int) + (K5 : Int) := by omega
                      clear ow6 fin6 w6step rd5 ow5
                      go_wp2_with fail
                      go_roundw
                      case rel => exact ⟨a4, t4, o + K5, d4, own5, [], _, A6, c6, rfl, rfl, rfl, ht4, ha4, by omega, hK2, ow7, s6, List.append_nil _, hown5, hap6, z6⟩
                      case measure => simp [intOf, lenOf]; omega
        · have hjk0 : ¬ (j : Int) < (k : Int) := by omega
          have hje : j = k := by omega
          have hpl : (backL (msgs R ps j)).length = m := by rw [hje, ← HAL.out, HLEN.out]
          have hae : a = m := by omega
          have hheld : heldAt al m m = [] := by
            unfold heldAt
            rw [List.take_of_length_le (by rw [HLEN.out]; exact Nat.le_refl _)]
            exact List.drop_of_length_le (by rw [HLEN.out]; exact Nat.le_refl _)
          rw [hae, hpl, hheld] at hsd
          have hW : Below g w wr := hb.trans (hbl.mono hgz)
          have hgW : gA ≤ wr.heap.size := by have := hbl.size; omega
          have en := linkend_any s r 20000 d [] wr hsd
          clear hje hpl hae hheld
          go_wp2_with fail
          refine en.mono ?_
          rintro e w3 ⟨rfl, s3, g3⟩
          have z3 := hbl.grown g3 hgW (by intro x ex; cases ex; exact hs)
          have hW3 : Below g w w3 := hb.trans (z3.mono hgz)
          have hdd := linkhead_any s r 20000 true d [] mx w3 s3 (hmx.out _ hW3)
          have e8 : hdE [] true = 8 := by rfl
          rw [e8] at hdd
          clear en
          go_wp2_with fail
          refine hdd.mono ?_
          rintro e w4 ⟨A4, c4, rfl, -, -, g4⟩
          have z4 := z3.grown g4 (Nat.le_trans hgW g3.size) (by intro x ex; cases ex; exact hr)
          clear hdd
          go_wp2_with fail
          go_ret
          rw [hg]
          exact ⟨rfl, hb.trans (z4.mono hgz)⟩
/-- The settled world that the card begins from. -/
noncomputable def laidWorld (os : Os) : World := laidWorld7 os
end Go.Proofs.YtfifoimnebbflaaGreatDoor.LinkBackP
