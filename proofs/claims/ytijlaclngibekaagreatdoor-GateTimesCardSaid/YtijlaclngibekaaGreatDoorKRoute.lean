/- route.Find of one route that leads anywhere. -/
import Derived.Test.YtijlaclngibekaaGreatDoorKShelves
import Derived.Test.YtijlaclngibekaaGreatDoorKBase
import Derived.Test.YtijlaclngibekaaGreatDoorKCalm
import Derived.Test.YtijlaclngibekaaGreatDoorKTrimG
import Derived.Deep.DeepCutAuto
import Derived.OwnWalk
namespace Go.Proofs.YtijlaclngibekaaGreatDoor
open Go.RowKit
set_option linter.unusedVariables false
set_option linter.unusedSimpArgs false

set_option maxRecDepth 100000 in
set_option maxHeartbeats 3200000 in
/-- One route, of prefix "/", to upstream u: a target that begins with "/" goes there. -/
theorem routefind_one (A : Option Addr) (c : Nat) (u : Int) (host target : ByteArray) (t : List UInt8) (B : Nat) (w : World) (hr : Rd w B 3 A 1 [.string ⟨#[]⟩, .string ⟨#[47]⟩, .int .i64 u]) (hB : B ≤ w.heap.size) (ht : target.data.toList = 47 :: t) :
    Calls Tryz.prog 108 #[.slice A 1 c, .string host, .string target] w fun e w' => e = .returned (.tuple #[.int .i64 u, .bool true]) ∧ Below w.heap.size w w' := by
  obtain ⟨g, hg⟩ : ∃ g, w.heap.size = g := ⟨_, rfl⟩
  have hp := fun W => Tryz.strings_HasPrefix target ⟨#[47]⟩ W
  have e1 : Lib.hasPrefix target.data.toList (⟨#[47]⟩ : ByteArray).data.toList = true := by rw [ht]; simp [Lib.hasPrefix, List.isPrefixOf]
  simp only [e1] at hp
  have HP := hide hp
  clear hp e1 ht
  have bz := Box.new w #[.string ⟨#[]⟩, .string ⟨#[]⟩, .int .i64 0] 30
  have b1 : Below g w (w.alloc (.cells #[.string ⟨#[]⟩, .string ⟨#[]⟩, .int .i64 0] 30)) := (Below.refl _ _).alloc (Nat.le_of_eq hg.symm) _
  rw [hg] at bz
  have hr1 := hr.below (b1.mono (hg ▸ hB))
  go_enter Tryz.func108, Tryz.ntmps108
  go_upto_region 2 with (fail)
  generalize w.alloc _ = w1 at bz b1 hr1 ⊢
  obtain ⟨ab, ao, rfl, hab, hc⟩ := hr1.lit (k := 0) (by omega) (by omega)
  have c0 : w1.cell? ⟨ab, ao, none⟩ = some (.string ⟨#[]⟩) := hc 0 _ rfl
  have c1 : w1.cell? ⟨ab, ao + 1, none⟩ = some (.string ⟨#[47]⟩) := hc 1 _ rfl
  have c2 : w1.cell? ⟨ab, ao + 2, none⟩ = some (.int .i64 u) := hc 2 _ rfl
  have hg1 : g < w1.heap.size := bz.1
  clear hc hr1 hr
  go_wp2_with fail
  go_loopw [14, 9] (fun i f W => (i = .int .i64 0 ∧ f = .bool false ∧ W = w1) ∨ (i = .int .i64 1 ∧ f = .bool true ∧ W.cell? ⟨g, 2, none⟩ = some (.int .i64 u) ∧ Below g w W)) (fun i _ _ => 1 - (intOf i).toNat)
  case atStart => exact .inl ⟨rfl, rfl, rfl⟩
  case round =>
    rcases hrel with ⟨rfl, rfl, rfl⟩ | ⟨rfl, rfl, hc, hb⟩
    · have bl := Box.new wr #[.string ⟨#[]⟩, .string ⟨#[47]⟩, .int .i64 u] 30
      have b2 : Below wr.heap.size wr (wr.alloc (.cells #[.string ⟨#[]⟩, .string ⟨#[47]⟩, .int .i64 u] 30)) := (Below.refl _ _).alloc (Nat.le_refl _) _
      obtain ⟨gl, hgl⟩ : ∃ n, wr.heap.size = n := ⟨_, rfl⟩
      rw [hgl] at bl
      have hgg : g < gl := hgl ▸ hg1
      have bz3 := bz.below b2
      have t3 := b1.trans (b2.mono (by omega))
      go_upto_region 6 with (fail)
      generalize wr.alloc _ = w3 at bl bz3 t3 ⊢
      obtain ⟨l0, -⟩ := bl.2 0 _ rfl
      obtain ⟨l1, -⟩ := bl.2 1 _ rfl
      obtain ⟨l2, -⟩ := bl.2 2 _ rfl
      obtain ⟨z0, f0⟩ := bz3.2 0 _ rfl
      obtain ⟨z1, f1⟩ := bz3.2 1 _ rfl
      obtain ⟨z2, f2⟩ := bz3.2 2 _ rfl
      clear c0 c1 c2
      go_wp2_with fail
      refine (HP.out w3).mono ?_
      rintro e w4 ⟨rfl, rfl⟩
      have t4 : Below g w (((w4.setCell ⟨g, 0, none⟩ (.string ⟨#[]⟩)).setCell ⟨g, 1, none⟩ (.string ⟨#[47]⟩)).setCell ⟨g, 2, none⟩ (.int .i64 u)) := ((t3.setCell (Nat.le_refl _) _).setCell (Nat.le_refl _) _).setCell (Nat.le_refl _) _
      have bz4 := ((bz3.set (k := 0) (x := .string ⟨#[]⟩) (by simp)).set (k := 1) (x := .string ⟨#[47]⟩) (by simp)).set (k := 2) (x := .int .i64 u) (by simp)
      have u4 := (bz4.2 2 _ rfl).1
      go_wp2_with fail
      go_roundw
      case rel => exact .inr ⟨by go_num, rfl, u4, t4⟩
      case measure => simp [intOf]
    · go_wp2_with fail
      go_ret2
      rw [hg]
      exact ⟨rfl, hb⟩
set_option maxRecDepth 100000 in
set_option maxHeartbeats 1600000 in
/-- A byte that stands nowhere. -/
theorem lastbyte_none (s : ByteArray) (x : UInt8) (w : World) (hs : s.size ≤ 140737488355328) (hx : x ∉ s.data.toList) :
    Calls Tryz.prog 233 #[.string s, .int .u8 (x.toNat : Int)] w fun e w' => e = .returned (.int .i64 (-1)) ∧ w = w' := by
  have HX := hide hx
  clear hx
  go_enter Tryz.func233, Tryz.ntmps233
  go_wp2_with fail
  go_loopw [5] (fun i W => ∃ k : Nat, k ≤ s.size ∧ i = .int .i64 ((k : Int) - 1) ∧ W = w) (fun i _ => (intOf i + 1).toNat)
  case atStart => exact ⟨s.size, Nat.le_refl _, rfl, rfl⟩
  case round =>
    obtain ⟨k, hk, rfl, rfl⟩ := hrel
    by_cases h0 : k = 0
    · subst h0
      have h1 : ¬ (0 : Int) ≤ ((0 : Nat) : Int) - 1 := by omega
      go_wp2_with fail
      go_ret
      exact ⟨rfl, rfl⟩
    · obtain ⟨j, rfl⟩ : ∃ j, k = j + 1 := ⟨k - 1, by omega⟩
      have hj : j < s.size := by omega
      have e1 : (((j + 1 : Nat) : Int) - 1) = (j : Int) := by omega
      rw [e1]
      have hne : ¬ ((s[j].toNat : Nat) : Int) = (x.toNat : Int) := fun h => HX.out (by
        have h2 : s[j] = x := UInt8.toNat_inj.mp (by omega)
        have h3 : j < s.data.toList.length := by rw [Array.length_toList]; exact hj
        have h4 : s.data.toList[j] = s[j] := by rw [Array.getElem_toList]; rfl
        rw [← h2, ← h4]; exact List.getElem_mem h3)
      clear e1
      go_wp2_with fail
      go_roundw
      case rel => exact ⟨j, by omega, by go_num, trivial⟩
      case measure => simp [intOf]
set_option maxRecDepth 100000 in
set_option maxHeartbeats 1600000 in
/-- A host without a colon has no port. -/
theorem port_plain (s : ByteArray) (w : World) (hs : s.size ≤ 140737488355328) (hx : (58 : UInt8) ∉ s.data.toList) :
    Calls Tryz.prog 142 #[.string s] w fun e w' => e = .returned (.string s) ∧ w = w' := by
  have q : Calls Tryz.prog 186 #[.string s, .int .u8 58] w fun e w' => e = .returned (.int .i64 (-1)) ∧ w = w' := by
    have q0 : Calls Tryz.prog 233 #[.string s, .int .u8 58] w fun e w' => e = .returned (.int .i64 (-1)) ∧ w = w' := lastbyte_none s 58 w hs hx
    go_enter Tryz.func186, Tryz.ntmps186
    go_wp2_with fail
    refine q0.mono ?_
    rintro e w1 ⟨rfl, rfl⟩
    go_wp2_with fail
    go_ret
    exact ⟨rfl, rfl⟩
  clear hx
  go_enter Tryz.func142, Tryz.ntmps142
  go_wp2_with fail
  refine q.mono ?_
  rintro e w1 ⟨rfl, rfl⟩
  go_wp2_with fail
  go_ret
  exact ⟨rfl, rfl⟩
set_option maxRecDepth 100000 in
set_option maxHeartbeats 1600000 in
/-- The host of a request that names one, without a colon. -/
theorem routehost_one (m t : ByteArray) (minor : Int) (A : Option Addr) (n c : Nat) (fs : List (List UInt8 × List UInt8)) (h : List UInt8) (w : World) (hr : Rd w w.heap.size 2 A n (fcells fs)) (hn : n ≤ 1000000) (hok : fsOk fs) (hl : getL fs [72, 111, 115, 116] = [h]) (h58 : (58 : UInt8) ∉ lowL h) (hz : h.length ≤ 100000) :
    Calls Tryz.prog 106 #[.agg #[.string m, .string t, .int .i64 minor, .slice A n c]] w fun e w' => e = .returned (.tuple #[.string ⟨(lowL h).toArray⟩, .int .i64 0]) ∧ Below w.heap.size w w' := by
  obtain ⟨g, hg⟩ : ∃ g, w.heap.size = g := ⟨_, rfl⟩
  have bz := Box.new w #[.string m, .string t, .int .i64 minor, .slice A n c] 80
  have b1 : Below g w (w.alloc (.cells #[.string m, .string t, .int .i64 minor, .slice A n c] 80)) := (Below.refl _ _).alloc (Nat.le_of_eq hg.symm) _
  rw [hg] at bz hr
  have hr1 := hr.below b1
  have hs1 := b1.size
  obtain ⟨lb, hlb0⟩ : ∃ b : ByteArray, b = ⟨(lowL h).toArray⟩ := ⟨_, rfl⟩
  rw [← hlb0]
  have HLB := hide hlb0
  clear hlb0
  go_enter Tryz.func106, Tryz.ntmps106
  go_upto_region 1 with (fail)
  generalize w.alloc _ = w1 at bz b1 hr1 hs1 ⊢
  obtain ⟨k0, -⟩ := bz.2 0 _ rfl
  obtain ⟨k1, -⟩ := bz.2 1 _ rfl
  obtain ⟨k2, -⟩ := bz.2 2 _ rfl
  obtain ⟨k3, -⟩ := bz.2 3 _ rfl
  have q := get_any A n c g fs ⟨#[72, 111, 115, 116]⟩ w1 hr1 (hg ▸ hs1) hn hok (by decide)
  have e1 : (⟨#[72, 111, 115, 116]⟩ : ByteArray).data.toList = [72, 111, 115, 116] := rfl
  rw [e1, hl] at q
  clear e1 hl
  go_wp2_with fail
  refine q.mono ?_
  rintro e w2 ⟨A2, c2, rfl, how, hcc, b2⟩
  have e2 : [h].length = 1 := rfl
  rw [e2] at how ⊢
  have hrd := Rd.of_own how
  obtain ⟨ab, ao, rfl, hab, hc⟩ := hrd.lit (k := 0) (by omega) (by omega)
  have c0 : w2.cell? ⟨ab, ao, none⟩ = some (.string ⟨h.toArray⟩) := hc 0 _ rfl
  have bz2 := bz.below b2
  have t2 := b1.trans (b2.mono (hg ▸ hs1))
  clear k0 k1 k2 k3 hc q e2 how hrd
  obtain ⟨k0, -⟩ := bz2.2 0 _ rfl
  obtain ⟨k1, -⟩ := bz2.2 1 _ rfl
  obtain ⟨k2, -⟩ := bz2.2 2 _ rfl
  obtain ⟨k3, -⟩ := bz2.2 3 _ rfl
  obtain ⟨hb, hhb⟩ : ∃ b : ByteArray, b = ⟨h.toArray⟩ := ⟨_, rfl⟩
  have hbs : hb.size ≤ 100000 := by rw [hhb, mk_size]; exact hz
  have lw := lower_any hb w2 (by omega)
  have e3 : hb.data.toList = h := by rw [hhb]
  rw [e3] at lw
  rw [← hhb] at c0
  rw [← HLB.out] at lw
  have hlb := HLB.out
  have hld : lb.data.toList = lowL h := by rw [hlb]
  have hls : lb.size ≤ 140737488355328 := by
    rw [hlb, mk_size]; unfold lowL; rw [List.length_map]; omega
  have QP := hide (fun (W : World) => port_plain lb W hls (by rw [hld]; exact h58))
  clear hhb e3 hlb hld hls h58
  go_wp2_with fail
  refine lw.mono ?_
  rintro e w3 ⟨rfl, b3⟩
  clear lw
  go_wp2_with fail
  refine (QP.out w3).mono ?_
  rintro e w4 ⟨rfl, rfl⟩
  go_wp2_with fail
  go_ret2
  rw [hg]
  exact ⟨rfl, t2.trans (b3.mono (hg ▸ t2.size))⟩
end Go.Proofs.YtijlaclngibekaaGreatDoor
