/- HeadEnds returns true for any bytes and any number, and the bytes read as before. -/
import Derived.Test.YtdeklollaffpaaaDoorHeadEnd
import Derived.Test.YtdeklollaffpaaaDoorOpenB
namespace Go.Proofs.YtdeklollaffpaaaDoor.HeadEndsP
open Go.RowKit

theorem own_shape0 {w : World} {base e size n : Nat} {v : Value} {xs : List Value} (h : w.ownsRow base e size v n xs) : ∃ A c, v = .slice A n c ∧ n ≤ c ∧ (A = none → c = 0) := by
  rcases h.2 with ⟨rfl, rfl⟩ | ⟨g, cap, cur, rfl, h0, _, h1, h2, _⟩
  · exact ⟨none, 0, rfl, Nat.le_refl _, fun _ => rfl⟩
  · exact ⟨_, cap, rfl, h1, fun h => by cases h⟩
theorem own_snoc_a {w : World} {base e n : Nat} {v : Value} {l : List UInt8} {k : Nat} (h : w.ownsRow base e 1 v (n + k + 1) (bcells (l ++ List.replicate k 97) ++ (#[Value.int .u8 97]).toList)) : w.ownsRow base e 1 v (n + (k + 1)) (bcells (l ++ List.replicate (k + 1) 97)) := by
  have he : bcells (l ++ List.replicate (k + 1) 97) = bcells (l ++ List.replicate k 97) ++ [Value.int .u8 97] := by
    rw [List.replicate_succ', ← List.append_assoc]
    unfold bcells
    rw [List.map_append (l₂ := [97])]
    rfl
  rw [he]
  exact h
set_option maxRecDepth 100000 in
set_option maxHeartbeats 3200000 in
theorem walk (A : Option Addr) (n c : Nat) (bs : List UInt8) (more : Int) (w : World) (h : Rd w w.heap.size 1 A n (bcells bs)) (_hn63 : n ≤ maxLen) (hwf : (Lit.int .u16 more).wf = true) (mx : Int) (hm : w.cell? ⟨0, 0, none⟩ = some (.int .i64 mx)) :
    Calls Tryd.prog 4 #[.slice A n c, .int .u16 more] w fun e w' => e = .returned (.bool true) ∧ Below w.heap.size w w' := by
  have hn' : 0 ≤ more ∧ more < 65536 := by simp [Lit.wf, IntKind.min, IntKind.max, IntKind.signed, IntKind.bits] at hwf; omega
  obtain ⟨M, rfl⟩ : ∃ m : Nat, more = m := ⟨more.toNat, by omega⟩
  have hM : M < 65536 := by omega
  have hlen : bs.length = n := by have := h.1; rw [bcells_length] at this; omega
  have hmb : 0 < w.heap.size := World.block_lt_of_cell? w _ hm
  have an := fun (W : World) (bl : Below w.heap.size w W) => ans17_any W mx ((bl.cell (p := ⟨0, 0, none⟩) hmb).trans hm)
  by_cases hbig : 5000 < n
  · have an0 := an w (Below.refl _ _)
    have i1 : (5000 : Int) < (n : Int) := by omega
    clear an hwf hn' hlen
    go_enter Tryd.func4, Tryd.ntmps4
    go_wp2_with fail
    refine an0.mono ?_
    rintro e w1 ⟨rfl, b1⟩
    go_wp2_with fail
    go_ret
    exact ⟨rfl, b1⟩
  have i1 : ¬ (5000 : Int) < (n : Int) := by omega
  have hmod1 : (M : Int).tmod 20000 = ((M % 20000 : Nat) : Int) := by rw [Int.tmod_eq_emod_of_nonneg (by omega)]; rfl
  have hmod2 : (M : Int).tmod 2 = ((M % 2 : Nat) : Int) := by rw [Int.tmod_eq_emod_of_nonneg (by omega)]; rfl
  obtain ⟨u, hu⟩ : ∃ u, u = M % 20000 := ⟨_, rfl⟩
  rw [← hu] at hmod1
  have hu2 : u < 20000 := by rw [hu]; exact Nat.mod_lt _ (by decide)
  obtain ⟨K, hK⟩ : ∃ K, K = if M % 2 = 1 then u else 0 := ⟨_, rfl⟩
  have hKu : K ≤ u := by rw [hK]; split <;> omega
  obtain ⟨i0, hi0, hz0, hz1, hz2⟩ := info_parts infoU8
  have HL := hide hlen
  have HK := hide hK
  clear hu hwf hn' hK hlen
  go_enter Tryd.func4, Tryd.ntmps4
  have ho : (w.alloc (.cells #[] 5)).ownsRow w.heap.size 5 1 (.slice (some ⟨w.heap.size, 0, none⟩) 0 0) 0 [] := own_new w #[] _ 1 0 (by simp) (by decide) _ (Nat.le_refl _)
  have hr : Rd (w.alloc (.cells #[] 5)) w.heap.size 1 A n (bcells bs) := h.alloc (Nat.le_refl _) _
  have ta : Below w.heap.size w (w.alloc (.cells #[] 5)) := (Below.refl _ _).alloc (Nat.le_refl _) _
  go_upto_region 5 with (at_builtin; refine wpl_append _ rfl _ _ _ rfl w.heap.size _ i0 _ 1 1 Tryd.underlying31 hi0 hz0 hz1 hz2 rfl (by omega) _ _ _ rfl _ _ _ _ _ rfl ho hr (bcells_one bs) (by unfold maxLen; omega) (by omega) ta.size ?_; intro v1 w3 hown1 hbel1 _; rw [Nat.zero_add] at hown1; have hown2 : w3.ownsRow w.heap.size 5 1 v1 n (bcells bs) := hown1)
  have t3 := ta.trans hbel1
  clear hown1 hbel1 ho hr ta
  go_loopw [5, 6] (fun x i wr => ∃ k : Nat, k ≤ K ∧ i = .int .i64 k ∧ wr.ownsRow w.heap.size 5 1 x (n + k) (bcells (bs ++ List.replicate k 97)) ∧ Below w.heap.size w wr) (fun _ i _ => K - (intOf i).toNat)
  case atStart => exact ⟨0, Nat.zero_le _, rfl, by simpa using hown2, t3⟩
  case round =>
    obtain ⟨k, hk, rfl, ho, hb⟩ := hrel
    have hbz := hb.size
    by_cases hlt : k < K
    · have hodd : M % 2 = 1 := by
        rcases Nat.mod_two_eq_zero_or_one M with h0 | h0
        · rw [HK.out, if_neg (by omega)] at hlt; omega
        · exact h0
      have i2 : (k : Int) < (u : Int) := by omega
      rw [hodd] at hmod2
      go_wp2_with (at_builtin; refine wpl_push rfl _ _ _ rfl w.heap.size i0 _ 1 1 Tryd.underlying31 hi0 hz0 hz1 hz2 rfl (by omega) _ _ _ rfl _ rfl ho rfl (by simp [Value.oneCell']) (by unfold maxLen; omega) (by omega) hbz ?_; intro v2 w6 hown6 hbel6 _)
      go_roundw
      case rel => exact ⟨k + 1, by omega, by go_num, own_snoc_a hown6, hb.trans hbel6⟩
      case measure => simp [intOf]; omega
    · have hkK : k = K := by omega
      subst hkK
      have hfin : (decide ((k : Int) < (u : Int)) = false) ∨ (M % 2 = 0 ∧ (k : Int) < (u : Int)) := by
        rcases Nat.mod_two_eq_zero_or_one M with h0 | h0
        · by_cases hku : (k : Int) < (u : Int)
          · exact .inr ⟨h0, hku⟩
          · exact .inl (by simpa using hku)
        · left; have := HK.out; rw [if_pos h0] at this; simp; omega
      have hrA : Rd wr w.heap.size 1 A n (bcells bs) := h.below hb
      have he : ∀ W A4 c4, Rd W W.heap.size 1 A4 (n + k + n) (bcells (bs ++ List.replicate k 97) ++ bcells bs) → Rd W W.heap.size 1 A4 (n + k + n) (bcells (bs ++ List.replicate k 97 ++ bs)) ∧ (c4 : Nat) = c4 := fun W A4 c4 r => ⟨by rw [← bcells_append]; exact r, rfl⟩
      rcases hfin with i2 | ⟨h0, i2⟩
      · replace i2 : ¬ (k : Int) < (u : Int) := by simpa using i2
        go_upto_region 9 with (at_builtin; refine wpl_append _ rfl _ _ _ rfl w.heap.size _ i0 _ 1 1 Tryd.underlying31 hi0 hz0 hz1 hz2 rfl (by omega) _ _ _ rfl _ _ _ _ _ rfl ho hrA (bcells_one bs) (by unfold maxLen; omega) (by omega) hbz ?_; intro v4 w4 hown4 hbel4 _)
        obtain ⟨A4, c4, rfl, hnc4, hA4⟩ := own_shape0 hown4
        have r4 := (he w4 A4 c4 (Rd.of_own hown4)).1
        have t4 := hb.trans hbel4
        clear he ho hb hown4 hbel4 hrA hown2 t3
        obtain ⟨L, hLL⟩ : ∃ L, L = bs ++ List.replicate k 97 ++ bs := ⟨_, rfl⟩
        rw [← hLL] at r4
        obtain ⟨N, hN⟩ : ∃ N, N = n + k + n := ⟨_, rfl⟩
        rw [← hN] at r4 hnc4 ⊢
        have hNb : N ≤ 100000 := by omega
        have qe := headend_any A4 N c4 _ L mx w4 r4 (Nat.le_refl _) hNb hnc4 hA4 ((t4.cell (p := ⟨0, 0, none⟩) hmb).trans hm)
        clear hLL hN
        obtain ⟨rN, hrN⟩ : ∃ x, x = endN L := ⟨_, rfl⟩
        obtain ⟨rE, hrE⟩ : ∃ x, x = endE L := ⟨_, rfl⟩
        rw [← hrN, ← hrE] at qe
        go_wp2_with fail
        refine qe.mono ?_
        rintro e w5 ⟨rfl, b5⟩
        have qr := refend_any A4 N c4 _ L w5 (r4.below b5) hNb
        rw [← hrN, ← hrE] at qr
        have t5 := t4.trans (b5.mono t4.size)
        clear hrN hrE qe r4 b5 t4
        go_wp2_with fail
        refine qr.mono ?_
        rintro e w6 ⟨rfl, hw6⟩
        rw [hw6]
        clear qr hw6
        go_wp2_with fail
        refine (an w5 t5).mono ?_
        rintro e w7 ⟨rfl, b7⟩
        go_wp2_with fail
        go_ret
        exact ⟨rfl, t5.trans (b7.mono t5.size)⟩
      · rw [h0] at hmod2
        go_upto_region 9 with (at_builtin; refine wpl_append _ rfl _ _ _ rfl w.heap.size _ i0 _ 1 1 Tryd.underlying31 hi0 hz0 hz1 hz2 rfl (by omega) _ _ _ rfl _ _ _ _ _ rfl ho hrA (bcells_one bs) (by unfold maxLen; omega) (by omega) hbz ?_; intro v4 w4 hown4 hbel4 _)
        obtain ⟨A4, c4, rfl, hnc4, hA4⟩ := own_shape0 hown4
        have r4 := (he w4 A4 c4 (Rd.of_own hown4)).1
        have t4 := hb.trans hbel4
        clear he ho hb hown4 hbel4 hrA hown2 t3
        obtain ⟨L, hLL⟩ : ∃ L, L = bs ++ List.replicate k 97 ++ bs := ⟨_, rfl⟩
        rw [← hLL] at r4
        obtain ⟨N, hN⟩ : ∃ N, N = n + k + n := ⟨_, rfl⟩
        rw [← hN] at r4 hnc4 ⊢
        have hNb : N ≤ 100000 := by omega
        have qe := headend_any A4 N c4 _ L mx w4 r4 (Nat.le_refl _) hNb hnc4 hA4 ((t4.cell (p := ⟨0, 0, none⟩) hmb).trans hm)
        clear hLL hN
        obtain ⟨rN, hrN⟩ : ∃ x, x = endN L := ⟨_, rfl⟩
        obtain ⟨rE, hrE⟩ : ∃ x, x = endE L := ⟨_, rfl⟩
        rw [← hrN, ← hrE] at qe
        go_wp2_with fail
        refine qe.mono ?_
        rintro e w5 ⟨rfl, b5⟩
        have qr := refend_any A4 N c4 _ L w5 (r4.below b5) hNb
        rw [← hrN, ← hrE] at qr
        have t5 := t4.trans (b5.mono t4.size)
        clear hrN hrE qe r4 b5 t4
        go_wp2_with fail
        refine qr.mono ?_
        rintro e w6 ⟨rfl, hw6⟩
        rw [hw6]
        clear qr hw6
        go_wp2_with fail
        refine (an w5 t5).mono ?_
        rintro e w7 ⟨rfl, b7⟩
        go_wp2_with fail
        go_ret
        exact ⟨rfl, t5.trans (b7.mono t5.size)⟩
end Go.Proofs.YtdeklollaffpaaaDoor.HeadEndsP
