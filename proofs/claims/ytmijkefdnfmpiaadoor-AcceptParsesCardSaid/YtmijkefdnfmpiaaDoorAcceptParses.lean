/- AcceptParses returns true, whatever its arguments. -/
import Derived.Test.YtmijkefdnfmpiaaDoorAns20
import Derived.Test.YtmijkefdnfmpiaaDoorMembers
import Derived.Test.YtmijkefdnfmpiaaDoorLightT
namespace Go.Proofs.YtmijkefdnfmpiaaDoor.AcceptParsesP
open Go.RowKit

theorem step_ {w w' : World} {s n : Nat} {A : Option Addr} {xs : List Value} (h : Rd w w.heap.size s A n xs) (hb : Below w.heap.size w w') : Rd w' w'.heap.size s A n xs := (h.below hb).mono hb.size
theorem weight_le (s : List UInt8) : (weightL s).1 ≤ 1000 := by
  unfold weightL
  split
  · rename_i h
    split
    · split <;> simp
    · have := pad3_lt _ h.2.2
      show decV _ ≤ 1000
      omega
  · simp
theorem gzip_good : goodNameL gzipL = true := by decide
theorem member_good (s : List UInt8) (h : (memberL s).2 = true) : (memberL s).1.2 ≤ 1000 ∧ goodNameL (memberL s).1.1 = true := by
  unfold memberL at h ⊢
  split
  · rename_i hg
    have hn : goodNameL (mnameL s) = true := by unfold mnameL; split; exact gzip_good; exact hg
    split
    · split
      · exact ⟨weight_le _, hn⟩
      · rename_i h1 h2; rw [if_pos hg, if_pos h1, if_neg h2] at h; cases h
    · exact ⟨Nat.le_refl _, hn⟩
  · rename_i hg; rw [if_neg hg] at h; cases h
theorem members_good (vs : List (List UInt8)) : ∀ f ∈ membersL vs, f.2 ≤ 1000 ∧ goodNameL f.1 = true := by
  intro f hf
  obtain ⟨s, _, hs⟩ := List.mem_flatMap.1 hf
  split at hs
  · rename_i h
    rw [List.mem_singleton.1 hs]
    exact member_good s h
  · cases hs
theorem name_len {l : List UInt8} (h : goodNameL l = true) : l.length ≤ 256 := by
  unfold goodNameL at h; simp at h; omega
theorem of_ow_ {P : Program} {f : FuncId} {args : Array Value} {W : World} {B s n : Nat} {xs : List Value} (h : Calls P f args W fun e w' => ∃ A' c', e = .returned (.slice A' n c') ∧ Ow w' B s (.slice A' n c') n xs ∧ n ≤ c' ∧ Below W.heap.size W w') :
    Calls P f args W fun e w' => ∃ A' c', e = .returned (.slice A' n c') ∧ Rd w' w'.heap.size s A' n xs ∧ Below W.heap.size W w' := h.mono fun _ _ ⟨A', c', h1, h2, _, h4⟩ => ⟨A', c', h1, h2.rd, h4⟩

set_option maxRecDepth 100000 in
set_option maxHeartbeats 6400000 in
theorem walk (A : Option Addr) (n c : Nat) (vs : List (List UInt8)) (w : World) (h : Rd w w.heap.size 1 A n (scells vs)) (hn : n ≤ 9223372036854775807) (hz : ∀ v ∈ vs, v.length ≤ reachBytes) :
    Calls Tryd.prog 11 #[.slice A n c] w fun e w' => e = .returned (.bool true) ∧ Below w.heap.size w w' := by
  have hl := light20_any A n c _ vs w h hn hz
  have hlen : vs.length = n := by have := h.1; simpa [scells] using this
  rcases hL : lightT vs with _ | _
  · rw [hL] at hl
    clear hL hlen h hz
    go_enter Tryd.func11, Tryd.ntmps11
    go_wp2_with fail
    refine hl.mono ?_
    rintro e w1 ⟨rfl, rfl⟩
    go_wp2_with (refine (ans20_any _).mono ?_; rintro e w' ⟨rfl, hB⟩)
    go_ret
    exact ⟨rfl, hB⟩
  · rw [hL] at hl
    obtain ⟨hok, h50⟩ := lightT_ok hL
    rw [hlen] at h50
    have hok' : ∀ v ∈ vs, v.length ≤ 1000000 := fun v hv => by have := hok v hv; omega
    obtain ⟨i0, hi0, hz0, hz1, hz2⟩ := info_parts infoStr
    have g1 := fun (A : Option Addr) (c : Nat) (W : World) (r : Rd W W.heap.size 1 A n (scells vs)) => of_ow_ (parse_any A n c _ vs W r (Nat.le_refl _) (by omega) hok')
    have g2 := fun (A : Option Addr) (c : Nat) (W : World) (r : Rd W W.heap.size 1 A n (scells vs)) => of_ow_ (members_any A n c _ vs W r (Nat.le_refl _) (by omega) hok')
    have hgood := members_good vs
    have hml := memL_len' vs hok'
    rw [hlen] at hml
    obtain ⟨its, hits⟩ : ∃ l, l = membersL vs := ⟨_, rfl⟩
    rw [← hits] at g1 g2 hgood hml
    obtain ⟨ni, hni⟩ : ∃ m, its.length = m := ⟨_, rfl⟩
    simp only [hni] at g1 g2 hml
    have HNI := hide hni
    have HG := hide hgood
    have hni2 : ni ≤ 60000000 := by omega
    clear hits hni hgood hml hok hok' hL hz hlen
    go_enter Tryd.func11, Tryd.ntmps11
    go_wp2_with fail
    refine hl.mono ?_
    rintro e w1 ⟨rfl, hw1⟩
    have hw1 : w = w1 := hw1.symm
    subst hw1
    clear hl
    have ho := own_new w #[] 9 1 0 rfl (by unfold maxLen; omega) w.heap.size (Nat.le_refl _)
    have hr := h.alloc (Nat.le_refl _) (.cells #[] 9)
    go_wp2_with (at_builtin; refine wpl_append _ rfl _ _ _ rfl w.heap.size _ i0 _ 1 16 Tryd.underlying23 hi0 hz0 hz1 hz2 rfl (by omega) _ _ _ rfl _ _ _ _ _ rfl ho hr (scells_one vs) (by unfold maxLen; omega) (by omega) (by simp) ?_; intro v1 w2 hown1 hbel1 _)
    rw [Nat.zero_add] at hown1
    obtain ⟨Ai, ci, rfl, -, -⟩ := own_shape hown1
    have ri : Rd w2 w2.heap.size 1 Ai n (scells vs) := Rd.of_own hown1
    have t : Below w.heap.size w w2 := ((Below.refl _ w).alloc (Nat.le_refl _) _).trans hbel1
    have rl := step_ h t
    clear hown1 hbel1 ho hr h hi0 hz0 hz1 hz2
    go_wp2_with fail
    refine (g1 _ _ w2 ri).mono ?_
    rintro e w3 ⟨A3, c3, rfl, r3, b⟩
    replace rl := step_ rl b
    replace t := t.trans (b.mono t.size)
    clear b g1 ri
    go_wp2_with fail
    refine (g2 _ _ w3 rl).mono ?_
    rintro e w4 ⟨A4, c4, rfl, r4, b⟩
    replace r3 := step_ r3 b
    replace t := t.trans (b.mono t.size)
    clear b g2 rl
    go_wp2_with fail
    refine (ans20_any w4).mono ?_
    rintro e w5 ⟨rfl, b⟩
    replace r3 := step_ r3 b
    replace r4 := step_ r4 b
    replace t := t.trans (b.mono t.size)
    clear b
    go_wp2_with fail
    go_loopw [5] (fun i wr => ∃ k : Nat, k ≤ ni ∧ i = .int .i64 k ∧ ∃ m, wr = w5.drewN m) (fun i _ => ni - (intOf i).toNat)
    case atStart => exact ⟨0, Nat.zero_le _, rfl, 0, rfl⟩
    case round =>
      obtain ⟨k, hk, rfl, m, rfl⟩ := hrel
      by_cases hlt : k < ni
      · have hkl : k < its.length := by have := HNI.out; omega
        obtain ⟨b, off, rfl, -, e0, e1⟩ := r3.item hlt hkl
        obtain ⟨b', off', rfl, -, e0', e1'⟩ := r4.item hlt hkl
        obtain ⟨hq, hg⟩ := HG.out its[k] (List.getElem_mem hkl)
        have hnl := name_len hg
        obtain ⟨x, hx⟩ : ∃ x, x = its[k] := ⟨_, rfl⟩
        rw [← hx] at e0 e1 e0' e1' hq hg hnl
        have hnm := fun w => refname_any ⟨x.1.toArray⟩ w (by rw [mk_size]; omega)
        simp only [hg] at hnm
        obtain ⟨sx, hsx⟩ : ∃ sx : ByteArray, sx = ⟨x.1.toArray⟩ := ⟨_, rfl⟩
        rw [← hsx] at e0 e0'
        simp only [← hsx] at hnm
        obtain ⟨q, hqq⟩ : ∃ q, q = x.2 := ⟨_, rfl⟩
        rw [← hqq] at e1 e1' hq
        have i1 : (0 : Int) ≤ (q : Int) := by omega
        have i2 : (q : Int) ≤ 1000 := by omega
        have d1 : decide ((q : Int) < 0) = false := by simp
        have d2 : decide ((1000 : Int) < (q : Int)) = false := by simp; omega
        clear hx hsx hqq hg hnl
        go_wp2_with fail
        go_quiet ((go_at_call 20; exact (hnm _).mono fun _ _ h => ⟨h.1, _, h.2.symm⟩))
        go_wp2
        go_roundw
        case rel => exact ⟨k + 1, by omega, by go_num, _, rfl⟩
        case measure => simp [intOf]; omega
      · go_wp2
        go_ret
        exact ⟨rfl, below_drewN t⟩
end Go.Proofs.YtmijkefdnfmpiaaDoor.AcceptParsesP
