/- chunk.Decoder: step, Feed, Rest. -/
import Derived.Test.YtdpcncpfbaigeaaDoorDecTrail
import Derived.Test.YtdpcncpfbaigeaaDoorDecOver
import Derived.Test.YtdpcncpfbaigeaaDoorDecBytes
namespace Go.Proofs.YtdpcncpfbaigeaaDoor
open Go.RowKit
set_option linter.unusedVariables false
set_option linter.unusedSimpArgs false

theorem bytesK_len (S : DS) (X : Nat) : (S.inp.take (bytesK S X)).length = bytesK S X := by
  rw [List.length_take]
  unfold bytesK
  omega
set_option maxRecDepth 100000 in
set_option maxHeartbeats 3200000 in
theorem decstep_any (d base : Nat) (own : Option Nat) (S : DS) (X : Nat) (mx : Int) (w : World) (h : IsDec w d base own S) (hbase : base ≤ w.heap.size) (hn : S.inp.length ≤ 1000000000) (hl : S.left ≤ 9223372036854775807) (hf : S.fl ≤ 1000000000) (hst : S.st ≤ 3)
    (hm : w.cell? ⟨1, 0, none⟩ = some (.int .i64 mx)) :
    Calls Tryd.prog 25 #[.pointer (some ⟨d, 0, none⟩), .int .i64 X] w fun e w' => ∃ A' c', e = .returned (.tuple #[.slice A' (stepO S X).length c', .int .i64 (stepE S X)]) ∧
      Rd w' w'.heap.size 1 A' (stepO S X).length (bcells (stepO S X)) ∧ IsDec w' d base own (stepS S X) ∧ w.grownBy w' (some d) := by
  have k1 : w.cell? ⟨d, 1, none⟩ = some (.int .i64 S.st) := by
    obtain ⟨A, c, hx, -⟩ := h
    exact hx.five.2.1
  have qa := decbegin_any d base own S mx w h hbase hn hm
  have qb := decbytes_any d base own S X w h hbase hn hl
  have qc := decover_any d base own S w h hbase hn
  have qd := dectrail_any d base own S mx w h hbase hn hf hm
  have hbl := bytesK_len S X
  obtain ⟨sE, hsE⟩ : ∃ x, x = stepE S X := ⟨_, rfl⟩
  obtain ⟨sS, hsS⟩ : ∃ x, x = stepS S X := ⟨_, rfl⟩
  obtain ⟨sO, hsO⟩ : ∃ x, x = stepO S X := ⟨_, rfl⟩
  rw [← hsE, ← hsS, ← hsO]
  unfold stepE at hsE
  unfold stepS at hsS
  unfold stepO at hsO
  obtain ⟨aE, haE⟩ : ∃ x, x = beginE S := ⟨_, rfl⟩
  obtain ⟨aS, haS⟩ : ∃ x, x = beginS S := ⟨_, rfl⟩
  obtain ⟨cE, hcE⟩ : ∃ x, x = overE S := ⟨_, rfl⟩
  obtain ⟨cS, hcS⟩ : ∃ x, x = overS S := ⟨_, rfl⟩
  obtain ⟨dE, hdE⟩ : ∃ x, x = trailE S := ⟨_, rfl⟩
  obtain ⟨dS, hdS⟩ : ∃ x, x = trailS S := ⟨_, rfl⟩
  obtain ⟨bE, hbE⟩ : ∃ x, x = bytesE S X := ⟨_, rfl⟩
  obtain ⟨bS, hbS⟩ : ∃ x, x = bytesS S X := ⟨_, rfl⟩
  obtain ⟨bO, hbO⟩ : ∃ x, x = S.inp.take (bytesK S X) := ⟨_, rfl⟩
  obtain ⟨bK, hbK⟩ : ∃ x, x = bytesK S X := ⟨_, rfl⟩
  rw [← haE, ← haS] at qa
  rw [← hcE, ← hcS] at qc
  rw [← hdE, ← hdS] at qd
  rw [← hbO, ← hbE, ← hbS, ← hbK] at qb
  rw [← hbO, ← hbK] at hbl
  rw [← haE, ← hbE, ← hcE, ← hdE] at hsE
  rw [← haS, ← hbS, ← hcS, ← hdS] at hsS
  rw [← hbO] at hsO
  obtain ⟨s, hs⟩ : ∃ s, s = S.st := ⟨_, rfl⟩
  rw [← hs] at hsE hsS hsO k1 hst
  have fin0 : ∀ (W : World), IsDec W d base own sS → w.grownBy W (some d) → sO = [] → ∃ A' c', (Ending.returned (.tuple #[.slice none 0 0, .int .i64 sE]) : Ending) = .returned (.tuple #[.slice A' sO.length c', .int .i64 sE]) ∧ Rd W W.heap.size 1 A' sO.length (bcells sO) ∧ IsDec W d base own sS ∧ w.grownBy W (some d) := fun W a b c =>
    ⟨none, 0, by rw [c]; rfl, by rw [c]; exact Rd.nil_, a, b⟩
  have FIN := hide fin0
  clear fin0 haE haS hbE hbS hcE hcS hdE hdS hbO hbK hs h hn hl hf hm
  by_cases h0 : s = 0
  · subst h0
    rw [if_pos rfl] at hsE hsS
    rw [if_neg (by decide)] at hsO
    subst hsE hsS
    have HO := hide hsO
    clear hsO qb qc qd
    go_enter Tryd.func25, Tryd.ntmps25
    go_wp2_with fail
    refine qa.mono ?_
    rintro e w1 ⟨rfl, h1, b1⟩
    clear qa
    go_wp2_with fail
    go_ret2
    exact FIN.out _ h1 b1 HO.out
  · rw [if_neg h0] at hsE hsS
    by_cases h1 : s = 1
    · subst h1
      rw [if_pos rfl] at hsE hsS hsO
      subst hsE hsS hsO
      have HB := hide hbl
      clear qa qc qd hbl
      go_enter Tryd.func25, Tryd.ntmps25
      go_wp2_with fail
      refine qb.mono ?_
      rintro e w1 ⟨A1, c1, rfl, r1, h1, b1⟩
      clear qb
      go_wp2_with fail
      go_ret2
      rw [HB.out]
      first | exact ⟨A1, c1, rfl, r1, h1, b1⟩ | exact ⟨A1, ⟨c1, rfl⟩, r1, h1, b1⟩
    · rw [if_neg h1] at hsE hsS hsO
      by_cases h2 : s = 2
      · subst h2
        rw [if_pos rfl] at hsE hsS
        subst hsE hsS
        have HO := hide hsO
        clear hsO qa qb qd
        go_enter Tryd.func25, Tryd.ntmps25
        go_wp2_with fail
        refine qc.mono ?_
        rintro e w1 ⟨rfl, h1, b1⟩
        clear qc
        go_wp2_with fail
        go_ret2
        exact FIN.out _ h1 b1 HO.out
      · rw [if_neg h2] at hsE hsS
        obtain rfl : s = 3 := by omega
        subst hsE hsS
        have HO := hide hsO
        clear hsO qa qb qc
        go_enter Tryd.func25, Tryd.ntmps25
        go_wp2_with fail
        refine qd.mono ?_
        rintro e w1 ⟨rfl, h1, b1⟩
        clear qd
        go_wp2_with fail
        go_ret2
        exact FIN.out _ h1 b1 HO.out
end Go.Proofs.YtdpcncpfbaigeaaDoor
