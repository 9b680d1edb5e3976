/- shell: fault, bytes, run of no script. -/
import Derived.Test.YtbplnglmjcmfiaaGreatDoorShUnhex
import Derived.Test.YtbplnglmjcmfiaaGreatDoorShPure
import Derived.Test.YtbplnglmjcmfiaaGreatDoorScrParse
import Derived.Test.YtbplnglmjcmfiaaGreatDoorScrNums
import Derived.Test.YtbplnglmjcmfiaaGreatDoorShFmt
namespace Go.Proofs.YtbplnglmjcmfiaaGreatDoor
open Go.RowKit
set_option linter.unusedVariables false
set_option linter.unusedSimpArgs false

def errT : List UInt8 := [101, 114, 114, 111, 114]
set_option maxRecDepth 100000 in
set_option maxHeartbeats 1600000 in
theorem shfault_any (l : List Nat) (A : Option Addr) (n c : Nat) (w : World) (hl : Rd w w.heap.size 1 A n (icells l)) (hm : ∀ k ∈ l, k ≤ Scr.maxI) (hn5 : l.length ≤ 5) (hG : ∀ W, Below w.heap.size w W → Glo W) :
    Calls Tryz.prog 35 #[.slice A n c] w fun e w' => e = .returned (.string ⟨(errT ++ numsT l ++ [10]).toArray⟩) ∧ Below w.heap.size w w' := by
  have hln : l.length = n := by have := hl.1; simpa [icells] using this
  have HG := hide hG
  have HLN := hide hln
  have hn5' : n ≤ 5 := by omega
  clear hG hln hn5
  obtain ⟨g, hg⟩ : ∃ g, w.heap.size = g := ⟨_, rfl⟩
  have hl0 : Rd w g 1 A n (icells l) := hg ▸ hl
  rw [hg] at HG
  clear hl
  go_enter Tryz.func35, Tryz.ntmps35
  go_wp2_with fail
  go_loopw [8, 3] (fun i sv wr => ∃ (k : Nat) (s : ByteArray), k ≤ n ∧ i = .int .i64 k ∧ sv = .string s ∧ Hid (s.data.toList = errT ++ numsT (l.take k)) ∧ Below g w wr) (fun i _ _ => n - (intOf i).toNat)
  case atStart => exact ⟨0, _, Nat.zero_le _, rfl, rfl, hide (by simp [numsT, errT]), Below.refl _ _⟩
  case round =>
    obtain ⟨k, s, hk, rfl, rfl, hs, hb⟩ := hrel
    have hlen0 := numsT_len (l.take k) (fun y hy => hm y (List.mem_of_mem_take hy))
    rw [List.length_take] at hlen0
    have hss : s.size ≤ 5 + 21 * 5 := by
      have e : s.size = s.data.toList.length := by rw [Array.length_toList]; rfl
      rw [e, hs.out, List.length_append]; simp only [errT, List.length_cons, List.length_nil]; omega
    by_cases hlt : k < n
    · have hlt' : (k : Int) < (n : Int) := by omega
      have hkl : k < l.length := by rw [HLN.out]; exact hlt
      obtain ⟨a, hAa, hab, hc⟩ := (hl0.below hb).at_ (k := 0) (by omega)
      have hx := hc k (.int .i64 (l[k] : Nat)) (by simp [icells, hkl])
      obtain ⟨x, hxx⟩ : ∃ x, x = l[k] := ⟨_, rfl⟩
      rw [← hxx] at hx
      have hxm : x ≤ Scr.maxI := by rw [hxx]; exact hm _ (List.getElem_mem hkl)
      have htk : l.take (k + 1) = l.take k ++ [x] := by rw [hxx]; exact list_take_snoc l k hkl
      have it := itoaG_any x (by unfold Scr.maxI at hxm; exact hxm) wr (HG.out wr hb).pow
      obtain ⟨y, hy⟩ : ∃ y : ByteArray, y = ⟨(Lib.itoa (x : Int)).toArray⟩ := ⟨_, rfl⟩
      have hyd : y.data.toList = Scr.dec x := by rw [hy]; exact Lib.itoa_nonneg x
      have hys : y.size ≤ 20 := by
        have e : y.size = y.data.toList.length := by rw [Array.length_toList]; rfl
        rw [e, hyd]; exact dec_len20 hxm
      rw [← hy] at it
      have hgw : g ≤ wr.heap.size := hg ▸ hb.size
      have hcat1 : ¬ (9223372036854775807 < 1 + y.size) := by omega
      obtain ⟨s1, hs1⟩ : ∃ z : ByteArray, (⟨#[32]⟩ : ByteArray) ++ y = z := ⟨_, rfl⟩
      have hz1 : s1.size ≤ 21 := by rw [← hs1, ByteArray.size_append]; have : (⟨#[32]⟩ : ByteArray).size = 1 := rfl; omega
      have hcat2 : ¬ (9223372036854775807 < s.size + s1.size) := by omega
      obtain ⟨s2, hs2⟩ : ∃ z : ByteArray, s ++ s1 = z := ⟨_, rfl⟩
      have told := hide (show s2.data.toList = errT ++ numsT (l.take (k + 1)) by
        rw [← hs2, ← hs1, ByteArray.data_append, Array.toList_append, ByteArray.data_append, Array.toList_append, hs.out, htk, numsT_snoc, hyd]; simp only [List.append_assoc]; rfl)
      subst hAa
      clear hc htk hxx hy hyd hlen0 hs
      go_wp2_with fail
      refine it.mono ?_
      rintro e w5 ⟨rfl, b5⟩
      have hb5 := hb.trans (b5.mono hgw)
      clear it
      go_wp2_with fail
      go_roundw
      case rel => exact ⟨k + 1, s2, by omega, by go_num, rfl, told, hb5⟩
      case measure => simp [intOf]; omega
    · have hlt' : ¬ (k : Int) < (n : Int) := by omega
      have hall : l.take k = l := List.take_of_length_le (by rw [HLN.out]; omega)
      rw [hall] at hs
      have hcat : ¬ (9223372036854775807 < s.size + 1) := by omega
      clear hall
      go_wp2_with fail
      go_ret
      refine ⟨?_, hb⟩
      show Ending.returned (.string (s ++ ⟨#[10]⟩)) = _
      congr 2
      apply bytes_ext
      rw [ByteArray.data_append, Array.toList_append, hs.out]; simp
def err91 : ByteArray := ⟨#[101, 114, 114, 111, 114, 32, 57, 32, 49, 10]⟩
def err0 : ByteArray := ⟨#[101, 114, 114, 111, 114, 32, 48, 10]⟩
theorem err91_is : (⟨(errT ++ numsT [9, 1] ++ [10]).toArray⟩ : ByteArray) = err91 := by decide +kernel
theorem err0_is : (⟨(errT ++ numsT [0] ++ [10]).toArray⟩ : ByteArray) = err0 := by decide +kernel
set_option maxRecDepth 100000 in
set_option maxHeartbeats 1600000 in
theorem shbytes_bad (s : ByteArray) (v : Value) (w : World) (hs : s.size ≤ 16777216) (hb : Scr.bytesOf' (Lib.trimSuffix s.data.toList [10]) = none) (hG : ∀ W, Below w.heap.size w W → Glo W) :
    Calls Tryz.prog 23 #[.string s, v] w fun e w' => e = .returned (.string err91) ∧ Below w.heap.size w w' := by
  obtain ⟨g, hg⟩ : ∃ g, w.heap.size = g := ⟨_, rfl⟩
  have ts := Tryz.strings_TrimSuffix s ⟨#[10]⟩ w (by omega)
  have e1 : (⟨#[10]⟩ : ByteArray).data.toList = [10] := rfl
  rw [e1] at ts
  have hlen : (Lib.trimSuffix s.data.toList [10]).length ≤ 16777216 := by
    have h1 : s.data.toList.length = s.size := by rw [Array.length_toList]; rfl
    unfold Lib.trimSuffix
    split
    · rw [List.length_take]; omega
    · omega
  have uh := shunhex_any (Lib.trimSuffix s.data.toList [10]) w hlen
  obtain ⟨t, ht⟩ : ∃ t : ByteArray, t = ⟨(Lib.trimSuffix s.data.toList [10]).toArray⟩ := ⟨_, rfl⟩
  rw [← ht] at ts uh
  have uh2 : Calls Tryz.prog 47 #[.string t] w fun e w' => ∃ v, e = .returned (.tuple #[v, .bool false]) ∧ Below w.heap.size w w' := by
    refine uh.mono ?_
    rintro e w' ⟨A, n, c, rfl, -, -, b⟩
    rw [hb]
    exact ⟨_, rfl, b⟩
  have HG := hide hG
  clear ht uh hlen hb e1 hG
  go_enter Tryz.func23, Tryz.ntmps23
  go_wp2_with fail
  refine ts.mono ?_
  rintro e w1 ⟨rfl, rfl⟩
  go_wp2_with fail
  refine uh2.mono ?_
  rintro e w2 ⟨sl, rfl, b2⟩
  have b3 : Below w2.heap.size w2 (w2.alloc (.cells #[.int .i64 9, .int .i64 1] 3)) := (Below.refl _ _).alloc (Nat.le_refl _) _
  have r3 := rd_new w2 #[.int .i64 9, .int .i64 1] 3 1 2 rfl
  have t3 := b2.trans (b3.mono b2.size)
  have qf := shfault_any [9, 1] (some ⟨w2.heap.size, 0, none⟩) 2 2 (w2.alloc (.cells #[.int .i64 9, .int .i64 1] 3)) (by simpa [icells] using r3) (by decide) (by decide) (fun W b => HG.out W (t3.trans (b.mono t3.size)))
  rw [err91_is] at qf
  have QF := hide qf
  have T3 := hide t3
  clear qf t3 r3 b3 ts uh2
  go_wp2_with fail
  refine QF.out.mono ?_
  rintro e w4 ⟨rfl, b4⟩
  go_wp2_with fail
  go_ret
  exact ⟨rfl, T3.out.trans (b4.mono T3.out.size)⟩
set_option maxRecDepth 100000 in
set_option maxHeartbeats 1600000 in
theorem shrun_bad (s : ByteArray) (r : List UInt8) (w : World) (hs : s.size ≤ 4194304) (hr : s.data.toList = 63 :: r) (hG : ∀ W, Below w.heap.size w W → Glo W) :
    Calls Tryz.prog 34 #[.string s] w fun e w' => e = .returned (.string err91) ∧ Below w.heap.size w w' := by
  have q : Calls Tryz.prog 67 #[.string s] w fun e w' => e = .returned (.tuple #[cfg0, .slice none 0 0, .int .i64 1, .int .i64 9]) ∧ Below w.heap.size w w' := by
    refine (scrparse_any s w hs hG).mono ?_
    rintro e w' ⟨b, hp⟩
    rw [hr, parse_q] at hp
    rcases hp with ⟨Ls, vR, vT, vA, ps, f, hp, -⟩ | ⟨m, hp, rfl⟩
    · cases hp
    · have : m = 1 := by simpa using hp.symm
      subst this
      exact ⟨rfl, b⟩
  have HG := hide hG
  clear hG hr
  unfold cfg0 at q
  go_enter Tryz.func34, Tryz.ntmps34
  go_wp2_with fail
  refine q.mono ?_
  rintro e w2 ⟨rfl, b2⟩
  have b3 : Below w2.heap.size w2 (w2.alloc (.cells #[.slice none 0 0, .slice none 0 0, .int .i64 0, .int .i64 0, .int .i64 0, .int .i64 0, .int .i64 0] 42)) := (Below.refl _ _).alloc (Nat.le_refl _) _
  have t3 := b2.trans (b3.mono b2.size)
  go_upto_region 2 with (fail)
  generalize w2.alloc _ = w3 at t3 ⊢
  have b4 : Below w3.heap.size w3 (w3.alloc (.cells #[.int .i64 9, .int .i64 1] 3)) := (Below.refl _ _).alloc (Nat.le_refl _) _
  have r4 := rd_new w3 #[.int .i64 9, .int .i64 1] 3 1 2 rfl
  have t4 := t3.trans (b4.mono t3.size)
  have qf := shfault_any [9, 1] (some ⟨w3.heap.size, 0, none⟩) 2 2 (w3.alloc (.cells #[.int .i64 9, .int .i64 1] 3)) (by simpa [icells] using r4) (by decide) (by decide) (fun W b => HG.out W (t4.trans (b.mono t4.size)))
  rw [err91_is] at qf
  have QF := hide qf
  have T4 := hide t4
  clear qf t4 r4 b4
  go_wp2_with fail
  refine QF.out.mono ?_
  rintro e w5 ⟨rfl, b5⟩
  go_wp2_with fail
  go_ret
  exact ⟨rfl, T4.out.trans (b5.mono T4.out.size)⟩
set_option maxRecDepth 100000 in
set_option maxHeartbeats 800000 in
theorem shmaker_enc (k : Int) (w : World) : Calls Tryz.prog 24 #[.int .i64 k] w fun e w' => ∃ v, e = .returned v ∧ Below w.heap.size w w' := by
  have b3 : Below w.heap.size w (w.alloc (.cells #[.int .i64 k] 3)) := (Below.refl _ _).alloc (Nat.le_refl _) _
  go_enter Tryz.func24, Tryz.ntmps24
  go_wp2_with fail
  go_ret
  exact ⟨_, rfl, b3⟩
set_option maxRecDepth 100000 in
set_option maxHeartbeats 800000 in
theorem shmaker_dec (k : Int) (w : World) : Calls Tryz.prog 26 #[.int .i64 k] w fun e w' => ∃ v, e = .returned v ∧ Below w.heap.size w w' := by
  have b3 : Below w.heap.size w (w.alloc (.cells #[.int .i64 k] 3)) := (Below.refl _ _).alloc (Nat.le_refl _) _
  go_enter Tryz.func26, Tryz.ntmps26
  go_wp2_with fail
  go_ret
  exact ⟨_, rfl, b3⟩
end Go.Proofs.YtbplnglmjcmfiaaGreatDoor
