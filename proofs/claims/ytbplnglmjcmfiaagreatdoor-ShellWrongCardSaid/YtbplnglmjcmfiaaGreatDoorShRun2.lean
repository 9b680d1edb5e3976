/- shell.Run's ways. (printed by gen/shrun2.py) -/
import Derived.Test.YtbplnglmjcmfiaaGreatDoorShRun
import Derived.Test.YtbplnglmjcmfiaaGreatDoorShelf4
namespace Go.Proofs.YtbplnglmjcmfiaaGreatDoor
open Go.RowKit
set_option linter.unusedVariables false
set_option linter.unusedSimpArgs false

theorem shcut_any (t : ByteArray) (w : World) (hs : t.size < 4294967281) (hG : Glo w) {h r : List UInt8} {fnd : Bool} (hc : Lib.cut t.data.toList [10] = (h, r, fnd)) :
    Calls Tryz.prog 22 #[.string t, .string ⟨#[10]⟩] w fun e w' => e = .returned (.tuple #[.string ⟨h.toArray⟩, .string ⟨r.toArray⟩, .bool fnd]) ∧ ∃ k, w' = w.drewN k := by
  obtain ⟨m, hm⟩ := hG.max
  have q := Tryz.strings_Cut t ⟨#[10]⟩ m w hs hm
  have e1 : (⟨#[10]⟩ : ByteArray).data.toList = [10] := rfl
  rw [e1, hc] at q
  exact q
theorem beq_no {b : ByteArray} {h l : List UInt8} (hb : b = ⟨h.toArray⟩) (hn : h ≠ l) : (b.toList == l) = false := by
  rw [hb, ByteArray.toList_eq, beq_eq_false_iff_ne]; exact hn
theorem beq_yes {b : ByteArray} {h l : List UInt8} (hb : b = ⟨h.toArray⟩) (hn : h = l) : (b.toList == l) = true := by
  rw [hb, ByteArray.toList_eq, hn]; simp
def shWords : List (List UInt8) := [[103, 122, 105, 112], [122, 108, 105, 98], [114, 97, 119], [103, 117, 110, 122, 105, 112], [117, 110, 122, 108, 105, 98], [117, 110, 114, 97, 119], [99, 114, 99], [97, 100, 108, 101, 114], [97, 99, 99, 101, 112, 116], [114, 117, 110]]
set_option maxRecDepth 100000 in
set_option maxHeartbeats 1600000 in
theorem shfault0 (w : World) (hG : ∀ W, Below w.heap.size w W → Glo W) :
    Calls Tryz.prog 35 #[.slice (some ⟨w.heap.size, 0, none⟩) 1 1] (w.alloc (.cells #[.int .i64 0] 3)) fun e w' => e = .returned (.string err0) ∧ Below w.heap.size w w' := by
  have b3 : Below w.heap.size w (w.alloc (.cells #[.int .i64 0] 3)) := (Below.refl _ _).alloc (Nat.le_refl _) _
  have r3 := rd_new w #[.int .i64 0] 3 1 1 rfl
  have qf := shfault_any [0] (some ⟨w.heap.size, 0, none⟩) 1 1 (w.alloc (.cells #[.int .i64 0] 3)) (by simpa [icells] using r3) (by decide) (by decide) (fun W b => hG W (b3.trans (b.mono b3.size)))
  rw [err0_is] at qf
  exact qf.mono fun e w' ⟨h1, h2⟩ => ⟨h1, b3.trans (h2.mono b3.size)⟩

set_option maxRecDepth 100000 in
set_option maxHeartbeats 1600000 in
theorem shRun_none (t : ByteArray) (w : World) (h r : List UInt8) (fnd : Bool) (hs : t.size ≤ 100000) (hc : Lib.cut t.data.toList [10] = (h, r, fnd)) (hne : ∀ x ∈ shWords, h ≠ x) (hG : ∀ W, Below w.heap.size w W → Glo W) :
    Calls Tryz.prog 12 #[.string t] w fun e w' => e = .returned (.string err0) ∧ Below w.heap.size w w' := by
  have ct := shcut_any t w (by omega) (hG w (Below.refl _ _)) hc
  obtain ⟨hb, hhb⟩ : ∃ b : ByteArray, b = ⟨h.toArray⟩ := ⟨_, rfl⟩
  obtain ⟨rb, hrb⟩ : ∃ b : ByteArray, b = ⟨r.toArray⟩ := ⟨_, rfl⟩
  rw [← hhb, ← hrb] at ct
  have c0 := beq_no hhb (hne [103, 122, 105, 112] (by decide))
  have c1 := beq_no hhb (hne [122, 108, 105, 98] (by decide))
  have c2 := beq_no hhb (hne [114, 97, 119] (by decide))
  have c3 := beq_no hhb (hne [103, 117, 110, 122, 105, 112] (by decide))
  have c4 := beq_no hhb (hne [117, 110, 122, 108, 105, 98] (by decide))
  have c5 := beq_no hhb (hne [117, 110, 114, 97, 119] (by decide))
  have c6 := beq_no hhb (hne [99, 114, 99] (by decide))
  have c7 := beq_no hhb (hne [97, 100, 108, 101, 114] (by decide))
  have c8 := beq_no hhb (hne [97, 99, 99, 101, 112, 116] (by decide))
  have c9 := beq_no hhb (hne [114, 117, 110] (by decide))
  have HG := hide hG
  clear hhb hrb hc hne hG
  go_enter Tryz.func12, Tryz.ntmps12
  go_wp2_with fail
  refine ct.mono ?_
  rintro e w1 ⟨rfl, k, rfl⟩
  have b1 : Below w.heap.size w (w.drewN k) := below_drewN (Below.refl _ _)
  generalize w.drewN k = w1 at b1 ⊢
  have qf := shfault0 w1 (fun W b => HG.out W (b1.trans (b.mono b1.size)))
  go_wp2_with fail
  refine qf.mono ?_
  rintro e w2 ⟨rfl, b2⟩
  go_wp2_with fail
  go_ret
  exact ⟨rfl, b1.trans (b2.mono b1.size)⟩

set_option maxRecDepth 100000 in
set_option maxHeartbeats 1600000 in
theorem shRun_bad0 (t : ByteArray) (w : World) (h r : List UInt8) (fnd : Bool) (hs : t.size ≤ 100000) (hrl : r.length ≤ 100000) (hc : Lib.cut t.data.toList [10] = (h, r, fnd)) (hh : h = [103, 122, 105, 112]) (hbad : Scr.bytesOf' (Lib.trimSuffix r [10]) = none) (hG : ∀ W, Below w.heap.size w W → Glo W) :
    Calls Tryz.prog 12 #[.string t] w fun e w' => e = .returned (.string err91) ∧ Below w.heap.size w w' := by
  have ct := shcut_any t w (by omega) (hG w (Below.refl _ _)) hc
  obtain ⟨hb, hhb⟩ : ∃ b : ByteArray, b = ⟨h.toArray⟩ := ⟨_, rfl⟩
  obtain ⟨rb, hrb⟩ : ∃ b : ByteArray, b = ⟨r.toArray⟩ := ⟨_, rfl⟩
  rw [← hhb, ← hrb] at ct
  have c0 := beq_yes hhb hh
  have hrz : rb.size ≤ 16777216 := by
    have e : rb.size = rb.data.toList.length := by rw [Array.length_toList]; rfl
    rw [e, hrb]; show r.length ≤ _; omega
  have hrd : rb.data.toList = r := by rw [hrb]
  have QB := hide (fun (v : Value) (W : World) (b : Below w.heap.size w W) => shbytes_bad rb v W hrz (by rw [hrd]; exact hbad) (fun W' b' => hG W' (b.trans (b'.mono b.size))))
  clear hhb hrb hc hh hbad hG hrd hrz
  go_enter Tryz.func12, Tryz.ntmps12
  go_wp2_with fail
  refine ct.mono ?_
  rintro e w1 ⟨rfl, k, rfl⟩
  have b1 : Below w.heap.size w (w.drewN k) := below_drewN (Below.refl _ _)
  generalize w.drewN k = w1 at b1 ⊢
  go_wp2_with fail
  refine (shmaker_enc 1 w1).mono ?_
  rintro e w2 ⟨v, rfl, b2⟩
  have t2 := b1.trans (b2.mono b1.size)
  go_wp2_with fail
  refine (QB.out _ w2 t2).mono ?_
  rintro e w3 ⟨rfl, b3⟩
  go_wp2_with fail
  go_ret
  exact ⟨rfl, t2.trans (b3.mono t2.size)⟩

set_option maxRecDepth 100000 in
set_option maxHeartbeats 1600000 in
theorem shRun_bad1 (t : ByteArray) (w : World) (h r : List UInt8) (fnd : Bool) (hs : t.size ≤ 100000) (hrl : r.length ≤ 100000) (hc : Lib.cut t.data.toList [10] = (h, r, fnd)) (hh : h = [122, 108, 105, 98]) (hbad : Scr.bytesOf' (Lib.trimSuffix r [10]) = none) (hG : ∀ W, Below w.heap.size w W → Glo W) :
    Calls Tryz.prog 12 #[.string t] w fun e w' => e = .returned (.string err91) ∧ Below w.heap.size w w' := by
  have ct := shcut_any t w (by omega) (hG w (Below.refl _ _)) hc
  obtain ⟨hb, hhb⟩ : ∃ b : ByteArray, b = ⟨h.toArray⟩ := ⟨_, rfl⟩
  obtain ⟨rb, hrb⟩ : ∃ b : ByteArray, b = ⟨r.toArray⟩ := ⟨_, rfl⟩
  rw [← hhb, ← hrb] at ct
  have c0 := beq_no (l := [103, 122, 105, 112]) hhb (by rw [hh]; decide)
  have c1 := beq_yes hhb hh
  have hrz : rb.size ≤ 16777216 := by
    have e : rb.size = rb.data.toList.length := by rw [Array.length_toList]; rfl
    rw [e, hrb]; show r.length ≤ _; omega
  have hrd : rb.data.toList = r := by rw [hrb]
  have QB := hide (fun (v : Value) (W : World) (b : Below w.heap.size w W) => shbytes_bad rb v W hrz (by rw [hrd]; exact hbad) (fun W' b' => hG W' (b.trans (b'.mono b.size))))
  clear hhb hrb hc hh hbad hG hrd hrz
  go_enter Tryz.func12, Tryz.ntmps12
  go_wp2_with fail
  refine ct.mono ?_
  rintro e w1 ⟨rfl, k, rfl⟩
  have b1 : Below w.heap.size w (w.drewN k) := below_drewN (Below.refl _ _)
  generalize w.drewN k = w1 at b1 ⊢
  go_wp2_with fail
  refine (shmaker_enc 2 w1).mono ?_
  rintro e w2 ⟨v, rfl, b2⟩
  have t2 := b1.trans (b2.mono b1.size)
  go_wp2_with fail
  refine (QB.out _ w2 t2).mono ?_
  rintro e w3 ⟨rfl, b3⟩
  go_wp2_with fail
  go_ret
  exact ⟨rfl, t2.trans (b3.mono t2.size)⟩

set_option maxRecDepth 100000 in
set_option maxHeartbeats 1600000 in
theorem shRun_bad2 (t : ByteArray) (w : World) (h r : List UInt8) (fnd : Bool) (hs : t.size ≤ 100000) (hrl : r.length ≤ 100000) (hc : Lib.cut t.data.toList [10] = (h, r, fnd)) (hh : h = [114, 97, 119]) (hbad : Scr.bytesOf' (Lib.trimSuffix r [10]) = none) (hG : ∀ W, Below w.heap.size w W → Glo W) :
    Calls Tryz.prog 12 #[.string t] w fun e w' => e = .returned (.string err91) ∧ Below w.heap.size w w' := by
  have ct := shcut_any t w (by omega) (hG w (Below.refl _ _)) hc
  obtain ⟨hb, hhb⟩ : ∃ b : ByteArray, b = ⟨h.toArray⟩ := ⟨_, rfl⟩
  obtain ⟨rb, hrb⟩ : ∃ b : ByteArray, b = ⟨r.toArray⟩ := ⟨_, rfl⟩
  rw [← hhb, ← hrb] at ct
  have c0 := beq_no (l := [103, 122, 105, 112]) hhb (by rw [hh]; decide)
  have c1 := beq_no (l := [122, 108, 105, 98]) hhb (by rw [hh]; decide)
  have c2 := beq_yes hhb hh
  have hrz : rb.size ≤ 16777216 := by
    have e : rb.size = rb.data.toList.length := by rw [Array.length_toList]; rfl
    rw [e, hrb]; show r.length ≤ _; omega
  have hrd : rb.data.toList = r := by rw [hrb]
  have QB := hide (fun (v : Value) (W : World) (b : Below w.heap.size w W) => shbytes_bad rb v W hrz (by rw [hrd]; exact hbad) (fun W' b' => hG W' (b.trans (b'.mono b.size))))
  clear hhb hrb hc hh hbad hG hrd hrz
  go_enter Tryz.func12, Tryz.ntmps12
  go_wp2_with fail
  refine ct.mono ?_
  rintro e w1 ⟨rfl, k, rfl⟩
  have b1 : Below w.heap.size w (w.drewN k) := below_drewN (Below.refl _ _)
  generalize w.drewN k = w1 at b1 ⊢
  go_wp2_with fail
  refine (QB.out _ w1 b1).mono ?_
  rintro e w3 ⟨rfl, b3⟩
  go_wp2_with fail
  go_ret
  exact ⟨rfl, b1.trans (b3.mono b1.size)⟩

set_option maxRecDepth 100000 in
set_option maxHeartbeats 1600000 in
theorem shRun_bad3 (t : ByteArray) (w : World) (h r : List UInt8) (fnd : Bool) (hs : t.size ≤ 100000) (hrl : r.length ≤ 100000) (hc : Lib.cut t.data.toList [10] = (h, r, fnd)) (hh : h = [103, 117, 110, 122, 105, 112]) (hbad : Scr.bytesOf' (Lib.trimSuffix r [10]) = none) (hG : ∀ W, Below w.heap.size w W → Glo W) :
    Calls Tryz.prog 12 #[.string t] w fun e w' => e = .returned (.string err91) ∧ Below w.heap.size w w' := by
  have ct := shcut_any t w (by omega) (hG w (Below.refl _ _)) hc
  obtain ⟨hb, hhb⟩ : ∃ b : ByteArray, b = ⟨h.toArray⟩ := ⟨_, rfl⟩
  obtain ⟨rb, hrb⟩ : ∃ b : ByteArray, b = ⟨r.toArray⟩ := ⟨_, rfl⟩
  rw [← hhb, ← hrb] at ct
  have c0 := beq_no (l := [103, 122, 105, 112]) hhb (by rw [hh]; decide)
  have c1 := beq_no (l := [122, 108, 105, 98]) hhb (by rw [hh]; decide)
  have c2 := beq_no (l := [114, 97, 119]) hhb (by rw [hh]; decide)
  have c3 := beq_yes hhb hh
  have hrz : rb.size ≤ 16777216 := by
    have e : rb.size = rb.data.toList.length := by rw [Array.length_toList]; rfl
    rw [e, hrb]; show r.length ≤ _; omega
  have hrd : rb.data.toList = r := by rw [hrb]
  have QB := hide (fun (v : Value) (W : World) (b : Below w.heap.size w W) => shbytes_bad rb v W hrz (by rw [hrd]; exact hbad) (fun W' b' => hG W' (b.trans (b'.mono b.size))))
  clear hhb hrb hc hh hbad hG hrd hrz
  go_enter Tryz.func12, Tryz.ntmps12
  go_wp2_with fail
  refine ct.mono ?_
  rintro e w1 ⟨rfl, k, rfl⟩
  have b1 : Below w.heap.size w (w.drewN k) := below_drewN (Below.refl _ _)
  generalize w.drewN k = w1 at b1 ⊢
  go_wp2_with fail
  refine (shmaker_dec 1 w1).mono ?_
  rintro e w2 ⟨v, rfl, b2⟩
  have t2 := b1.trans (b2.mono b1.size)
  go_wp2_with fail
  refine (QB.out _ w2 t2).mono ?_
  rintro e w3 ⟨rfl, b3⟩
  go_wp2_with fail
  go_ret
  exact ⟨rfl, t2.trans (b3.mono t2.size)⟩

set_option maxRecDepth 100000 in
set_option maxHeartbeats 1600000 in
theorem shRun_bad4 (t : ByteArray) (w : World) (h r : List UInt8) (fnd : Bool) (hs : t.size ≤ 100000) (hrl : r.length ≤ 100000) (hc : Lib.cut t.data.toList [10] = (h, r, fnd)) (hh : h = [117, 110, 122, 108, 105, 98]) (hbad : Scr.bytesOf' (Lib.trimSuffix r [10]) = none) (hG : ∀ W, Below w.heap.size w W → Glo W) :
    Calls Tryz.prog 12 #[.string t] w fun e w' => e = .returned (.string err91) ∧ Below w.heap.size w w' := by
  have ct := shcut_any t w (by omega) (hG w (Below.refl _ _)) hc
  obtain ⟨hb, hhb⟩ : ∃ b : ByteArray, b = ⟨h.toArray⟩ := ⟨_, rfl⟩
  obtain ⟨rb, hrb⟩ : ∃ b : ByteArray, b = ⟨r.toArray⟩ := ⟨_, rfl⟩
  rw [← hhb, ← hrb] at ct
  have c0 := beq_no (l := [103, 122, 105, 112]) hhb (by rw [hh]; decide)
  have c1 := beq_no (l := [122, 108, 105, 98]) hhb (by rw [hh]; decide)
  have c2 := beq_no (l := [114, 97, 119]) hhb (by rw [hh]; decide)
  have c3 := beq_no (l := [103, 117, 110, 122, 105, 112]) hhb (by rw [hh]; decide)
  have c4 := beq_yes hhb hh
  have hrz : rb.size ≤ 16777216 := by
    have e : rb.size = rb.data.toList.length := by rw [Array.length_toList]; rfl
    rw [e, hrb]; show r.length ≤ _; omega
  have hrd : rb.data.toList = r := by rw [hrb]
  have QB := hide (fun (v : Value) (W : World) (b : Below w.heap.size w W) => shbytes_bad rb v W hrz (by rw [hrd]; exact hbad) (fun W' b' => hG W' (b.trans (b'.mono b.size))))
  clear hhb hrb hc hh hbad hG hrd hrz
  go_enter Tryz.func12, Tryz.ntmps12
  go_wp2_with fail
  refine ct.mono ?_
  rintro e w1 ⟨rfl, k, rfl⟩
  have b1 : Below w.heap.size w (w.drewN k) := below_drewN (Below.refl _ _)
  generalize w.drewN k = w1 at b1 ⊢
  go_wp2_with fail
  refine (shmaker_dec 2 w1).mono ?_
  rintro e w2 ⟨v, rfl, b2⟩
  have t2 := b1.trans (b2.mono b1.size)
  go_wp2_with fail
  refine (QB.out _ w2 t2).mono ?_
  rintro e w3 ⟨rfl, b3⟩
  go_wp2_with fail
  go_ret
  exact ⟨rfl, t2.trans (b3.mono t2.size)⟩

set_option maxRecDepth 100000 in
set_option maxHeartbeats 1600000 in
theorem shRun_bad5 (t : ByteArray) (w : World) (h r : List UInt8) (fnd : Bool) (hs : t.size ≤ 100000) (hrl : r.length ≤ 100000) (hc : Lib.cut t.data.toList [10] = (h, r, fnd)) (hh : h = [117, 110, 114, 97, 119]) (hbad : Scr.bytesOf' (Lib.trimSuffix r [10]) = none) (hG : ∀ W, Below w.heap.size w W → Glo W) :
    Calls Tryz.prog 12 #[.string t] w fun e w' => e = .returned (.string err91) ∧ Below w.heap.size w w' := by
  have ct := shcut_any t w (by omega) (hG w (Below.refl _ _)) hc
  obtain ⟨hb, hhb⟩ : ∃ b : ByteArray, b = ⟨h.toArray⟩ := ⟨_, rfl⟩
  obtain ⟨rb, hrb⟩ : ∃ b : ByteArray, b = ⟨r.toArray⟩ := ⟨_, rfl⟩
  rw [← hhb, ← hrb] at ct
  have c0 := beq_no (l := [103, 122, 105, 112]) hhb (by rw [hh]; decide)
  have c1 := beq_no (l := [122, 108, 105, 98]) hhb (by rw [hh]; decide)
  have c2 := beq_no (l := [114, 97, 119]) hhb (by rw [hh]; decide)
  have c3 := beq_no (l := [103, 117, 110, 122, 105, 112]) hhb (by rw [hh]; decide)
  have c4 := beq_no (l := [117, 110, 122, 108, 105, 98]) hhb (by rw [hh]; decide)
  have c5 := beq_yes hhb hh
  have hrz : rb.size ≤ 16777216 := by
    have e : rb.size = rb.data.toList.length := by rw [Array.length_toList]; rfl
    rw [e, hrb]; show r.length ≤ _; omega
  have hrd : rb.data.toList = r := by rw [hrb]
  have QB := hide (fun (v : Value) (W : World) (b : Below w.heap.size w W) => shbytes_bad rb v W hrz (by rw [hrd]; exact hbad) (fun W' b' => hG W' (b.trans (b'.mono b.size))))
  clear hhb hrb hc hh hbad hG hrd hrz
  go_enter Tryz.func12, Tryz.ntmps12
  go_wp2_with fail
  refine ct.mono ?_
  rintro e w1 ⟨rfl, k, rfl⟩
  have b1 : Below w.heap.size w (w.drewN k) := below_drewN (Below.refl _ _)
  generalize w.drewN k = w1 at b1 ⊢
  go_wp2_with fail
  refine (QB.out _ w1 b1).mono ?_
  rintro e w3 ⟨rfl, b3⟩
  go_wp2_with fail
  go_ret
  exact ⟨rfl, b1.trans (b3.mono b1.size)⟩

set_option maxRecDepth 100000 in
set_option maxHeartbeats 1600000 in
theorem shRun_bad6 (t : ByteArray) (w : World) (h r : List UInt8) (fnd : Bool) (hs : t.size ≤ 100000) (hrl : r.length ≤ 100000) (hc : Lib.cut t.data.toList [10] = (h, r, fnd)) (hh : h = [99, 114, 99]) (hbad : Scr.bytesOf' (Lib.trimSuffix r [10]) = none) (hG : ∀ W, Below w.heap.size w W → Glo W) :
    Calls Tryz.prog 12 #[.string t] w fun e w' => e = .returned (.string err91) ∧ Below w.heap.size w w' := by
  have ct := shcut_any t w (by omega) (hG w (Below.refl _ _)) hc
  obtain ⟨hb, hhb⟩ : ∃ b : ByteArray, b = ⟨h.toArray⟩ := ⟨_, rfl⟩
  obtain ⟨rb, hrb⟩ : ∃ b : ByteArray, b = ⟨r.toArray⟩ := ⟨_, rfl⟩
  rw [← hhb, ← hrb] at ct
  have c0 := beq_no (l := [103, 122, 105, 112]) hhb (by rw [hh]; decide)
  have c1 := beq_no (l := [122, 108, 105, 98]) hhb (by rw [hh]; decide)
  have c2 := beq_no (l := [114, 97, 119]) hhb (by rw [hh]; decide)
  have c3 := beq_no (l := [103, 117, 110, 122, 105, 112]) hhb (by rw [hh]; decide)
  have c4 := beq_no (l := [117, 110, 122, 108, 105, 98]) hhb (by rw [hh]; decide)
  have c5 := beq_no (l := [117, 110, 114, 97, 119]) hhb (by rw [hh]; decide)
  have c6 := beq_yes hhb hh
  have hrz : rb.size ≤ 16777216 := by
    have e : rb.size = rb.data.toList.length := by rw [Array.length_toList]; rfl
    rw [e, hrb]; show r.length ≤ _; omega
  have hrd : rb.data.toList = r := by rw [hrb]
  have QB := hide (fun (v : Value) (W : World) (b : Below w.heap.size w W) => shbytes_bad rb v W hrz (by rw [hrd]; exact hbad) (fun W' b' => hG W' (b.trans (b'.mono b.size))))
  clear hhb hrb hc hh hbad hG hrd hrz
  go_enter Tryz.func12, Tryz.ntmps12
  go_wp2_with fail
  refine ct.mono ?_
  rintro e w1 ⟨rfl, k, rfl⟩
  have b1 : Below w.heap.size w (w.drewN k) := below_drewN (Below.refl _ _)
  generalize w.drewN k = w1 at b1 ⊢
  go_wp2_with fail
  refine (QB.out _ w1 b1).mono ?_
  rintro e w3 ⟨rfl, b3⟩
  go_wp2_with fail
  go_ret
  exact ⟨rfl, b1.trans (b3.mono b1.size)⟩

set_option maxRecDepth 100000 in
set_option maxHeartbeats 1600000 in
theorem shRun_bad7 (t : ByteArray) (w : World) (h r : List UInt8) (fnd : Bool) (hs : t.size ≤ 100000) (hrl : r.length ≤ 100000) (hc : Lib.cut t.data.toList [10] = (h, r, fnd)) (hh : h = [97, 100, 108, 101, 114]) (hbad : Scr.bytesOf' (Lib.trimSuffix r [10]) = none) (hG : ∀ W, Below w.heap.size w W → Glo W) :
    Calls Tryz.prog 12 #[.string t] w fun e w' => e = .returned (.string err91) ∧ Below w.heap.size w w' := by
  have ct := shcut_any t w (by omega) (hG w (Below.refl _ _)) hc
  obtain ⟨hb, hhb⟩ : ∃ b : ByteArray, b = ⟨h.toArray⟩ := ⟨_, rfl⟩
  obtain ⟨rb, hrb⟩ : ∃ b : ByteArray, b = ⟨r.toArray⟩ := ⟨_, rfl⟩
  rw [← hhb, ← hrb] at ct
  have c0 := beq_no (l := [103, 122, 105, 112]) hhb (by rw [hh]; decide)
  have c1 := beq_no (l := [122, 108, 105, 98]) hhb (by rw [hh]; decide)
  have c2 := beq_no (l := [114, 97, 119]) hhb (by rw [hh]; decide)
  have c3 := beq_no (l := [103, 117, 110, 122, 105, 112]) hhb (by rw [hh]; decide)
  have c4 := beq_no (l := [117, 110, 122, 108, 105, 98]) hhb (by rw [hh]; decide)
  have c5 := beq_no (l := [117, 110, 114, 97, 119]) hhb (by rw [hh]; decide)
  have c6 := beq_no (l := [99, 114, 99]) hhb (by rw [hh]; decide)
  have c7 := beq_yes hhb hh
  have hrz : rb.size ≤ 16777216 := by
    have e : rb.size = rb.data.toList.length := by rw [Array.length_toList]; rfl
    rw [e, hrb]; show r.length ≤ _; omega
  have hrd : rb.data.toList = r := by rw [hrb]
  have QB := hide (fun (v : Value) (W : World) (b : Below w.heap.size w W) => shbytes_bad rb v W hrz (by rw [hrd]; exact hbad) (fun W' b' => hG W' (b.trans (b'.mono b.size))))
  clear hhb hrb hc hh hbad hG hrd hrz
  go_enter Tryz.func12, Tryz.ntmps12
  go_wp2_with fail
  refine ct.mono ?_
  rintro e w1 ⟨rfl, k, rfl⟩
  have b1 : Below w.heap.size w (w.drewN k) := below_drewN (Below.refl _ _)
  generalize w.drewN k = w1 at b1 ⊢
  go_wp2_with fail
  refine (QB.out _ w1 b1).mono ?_
  rintro e w3 ⟨rfl, b3⟩
  go_wp2_with fail
  go_ret
  exact ⟨rfl, b1.trans (b3.mono b1.size)⟩

set_option maxRecDepth 100000 in
set_option maxHeartbeats 1600000 in
theorem shRun_run (t : ByteArray) (w : World) (h r r' : List UInt8) (fnd : Bool) (hs : t.size ≤ 100000) (hrl : r.length ≤ 100000) (hc : Lib.cut t.data.toList [10] = (h, r, fnd)) (hh : h = [114, 117, 110]) (hbad : r = 63 :: r') (hG : ∀ W, Below w.heap.size w W → Glo W) :
    Calls Tryz.prog 12 #[.string t] w fun e w' => e = .returned (.string err91) ∧ Below w.heap.size w w' := by
  have ct := shcut_any t w (by omega) (hG w (Below.refl _ _)) hc
  obtain ⟨hb, hhb⟩ : ∃ b : ByteArray, b = ⟨h.toArray⟩ := ⟨_, rfl⟩
  obtain ⟨rb, hrb⟩ : ∃ b : ByteArray, b = ⟨r.toArray⟩ := ⟨_, rfl⟩
  rw [← hhb, ← hrb] at ct
  have c0 := beq_no (l := [103, 122, 105, 112]) hhb (by rw [hh]; decide)
  have c1 := beq_no (l := [122, 108, 105, 98]) hhb (by rw [hh]; decide)
  have c2 := beq_no (l := [114, 97, 119]) hhb (by rw [hh]; decide)
  have c3 := beq_no (l := [103, 117, 110, 122, 105, 112]) hhb (by rw [hh]; decide)
  have c4 := beq_no (l := [117, 110, 122, 108, 105, 98]) hhb (by rw [hh]; decide)
  have c5 := beq_no (l := [117, 110, 114, 97, 119]) hhb (by rw [hh]; decide)
  have c6 := beq_no (l := [99, 114, 99]) hhb (by rw [hh]; decide)
  have c7 := beq_no (l := [97, 100, 108, 101, 114]) hhb (by rw [hh]; decide)
  have c8 := beq_no (l := [97, 99, 99, 101, 112, 116]) hhb (by rw [hh]; decide)
  have c9 := beq_yes hhb hh
  have hrz : rb.size ≤ 4194304 := by
    have e : rb.size = rb.data.toList.length := by rw [Array.length_toList]; rfl
    rw [e, hrb]; show r.length ≤ _; omega
  have hrd : rb.data.toList = 63 :: r' := by rw [hrb, hbad]
  have QB := hide (fun (W : World) (b : Below w.heap.size w W) => shrun_bad rb r' W hrz hrd (fun W' b' => hG W' (b.trans (b'.mono b.size))))
  clear hhb hrb hc hh hbad hG hrd hrz
  go_enter Tryz.func12, Tryz.ntmps12
  go_wp2_with fail
  refine ct.mono ?_
  rintro e w1 ⟨rfl, k, rfl⟩
  have b1 : Below w.heap.size w (w.drewN k) := below_drewN (Below.refl _ _)
  generalize w.drewN k = w1 at b1 ⊢
  go_wp2_with fail
  refine (QB.out w1 b1).mono ?_
  rintro e w3 ⟨rfl, b3⟩
  go_wp2_with fail
  go_ret
  exact ⟨rfl, b1.trans (b3.mono b1.size)⟩
end Go.Proofs.YtbplnglmjcmfiaaGreatDoor
