/- concertinalaw28.answers. -/
import Derived.Test.YtbplnglmjcmfiaaGreatDoorShRun2
import Derived.Test.YtbplnglmjcmfiaaGreatDoorShCrc
namespace Go.Proofs.YtbplnglmjcmfiaaGreatDoor
open Go.RowKit
set_option linter.unusedVariables false
set_option linter.unusedSimpArgs false

def nineL : List UInt8 := [49, 50, 51, 52, 53, 54, 55, 56, 57]
def crcTxt : ByteArray := ⟨#[51, 52, 50, 49, 55, 56, 48, 50, 54, 50, 10]⟩
theorem crcTxt_is : ((⟨(Lib.decDigits 3421780262).toArray⟩ : ByteArray) ++ ⟨#[10]⟩) = crcTxt := by decide +kernel
set_option maxRecDepth 100000 in
set_option maxHeartbeats 1600000 in
theorem shtell_crc (A : Option Addr) (n c : Nat) (w : World) (hl : Rd w w.heap.size 1 A n (bcells nineL)) (hn : n ≤ 9223372036854775807) (hG : ∀ W, Below w.heap.size w W → Glo W) :
    Calls Tryz.prog 28 #[.slice A n c] w fun e w' => e = .returned (.string crcTxt) ∧ Below w.heap.size w w' := by
  have q := sumcrc_any 0 A n c nineL w hl (by omega) hn
  have e0 : notI (nineL.foldl crcStep (notI 0)) = ((3421780262 : Nat) : Int) := crc_nine
  rw [e0] at q
  have q2 := fun W (b : Below w.heap.size w W) => shnumber_any 3421780262 (by decide) (by decide) W (hG W b).pow
  rw [crcTxt_is] at q2
  clear hG hl e0
  obtain ⟨u, hu⟩ : ∃ u : Int, ((3421780262 : Nat) : Int) = u := ⟨_, rfl⟩
  rw [hu] at q
  simp only [hu] at q2
  clear hu
  go_enter Tryz.func28, Tryz.ntmps28
  go_wp2_with fail
  refine q.mono ?_
  rintro e w1 ⟨rfl, b1⟩
  have q3 := q2 w1 b1
  clear q2 q
  go_wp2_with fail
  refine q3.mono ?_
  rintro e w2 ⟨rfl, b2⟩
  go_wp2_with fail
  go_ret
  exact ⟨rfl, b1.trans (b2.mono b1.size)⟩
def nineX : ByteArray := ⟨#[120, 51, 49, 51, 50, 51, 51, 51, 52, 51, 53, 51, 54, 51, 55, 51, 56, 51, 57]⟩
theorem nine_trim : Lib.trimSuffix nineX.data.toList [10] = nineX.data.toList := by decide +kernel
theorem nine_hex : Scr.bytesOf' nineX.data.toList = some nineL := by decide +kernel
theorem nine_cut : Lib.cut ((⟨#[99, 114, 99, 10, 120, 51, 49, 51, 50, 51, 51, 51, 52, 51, 53, 51, 54, 51, 55, 51, 56, 51, 57]⟩ : ByteArray)).data.toList [10] = ([99, 114, 99], nineX.data.toList, true) := by decide +kernel
set_option maxRecDepth 100000 in
set_option maxHeartbeats 1600000 in
theorem shbytes_crc (w : World) (hG : ∀ W, Below w.heap.size w W → Glo W) :
    Calls Tryz.prog 23 #[.string nineX, .func (.func 28) #[] #[]] w fun e w' => e = .returned (.string crcTxt) ∧ Below w.heap.size w w' := by
  have ts := Tryz.strings_TrimSuffix nineX ⟨#[10]⟩ w (by decide)
  have e1 : (⟨#[10]⟩ : ByteArray).data.toList = [10] := rfl
  rw [e1, nine_trim, bytes_of] at ts
  have uh := shunhex_any nineX.data.toList w (by decide)
  rw [bytes_of] at uh
  have uh2 : Calls Tryz.prog 47 #[.string nineX] w fun e w' => ∃ A c, e = .returned (.tuple #[.slice A 9 c, .bool true]) ∧ Rd w' w'.heap.size 1 A 9 (bcells nineL) ∧ Below w.heap.size w w' := by
    refine uh.mono ?_
    rintro e w' ⟨A, n, c, rfl, hn, hr, b⟩
    rw [nine_hex] at hn hr ⊢
    obtain rfl : n = 9 := hn
    exact ⟨A, c, rfl, hr, b⟩
  obtain ⟨t, ht⟩ : ∃ t, t = nineX := ⟨_, rfl⟩
  rw [← ht] at ts uh2 ⊢
  have HG := hide hG
  clear uh ht hG e1
  go_enter Tryz.func23, Tryz.ntmps23
  go_wp2_with fail
  refine ts.mono ?_
  rintro e w1 ⟨rfl, rfl⟩
  go_wp2_with fail
  refine uh2.mono ?_
  rintro e w2 ⟨A, c, rfl, hr, b2⟩
  have q := shtell_crc A 9 c w2 hr (by omega) (fun W b => HG.out W (b2.trans (b.mono b2.size)))
  clear ts uh2
  go_wp2_with fail
  refine q.mono ?_
  rintro e w3 ⟨rfl, b3⟩
  go_wp2_with fail
  go_ret
  exact ⟨rfl, b2.trans (b3.mono b2.size)⟩
set_option maxRecDepth 100000 in
set_option maxHeartbeats 1600000 in
theorem shRun_crc (w : World) (hG : ∀ W, Below w.heap.size w W → Glo W) :
    Calls Tryz.prog 12 #[.string ⟨#[99, 114, 99, 10, 120, 51, 49, 51, 50, 51, 51, 51, 52, 51, 53, 51, 54, 51, 55, 51, 56, 51, 57]⟩] w fun e w' => e = .returned (.string crcTxt) ∧ Below w.heap.size w w' := by
  have ct := shcut_any ⟨#[99, 114, 99, 10, 120, 51, 49, 51, 50, 51, 51, 51, 52, 51, 53, 51, 54, 51, 55, 51, 56, 51, 57]⟩ w (by decide) (hG w (Below.refl _ _)) nine_cut
  rw [bytes_of] at ct
  obtain ⟨hb, hhb⟩ : ∃ b : ByteArray, b = ⟨([99, 114, 99] : List UInt8).toArray⟩ := ⟨_, rfl⟩
  rw [← hhb] at ct
  have c0 := beq_no (l := [103, 122, 105, 112]) hhb (by decide)
  have c1 := beq_no (l := [122, 108, 105, 98]) hhb (by decide)
  have c2 := beq_no (l := [114, 97, 119]) hhb (by decide)
  have c3 := beq_no (l := [103, 117, 110, 122, 105, 112]) hhb (by decide)
  have c4 := beq_no (l := [117, 110, 122, 108, 105, 98]) hhb (by decide)
  have c5 := beq_no (l := [117, 110, 114, 97, 119]) hhb (by decide)
  have c6 := beq_yes (l := [99, 114, 99]) hhb rfl
  have QB := hide (fun (W : World) (b : Below w.heap.size w W) => shbytes_crc W (fun W' b' => hG W' (b.trans (b'.mono b.size))))
  obtain ⟨t, ht⟩ : ∃ t, t = nineX := ⟨_, rfl⟩
  rw [← ht] at ct QB
  obtain ⟨s, hs⟩ : ∃ s : ByteArray, s = ⟨#[99, 114, 99, 10, 120, 51, 49, 51, 50, 51, 51, 51, 52, 51, 53, 51, 54, 51, 55, 51, 56, 51, 57]⟩ := ⟨_, rfl⟩
  rw [← hs] at ct ⊢
  clear hhb hG ht hs
  go_enter Tryz.func12, Tryz.ntmps12
  go_wp2_with fail
  refine ct.mono ?_
  rintro e w1 ⟨rfl, k, rfl⟩
  have b1 : Below w.heap.size w (w.drewN k) := below_drewN (Below.refl _ _)
  generalize w.drewN k = w1 at b1 ⊢
  go_wp2_with fail
  refine (QB.out w1 b1).mono ?_
  rintro e w3 ⟨rfl, b3⟩
  go_wp2_with fail
  go_ret
  exact ⟨rfl, b1.trans (b3.mono b1.size)⟩
theorem q_cut : Lib.cut (⟨#[63]⟩ : ByteArray).data.toList [10] = ([63], [], false) := by decide +kernel
set_option maxRecDepth 100000 in
set_option maxHeartbeats 1600000 in
theorem shans_any (w : World) (hG : ∀ W, Below w.heap.size w W → Glo W) :
    Calls Tryz.prog 11 #[] w fun e w' => e = .returned (.bool true) ∧ Below w.heap.size w w' := by
  have q1 := shRun_crc w hG
  have q2 := hide (fun (W : World) (b : Below w.heap.size w W) => shRun_none ⟨#[63]⟩ W [63] [] false (by decide) q_cut (by decide) (fun W' b' => hG W' (b.trans (b'.mono b.size))))
  have e1 : (crcTxt.toList == [51, 52, 50, 49, 55, 56, 48, 50, 54, 50, 10]) = true := by decide +kernel
  have e2 : (err0.toList == [101, 114, 114, 111, 114, 32, 48, 10]) = true := by decide +kernel
  obtain ⟨x1, hx1⟩ : ∃ x, x = crcTxt := ⟨_, rfl⟩
  obtain ⟨x2, hx2⟩ : ∃ x, x = err0 := ⟨_, rfl⟩
  rw [← hx1] at q1 e1
  rw [← hx2] at q2 e2
  clear hG hx1 hx2
  go_enter Tryz.func11, Tryz.ntmps11
  go_wp2_with fail
  refine q1.mono ?_
  rintro e w1 ⟨rfl, b1⟩
  clear q1
  go_wp2_with fail
  refine (q2.out w1 b1).mono ?_
  rintro e w2 ⟨rfl, b2⟩
  go_wp2_with fail
  go_ret
  exact ⟨rfl, b1.trans (b2.mono b1.size)⟩
end Go.Proofs.YtbplnglmjcmfiaaGreatDoor
