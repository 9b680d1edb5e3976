/- EditOwn returns true, whatever its arguments. -/
import Derived.Test.YtgdjlmpfjmakkaaDoorRefAnswer
import Derived.Test.YtgdjlmpfjmakkaaDoorEditResponses
import Derived.Test.YtgdjlmpfjmakkaaDoorSame
namespace Go.Proofs.YtgdjlmpfjmakkaaDoor.EditOwnP
open Go.RowKit
open FrameLengthsP (step_ rd_put rd_two)
open FrameTellsP (of_drew cell_keep)

theorem num_len (status : Int) : numL (udig ((reasonL status).length + 1)) = ((reasonL status).length + 1, true) := by
  have h := reason_len status
  obtain ⟨N, hN⟩ : ∃ N, N = (reasonL status).length + 1 := ⟨_, rfl⟩
  rw [← hN] at h ⊢
  simp only [List.mem_cons, List.not_mem_nil, or_false] at h
  rcases h with rfl | rfl | rfl | rfl | rfl | rfl | rfl
  · rw [show udig 12 = [49, 50] by simp [udig]]; decide
  · rw [show udig 10 = [49, 48] by simp [udig]]; decide
  · rw [show udig 15 = [49, 53] by simp [udig]]; decide
  · rw [show udig 18 = [49, 56] by simp [udig]]; decide
  · rw [show udig 32 = [51, 50] by simp [udig]]; decide
  · rw [show udig 16 = [49, 54] by simp [udig]]; decide
  · rw [show udig 6 = [54] by simp [udig]]; decide
theorem get_base (x : List UInt8) : getL [typeF, (lenC, x)] nameTE = [] ∧ getL [typeF, (lenC, x)] nameCL = [x] := by
  constructor
  · rw [getL_cons, if_neg (by decide), getL_cons, if_neg (by show ¬ sameL lenC nameTE = true; decide)]; rfl
  · rw [getL_cons, if_neg (by decide), getL_cons, if_pos (by show sameL lenC nameCL = true; decide)]; rfl
theorem ans_get (status : Int) (keep : Bool) : getL (ansF status keep) nameTE = [] ∧ getL (ansF status keep) nameCL = [udig ((reasonL status).length + 1)] := by
  obtain ⟨h1, h2⟩ := get_base (udig ((reasonL status).length + 1))
  have e1 : getL (ansB status) nameTE = [] := h1
  have e2 : getL (ansB status) nameCL = [udig ((reasonL status).length + 1)] := h2
  cases keep
  · have e : ansF status false = ansB status ++ [closeF] := rfl
    rw [e, getL_append, getL_append, e1, e2]
    exact ⟨by decide, by rw [show getL [closeF] nameCL = [] by decide, List.append_nil]⟩
  · exact ⟨e1, e2⟩
theorem ans_frame (status : Int) (keep : Bool) : frResp ⟨#[71, 69, 84]⟩ (ansF status keep) 1 status = if status < 200 ∨ status = 204 ∨ status = 304 then (0, 0, 0) else (1, (reasonL status).length + 1, 0) := by
  obtain ⟨h1, h2⟩ := ans_get status keep
  have hm : ((⟨#[71, 69, 84]⟩ : ByteArray).toList == [72, 69, 65, 68]) = false := by rw [ByteArray.toList_eq]; decide
  have he : emptyB ⟨#[71, 69, 84]⟩ status = decide (status < 200 ∨ status = 204 ∨ status = 304) := by
    unfold emptyB
    rw [hm, Bool.eq_iff_iff]
    simp [or_assoc]
  unfold frResp frOf
  rw [he, h1, h2]
  by_cases hs : status < 200 ∨ status = 204 ∨ status = 304
  · rw [if_pos hs, if_pos (by simpa using hs)]
  · rw [if_neg hs, if_neg (by simpa using hs)]
    unfold toldL
    rw [if_neg (by simp), if_pos (by simp)]
    have hn := num_len status
    simp only [List.headD_cons, List.length_singleton]
    rw [hn]
    simp
theorem weak_twice (t : List UInt8) : weakL (weakL t) = weakL t := by
  have h : (weakL t).take 2 = [87, 47] := by
    unfold weakL; split
    · assumption
    · rfl
  have e : weakL (weakL t) = if (weakL t).take 2 = [87, 47] then weakL t else 87 :: 47 :: weakL t := rfl
  rw [e, if_pos h]

set_option maxRecDepth 100000 in
set_option maxHeartbeats 6400000 in
theorem walk (status : Int) (keep : Bool) (minor : Int) (A : Option Addr) (n c : Nat) (fs : List (List UInt8 × List UInt8)) (tag : ByteArray) (w : World)
    (_w0 : (Lit.int .i64 status).wf = true) (_w2 : (Lit.int .i64 minor).wf = true) (h : Rd w w.heap.size 2 A n (fcells fs)) (hn : n ≤ 9223372036854775807) (hz : ∀ f ∈ fs, f.1.length ≤ reachBytes ∧ f.2.length ≤ reachBytes) (_w4 : tag.size ≤ 9223372036854775807) :
    Calls Tryd.prog 10 #[.int .i64 status, .bool keep, .int .i64 minor, .slice A n c, .string tag] w fun e w' => e = .returned (.bool true) ∧ Below w.heap.size w w' := by
  have hl := of_drew (light23_any A n c _ fs w h hn hz)
  have hfl := h.flen
  rcases hL : lightS 70 5000 fs with _ | _
  · rw [hL] at hl
    go_enter Tryd.func10, Tryd.ntmps10
    go_wp2_with fail
    refine hl.mono ?_
    rintro e w2 ⟨rfl, k2⟩
    go_upto_region 2 with (fail)
    go_wp2_with fail
    refine (ans23_any w2).mono ?_
    rintro e w' ⟨rfl, hB⟩
    go_wp2
    go_ret
    exact ⟨rfl, k2.trans (hB.mono k2.size)⟩
  rw [hL] at hl
  by_cases hv : 1000 < tag.size
  · have hvd : decide ((1000 : Int) < (tag.size : Int)) = true := decide_eq_true (by omega)
    go_enter Tryd.func10, Tryd.ntmps10
    go_wp2_with fail
    refine hl.mono ?_
    rintro e w2 ⟨rfl, k2⟩
    go_upto_region 2 with (fail)
    go_wp2_with fail
    refine (ans23_any w2).mono ?_
    rintro e w' ⟨rfl, hB⟩
    go_wp2
    go_ret
    exact ⟨rfl, k2.trans (hB.mono k2.size)⟩
  have hvd : decide ((1000 : Int) < (tag.size : Int)) = false := decide_eq_false (by omega)
  have htz : tag.size ≤ 1000 := by omega
  obtain ⟨hok, h70, -⟩ := lightS_ok hL (by omega)
  rw [hfl] at h70
  have ga := fun W => answer_any status keep W
  have gr := fun W => refanswer_any status keep W
  have hfr := ans_frame status keep
  obtain ⟨qs, hqs⟩ : ∃ q, q = ansF status keep := ⟨_, rfl⟩
  obtain ⟨bt, hbt⟩ : ∃ b, b = reasonL status ++ [10] := ⟨_, rfl⟩
  obtain ⟨N, hN⟩ : ∃ N, N = (reasonL status).length + 1 := ⟨_, rfl⟩
  obtain ⟨bs, hbs⟩ : ∃ b : ByteArray, b = ⟨(reasonL status).toArray⟩ := ⟨_, rfl⟩
  have hrl : N ≤ 40 := by
    have := reason_len status
    rw [← hN] at this
    simp only [List.mem_cons, List.not_mem_nil, or_false] at this; omega
  have hqlen : qs.length ≤ 3 := by rw [hqs]; unfold ansF; cases keep <;> simp [ansB]
  have hqok : fsOk qs := by
    have hd := udig_length N
    have hb : fsOk (ansB status) := by
      intro f hf
      have hf2 : f = typeF ∨ f = (lenC, udig ((reasonL status).length + 1)) := by simpa [ansB] using hf
      rcases hf2 with rfl | rfl
      · decide
      · refine ⟨(by decide : lenC.length ≤ 1000000), ?_⟩
        show (udig ((reasonL status).length + 1)).length ≤ 1000000
        rw [← hN]; omega
    rw [hqs]; unfold ansF
    split
    · exact hb
    · exact fsOk_append hb (by intro f hf; rw [List.mem_singleton.1 hf]; decide)
  simp only [← hqs, ← hbt, ← hN, ← hbs] at ga gr
  rw [← hqs, ← hN] at hfr
  obtain ⟨⟨fx, fy, fz⟩, hft⟩ : ∃ t, t = frResp ⟨#[71, 69, 84]⟩ qs 1 status := ⟨_, rfl⟩
  rw [← hft] at hfr
  have go := fun (A' : Option Addr) (n' c' : Nat) (hn' : n' ≤ 3) (W : World) (r : Rd W W.heap.size 2 A' n' (fcells qs)) => refresp_any ⟨#[71, 69, 84]⟩ bs 1 status A' n' c' _ qs W r (Nat.le_refl _) (by omega) hqok
  simp only [← hft, frV] at go
  have hwt := weak_twice tag.data.toList
  have hwl := weakL_len tag.data.toList
  have hw1 := fun W => weak_any tag W (by omega)
  have hw2 := fun W => refweak_any tag W (by omega)
  obtain ⟨tb, htb⟩ : ∃ b : ByteArray, b = ⟨(weakL tag.data.toList).toArray⟩ := ⟨_, rfl⟩
  have hw3 := fun W => weak_any tb W (by rw [htb, mk_size, ← size_of] at *; omega)
  have e3 : (⟨(weakL tb.data.toList).toArray⟩ : ByteArray) = tb := by rw [htb, mk_list, hwt]
  simp only [e3] at hw3
  simp only [← htb] at hw1 hw2
  have HFR := hide hfr
  clear hqs hbt hN hbs hfr hft hL hv hz hwt hwl htb e3 hqok
  go_enter Tryd.func10, Tryd.ntmps10
  go_wp2_with fail
  refine hl.mono ?_
  rintro e w1 ⟨rfl, k⟩
  have r1 := step_ h k
  have t1 := k
  clear hl h k
  go_wp2_with fail
  refine (ga w1).mono ?_
  rintro e w2 ⟨Ax, nx, cx, Ab, cb, rfl, rx, rb, k2⟩
  have hnx : nx ≤ 3 := by have := rx.flen; omega
  go_upto_region 4 with (fail)
  have bx := Box.new w2 #[.int .i64 1, .int .i64 status, .string bs, .slice Ax nx cx] 41
  have ka : Below w2.heap.size w2 (w2.alloc (.cells #[.int .i64 1, .int .i64 status, .string bs, .slice Ax nx cx] 41)) := (Below.refl _ _).alloc (Nat.le_refl _) _
  have k := k2.trans (ka.mono k2.size)
  replace rx := step_ rx ka
  replace rb := step_ rb ka
  replace r1 := step_ r1 k
  have t2 := t1.trans (k.mono t1.size)
  obtain ⟨gx, hgx⟩ : ∃ g, g = w2.heap.size := ⟨_, rfl⟩
  rw [← hgx] at bx
  rw [← hgx]
  generalize w2.alloc _ = w3 at bx rx rb r1 t2 ⊢
  clear hgx k k2 ka t1 ga
  go_wp2_with fail
  refine (gr w3).mono ?_
  rintro e w4 ⟨Ay, ny, cy, Ac, cc, rfl, ry, rc, k4⟩
  have hny : ny = nx := by have := ry.flen; have := rx.flen; omega
  subst hny
  go_upto_region 5 with (fail)
  have by_ := Box.new w4 #[.int .i64 1, .int .i64 status, .string bs, .slice Ay ny cy] 41
  have ka : Below w4.heap.size w4 (w4.alloc (.cells #[.int .i64 1, .int .i64 status, .string bs, .slice Ay ny cy] 41)) := (Below.refl _ _).alloc (Nat.le_refl _) _
  have k := k4.trans (ka.mono k4.size)
  replace ry := step_ ry ka
  replace rc := step_ rc ka
  replace bx := bx.below k
  replace r1 := step_ r1 k
  replace rx := step_ rx k
  replace rb := step_ rb k
  have t3 := t2.trans (k.mono t2.size)
  obtain ⟨gy, hgy⟩ : ∃ g, g = w4.heap.size := ⟨_, rfl⟩
  rw [← hgy] at by_
  rw [← hgy]
  generalize w4.alloc _ = w5 at bx by_ rx ry rb rc r1 t3 ⊢
  clear hgy k k4 ka t2 gr
  obtain ⟨x0, x1, x2, x3⟩ := bx.four
  go_wp2_with fail
  refine (go Ax ny cx hnx w5 rx).mono ?_
  rintro e w6 ⟨rfl, k6⟩
  go_upto_region 6 with (fail)
  have bf := Box.new w6 #[.int .i64 fx, .int .i64 fy] 26
  have k := k6.alloc k6.size (.cells #[.int .i64 fx, .int .i64 fy] 26)
  replace bx := bx.below k
  replace by_ := by_.below k
  replace r1 := step_ r1 k
  replace rx := step_ rx k
  replace ry := step_ ry k
  replace rb := step_ rb k
  replace rc := step_ rc k
  have t4 := t3.trans (k.mono t3.size)
  obtain ⟨gf, hgf⟩ : ∃ g, g = w6.heap.size := ⟨_, rfl⟩
  rw [← hgf] at bf
  rw [← hgf]
  generalize w6.alloc _ = w7 at bx by_ bf rx ry rb rc r1 t4 ⊢
  clear hgf k k6 t3 go x0 x1 x2 x3
  go_wp2_with fail
  refine (ans23_any w7).mono ?_
  rintro e w8 ⟨rfl, k⟩
  replace bx := bx.below k
  replace by_ := by_.below k
  replace bf := bf.below k
  replace r1 := step_ r1 k
  replace rx := step_ rx k
  replace ry := step_ ry k
  replace rb := step_ rb k
  replace rc := step_ rc k
  have t5 := t4.trans (k.mono t4.size)
  clear k t4
  obtain ⟨x0, x1, x2, x3⟩ := bx.four
  obtain ⟨y0, y1, y2, y3⟩ := by_.four
  have q := sameresp_any 1 status bs Ax Ay ny cx ny cy _ _ qs w8 rx ry (Nat.le_refl _) (Nat.le_refl _) (by omega) (by omega)
  go_wp2_with fail
  refine q.mono ?_
  rintro e w9 ⟨rfl, k⟩
  replace bf := bf.below k
  replace r1 := step_ r1 k
  replace rb := step_ rb k
  replace rc := step_ rc k
  have t6 := t5.trans (k.mono t5.size)
  clear k t5 x0 x1 x2 x3 y0 y1 y2 y3 q rx ry bx by_
  have q := same_any Ab Ac N cb N cc _ _ bt bt w9 rb rc (by omega) (by omega)
  simp only [beq_self_eq_true] at q
  go_wp2_with fail
  refine q.mono ?_
  rintro e w10 ⟨rfl, kk, rfl⟩
  have k : Below w9.heap.size w9 (w9.drewN kk) := below_drewN (Below.refl _ _)
  replace bf := bf.below k
  replace r1 := step_ r1 k
  have t7 := t6.trans (k.mono t6.size)
  clear k t6 q rb rc
  generalize w9.drewN kk = w11 at bf r1 t7 ⊢
  have q := keeps_any minor A n c _ fs w11 r1 (Nat.le_refl _) (by omega) hok
  go_wp2_with fail
  refine q.mono ?_
  rintro e w12 ⟨rfl, k⟩
  replace bf := bf.below k
  replace r1 := step_ r1 k
  have t8 := t7.trans (k.mono t7.size)
  clear k t7 q
  have q := refkeeps_any minor A n c _ fs w12 r1 (Nat.le_refl _) (by omega) hok
  go_wp2_with fail
  refine q.mono ?_
  rintro e w13 ⟨rfl, k⟩
  replace bf := bf.below k
  have t9 := t8.trans (k.mono t8.size)
  clear k t8 q r1
  go_wp2_with fail
  refine (hw1 w13).mono ?_
  rintro e w14 ⟨rfl, k⟩
  replace bf := bf.below k
  have t10 := t9.trans (k.mono t9.size)
  clear k t9
  go_wp2_with fail
  refine (hw2 w14).mono ?_
  rintro e w15 ⟨rfl, rfl⟩
  go_wp2_with fail
  refine (hw1 w14).mono ?_
  rintro e w16 ⟨rfl, k⟩
  replace bf := bf.below k
  have t11 := t10.trans (k.mono t10.size)
  clear k t10
  go_wp2_with fail
  refine (hw3 w16).mono ?_
  rintro e w17 ⟨rfl, k⟩
  replace bf := bf.below k
  have t12 := t11.trans (k.mono t11.size)
  clear k t11
  go_wp2_with fail
  refine (hw1 w17).mono ?_
  rintro e w18 ⟨rfl, k⟩
  replace bf := bf.below k
  have t13 := t12.trans (k.mono t12.size)
  clear k t12 hw1 hw2 hw3
  obtain ⟨z0, z1⟩ := bf.two
  have hfr := HFR.out
  by_cases h1 : status < 200
  · have d1 : decide (status < 200) = true := decide_eq_true h1
    clear h1 hfr HFR
    go_wp2
    go_ret
    exact ⟨rfl, t13⟩
  by_cases h2 : status = 204
  · subst h2
    clear h1 hfr HFR
    go_wp2
    go_ret
    exact ⟨rfl, t13⟩
  by_cases h3 : status = 304
  · subst h3
    clear h1 h2 hfr HFR
    go_wp2
    go_ret
    exact ⟨rfl, t13⟩
  rw [if_neg (by omega)] at hfr
  simp only [Prod.mk.injEq] at hfr
  obtain ⟨rfl, rfl, rfl⟩ := hfr
  have d1 : decide (status < 200) = false := decide_eq_false h1
  have d2 : (status == 204) = false := by simpa using h2
  have d3 : (status == 304) = false := by simpa using h3
  clear h1 h2 h3 HFR
  go_wp2
  go_ret
  exact ⟨rfl, t13⟩

def cells32 : Array Value := ([0, 1, 28, 2, 29, 14, 24, 3, 30, 22, 20, 15, 25, 17, 4, 8, 31, 27, 13, 23, 21, 19, 16, 7, 26, 12, 18, 6, 11, 5, 10, 9].map fun n : Nat => Value.int .u8 n).toArray
def cells64 : Array Value := ([0, 1, 56, 2, 57, 49, 28, 3, 61, 58, 42, 50, 38, 29, 17, 4, 62, 47, 59, 36, 45, 43, 51, 22, 53, 39, 33, 30, 24, 18, 12, 5, 63, 55, 48, 27, 60, 41, 37, 16, 46, 35, 44, 21, 52, 32, 23, 11, 54, 26, 40, 15, 34, 20, 31, 10, 25, 14, 19, 9, 13, 8, 7, 6].map fun n : Nat => Value.int .u8 n).toArray
def cellsPow : Array Value := ([1, 10, 100, 1000, 10000, 100000, 1000000, 10000000, 100000000, 1000000000, 10000000000, 100000000000, 1000000000000, 10000000000000, 100000000000000, 1000000000000000, 10000000000000000, 100000000000000000, 1000000000000000000, 10000000000000000000].map fun n : Nat => Value.int .u64 n).toArray
/-- The settled world, with the five tables as their initialisers lay them. -/
noncomputable def laidWorld (os : Os) : World :=
  { World.holding Tryd.prog os ⟨#[], #[], []⟩ with heap := ((((((World.holding Tryd.prog os ⟨#[], #[], []⟩).heap.modify 4 (putCells firstCells)).modify 5 (putCells rangeCells)).modify 6 (putCells cells32)).modify 7 (putCells cells64)).modify 1 (putCells cellsPow)) }
end Go.Proofs.YtgdjlmpfjmakkaaDoor.EditOwnP
