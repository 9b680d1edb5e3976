/- concertinalaw23.light; weak tags, Keeps, the law's answers; SameRequest. -/
import Derived.Test.YtgdjlmpfjmakkaaDoorGets
import Derived.Test.YtgdjlmpfjmakkaaDoorEditSpec
import Derived.Test.YtgdjlmpfjmakkaaDoorSameF
import Derived.Test.YtgdjlmpfjmakkaaDoorTold
namespace Go.Proofs.YtgdjlmpfjmakkaaDoor
open Go.RowKit

set_option maxRecDepth 100000 in
set_option maxHeartbeats 3200000 in
theorem light23_any (A : Option Addr) (n c B : Nat) (fs : List (List UInt8 × List UInt8)) (w : World) (h : Rd w B 2 A n (fcells fs)) (hn : n ≤ 9223372036854775807) (hz : ∀ f ∈ fs, f.1.length ≤ 140737488351232 ∧ f.2.length ≤ 140737488351232) :
    Calls Tryd.prog 14 #[.slice A n c] w fun e w' => e = .returned (.bool (lightS 70 5000 fs)) ∧ ∃ k, w' = w.drewN k := by
  have hlen := h.flen
  have HLEN := hide hlen
  have hle : n ≤ fs.length := by omega
  clear hlen
  go_enter Tryd.func14, Tryd.ntmps14
  go_wp2_with fail
  go_loopw [3, 4] (fun s i wr => ∃ (k : Nat) (v : Int), k ≤ n ∧ i = .int .i64 k ∧ s = .int .i64 v ∧ (n ≤ 70 → v = sumF (fs.take k)) ∧ ∃ m, wr = w.drewN m) (fun _ i _ => n - (intOf i).toNat)
  case atStart => exact ⟨0, 0, Nat.zero_le _, rfl, rfl, fun _ => rfl, 0, rfl⟩
  case round =>
    obtain ⟨k, v, hk, rfl, rfl, hv, m, rfl⟩ := hrel
    by_cases hlt : k < n
    · have hkl : k < fs.length := by omega
      obtain ⟨b, off, rfl, hbB, e0, e1⟩ := h.fld hlt hkl
      have hsn := sumF_snoc fs k hkl
      have hzk := hz fs[k] (List.getElem_mem hkl)
      have hsl := sumF_le 140737488351232 (fs.take k) (fun f hf => hz f (List.mem_of_mem_take hf))
      rw [List.length_take] at hsl
      obtain ⟨x, hx⟩ : ∃ x, x = fs[k] := ⟨_, rfl⟩
      rw [← hx] at e0 e1 hsn hzk
      have hz1 := mk_size x.1
      have hz2 := mk_size x.2
      obtain ⟨sx, hsx⟩ : ∃ sx : ByteArray, sx = ⟨x.1.toArray⟩ := ⟨_, rfl⟩
      obtain ⟨sv, hsv⟩ : ∃ sv : ByteArray, sv = ⟨x.2.toArray⟩ := ⟨_, rfl⟩
      rw [← hsx] at e0 hz1
      rw [← hsv] at e1 hz2
      rw [← hz1, ← hz2] at hsn
      obtain ⟨q, hq⟩ : ∃ q, q = sumF (fs.take k) := ⟨_, rfl⟩
      rw [← hq] at hsn hv hsl
      have HS := hide hsn
      have HV := hide hv
      have HZ := hide hz
      have hq2 : n ≤ 70 → q ≤ 28147497670246400 := fun h100 => by
        have : min k fs.length ≤ 70 := by omega
        have h2 : min k fs.length * (2 * 140737488351232) ≤ 70 * (2 * 140737488351232) := Nat.mul_le_mul_right _ this
        omega
      have HQ := hide hq2
      clear hx hsx hsv hsn hq hv hsl hz hq2
      go_wp2_with fail
      go_quiet (fail)
      go_wp2
      go_roundw
      case rel =>
        refine ⟨k + 1, _, by omega, by go_num, rfl, fun h100 => ?_, _, rfl⟩
        have h1 := HV.out h100
        have h2 := HQ.out h100
        rw [h1, HS.out]
        rw [Go.IntWalk.wrap64_in ((q : Int) + (x.1.length : Int)) (by omega), Go.IntWalk.wrap64_in _ (by omega)]
        omega
      case measure => simp [intOf]; omega
    · have hL := HLEN.out
      rw [List.take_of_length_le (by omega)] at hv
      by_cases h100 : n ≤ 70
      · have hv' := hv h100
        subst hv'
        have hfin : lightS 70 5000 fs = decide (sumF fs ≤ 5000) := by unfold lightS; rw [hL]; simp [h100]
        have HF := hide hfin
        clear hv hfin
        go_wp2
        go_ret
        exact ⟨ret_bool (by rw [HF.out]; exact decide_eq_decide.2 (by omega)), _, rfl⟩
      · have hfin : lightS 70 5000 fs = false := by unfold lightS; rw [hL]; simp [h100]
        have HF := hide hfin
        clear hv hfin
        go_wp2
        go_ret
        exact ⟨ret_bool (by rw [HF.out]), _, rfl⟩

def keepsB (minor : Int) (fs : List (List UInt8 × List UInt8)) : Bool := if hasL fs connL [99, 108, 111, 115, 101] = true then false else decide (minor = 1) || (decide (minor = 0) && hasL fs connL [107, 101, 101, 112, 45, 97, 108, 105, 118, 101])
theorem hasL_congr {a b : List UInt8} (h : lowL a = lowL b) (fs : List (List UInt8 × List UInt8)) (m : List UInt8) : hasL fs a m = hasL fs b m := by unfold hasL; rw [getL_congr h]

set_option maxRecDepth 100000 in
set_option maxHeartbeats 3200000 in
theorem keeps_any (minor : Int) (A : Option Addr) (n c B : Nat) (fs : List (List UInt8 × List UInt8)) (w : World) (h : Rd w B 2 A n (fcells fs)) (hB : B ≤ w.heap.size) (hn : n ≤ 1000) (hok : fsOk fs) :
    Calls Tryd.prog 36 #[.int .i64 minor, .slice A n c] w fun e w' => e = .returned (.bool (keepsB minor fs)) ∧ Below w.heap.size w w' := by
  have q1 := fun (W : World) (b : Below w.heap.size w W) => has_any A n c B fs ⟨#[67, 111, 110, 110, 101, 99, 116, 105, 111, 110]⟩ ⟨#[99, 108, 111, 115, 101]⟩ W (h.below (b.mono hB)) (Nat.le_trans hB b.size) (by omega) hok (by decide) (by decide)
  have q2 := fun (W : World) (b : Below w.heap.size w W) => has_any A n c B fs ⟨#[67, 111, 110, 110, 101, 99, 116, 105, 111, 110]⟩ ⟨#[107, 101, 101, 112, 45, 97, 108, 105, 118, 101]⟩ W (h.below (b.mono hB)) (Nat.le_trans hB b.size) (by omega) hok (by decide) (by decide)
  have e1 : hasL fs (⟨#[67, 111, 110, 110, 101, 99, 116, 105, 111, 110]⟩ : ByteArray).data.toList (⟨#[99, 108, 111, 115, 101]⟩ : ByteArray).data.toList = hasL fs connL [99, 108, 111, 115, 101] := hasL_congr (by decide) fs _
  have e2 : hasL fs (⟨#[67, 111, 110, 110, 101, 99, 116, 105, 111, 110]⟩ : ByteArray).data.toList (⟨#[107, 101, 101, 112, 45, 97, 108, 105, 118, 101]⟩ : ByteArray).data.toList = hasL fs connL [107, 101, 101, 112, 45, 97, 108, 105, 118, 101] := hasL_congr (by decide) fs _
  rw [e1] at q1
  rw [e2] at q2
  obtain ⟨r, hr⟩ : ∃ r, r = keepsB minor fs := ⟨_, rfl⟩
  rw [← hr]
  unfold keepsB at hr
  obtain ⟨x, hx⟩ : ∃ x, x = hasL fs connL [99, 108, 111, 115, 101] := ⟨_, rfl⟩
  obtain ⟨y, hy⟩ : ∃ y, y = hasL fs connL [107, 101, 101, 112, 45, 97, 108, 105, 118, 101] := ⟨_, rfl⟩
  rw [← hx] at q1
  rw [← hy] at q2
  rw [← hx, ← hy] at hr
  have HR := hide hr
  clear hr hx hy e1 e2 h hok
  rcases x with _ | _
  · by_cases h1 : minor = 1
    · subst h1
      go_enter Tryd.func36, Tryd.ntmps36
      go_wp2_with fail
      refine (q1 w (Below.refl _ _)).mono ?_
      rintro e w1 ⟨rfl, b⟩
      go_wp2
      go_ret
      exact ⟨ret_bool (by rw [HR.out]; rfl), b⟩
    · by_cases h0 : minor = 0
      · subst h0
        go_enter Tryd.func36, Tryd.ntmps36
        go_wp2_with fail
        refine (q1 w (Below.refl _ _)).mono ?_
        rintro e w1 ⟨rfl, b⟩
        go_wp2_with fail
        refine (q2 w1 b).mono ?_
        rintro e w2 ⟨rfl, b2⟩
        go_wp2
        go_ret
        exact ⟨ret_bool (by rw [HR.out]; rfl), b.trans (b2.mono b.size)⟩
      · have e1 : (minor == 1) = false := by simpa using h1
        have e0 : (minor == 0) = false := by simpa using h0
        have HR2 := hide (show r = false by rw [HR.out]; simp [h1, h0])
        clear h1 h0
        go_enter Tryd.func36, Tryd.ntmps36
        go_wp2_with fail
        refine (q1 w (Below.refl _ _)).mono ?_
        rintro e w1 ⟨rfl, b⟩
        go_wp2
        go_ret
        exact ⟨ret_bool (by rw [HR2.out]), b⟩
  · go_enter Tryd.func36, Tryd.ntmps36
    go_wp2_with fail
    refine (q1 w (Below.refl _ _)).mono ?_
    rintro e w1 ⟨rfl, b⟩
    go_wp2
    go_ret
    exact ⟨ret_bool (by rw [HR.out]; rfl), b⟩

set_option maxRecDepth 100000 in
set_option maxHeartbeats 3200000 in
theorem refkeeps_any (minor : Int) (A : Option Addr) (n c B : Nat) (fs : List (List UInt8 × List UInt8)) (w : World) (h : Rd w B 2 A n (fcells fs)) (hB : B ≤ w.heap.size) (hn : n ≤ 1000) (hok : fsOk fs) :
    Calls Tryd.prog 37 #[.int .i64 minor, .slice A n c] w fun e w' => e = .returned (.bool (keepsB minor fs)) ∧ Below w.heap.size w w' := by
  have q1 := fun (W : World) (b : Below w.heap.size w W) => refhas_any A n c B fs ⟨#[99, 111, 110, 110, 101, 99, 116, 105, 111, 110]⟩ ⟨#[99, 108, 111, 115, 101]⟩ W (h.below (b.mono hB)) (Nat.le_trans hB b.size) (by omega) hok (by decide) (by decide)
  have q2 := fun (W : World) (b : Below w.heap.size w W) => refhas_any A n c B fs ⟨#[99, 111, 110, 110, 101, 99, 116, 105, 111, 110]⟩ ⟨#[107, 101, 101, 112, 45, 97, 108, 105, 118, 101]⟩ W (h.below (b.mono hB)) (Nat.le_trans hB b.size) (by omega) hok (by decide) (by decide)
  have e1 : hasL fs (⟨#[99, 111, 110, 110, 101, 99, 116, 105, 111, 110]⟩ : ByteArray).data.toList (⟨#[99, 108, 111, 115, 101]⟩ : ByteArray).data.toList = hasL fs connL [99, 108, 111, 115, 101] := hasL_congr (by decide) fs _
  have e2 : hasL fs (⟨#[99, 111, 110, 110, 101, 99, 116, 105, 111, 110]⟩ : ByteArray).data.toList (⟨#[107, 101, 101, 112, 45, 97, 108, 105, 118, 101]⟩ : ByteArray).data.toList = hasL fs connL [107, 101, 101, 112, 45, 97, 108, 105, 118, 101] := hasL_congr (by decide) fs _
  rw [e1] at q1
  rw [e2] at q2
  obtain ⟨r, hr⟩ : ∃ r, r = keepsB minor fs := ⟨_, rfl⟩
  rw [← hr]
  unfold keepsB at hr
  obtain ⟨x, hx⟩ : ∃ x, x = hasL fs connL [99, 108, 111, 115, 101] := ⟨_, rfl⟩
  obtain ⟨y, hy⟩ : ∃ y, y = hasL fs connL [107, 101, 101, 112, 45, 97, 108, 105, 118, 101] := ⟨_, rfl⟩
  rw [← hx] at q1
  rw [← hy] at q2
  rw [← hx, ← hy] at hr
  have HR := hide hr
  clear hr hx hy e1 e2 h hok
  rcases x with _ | _
  · by_cases h1 : minor = 1
    · subst h1
      go_enter Tryd.func37, Tryd.ntmps37
      go_wp2_with fail
      refine (q1 w (Below.refl _ _)).mono ?_
      rintro e w1 ⟨rfl, b⟩
      go_wp2
      go_ret
      exact ⟨ret_bool (by rw [HR.out]; rfl), b⟩
    · by_cases h0 : minor = 0
      · subst h0
        go_enter Tryd.func37, Tryd.ntmps37
        go_wp2_with fail
        refine (q1 w (Below.refl _ _)).mono ?_
        rintro e w1 ⟨rfl, b⟩
        go_wp2_with fail
        refine (q2 w1 b).mono ?_
        rintro e w2 ⟨rfl, b2⟩
        go_wp2
        go_ret
        exact ⟨ret_bool (by rw [HR.out]; rfl), b.trans (b2.mono b.size)⟩
      · have e1 : (minor == 1) = false := by simpa using h1
        have e0 : (minor == 0) = false := by simpa using h0
        have HR2 := hide (show r = false by rw [HR.out]; simp [h1, h0])
        clear h1 h0
        go_enter Tryd.func37, Tryd.ntmps37
        go_wp2_with fail
        refine (q1 w (Below.refl _ _)).mono ?_
        rintro e w1 ⟨rfl, b⟩
        go_wp2
        go_ret
        exact ⟨ret_bool (by rw [HR2.out]), b⟩
  · go_enter Tryd.func37, Tryd.ntmps37
    go_wp2_with fail
    refine (q1 w (Below.refl _ _)).mono ?_
    rintro e w1 ⟨rfl, b⟩
    go_wp2
    go_ret
    exact ⟨ret_bool (by rw [HR.out]; rfl), b⟩

set_option maxRecDepth 100000 in
set_option maxHeartbeats 3200000 in
theorem samereq_any (m t : ByteArray) (minor : Int) (A A' : Option Addr) (n c n' c' B B' : Nat) (fs : List (List UInt8 × List UInt8)) (w : World) (h : Rd w B 2 A n (fcells fs)) (h' : Rd w B' 2 A' n' (fcells fs)) (hB : B ≤ w.heap.size) (hB' : B' ≤ w.heap.size) (hn : n ≤ 140737488355328) (hn' : n' ≤ 140737488355328) :
    Calls Tryd.prog 17 #[.agg #[.string m, .string t, .int .i64 minor, .slice A n c], .agg #[.string m, .string t, .int .i64 minor, .slice A' n' c']] w fun e w' => e = .returned (.bool true) ∧ Below w.heap.size w w' := by
  have q := fun (W : World) (b : Below w.heap.size w W) => samef_any A A' n c n' c' B B' fs fs W (h.below (b.mono hB)) (h'.below (b.mono hB')) hn hn'
  simp only [decide_true] at q
  go_enter Tryd.func17, Tryd.ntmps17
  go_wp2_with fail
  refine (q _ (below_alloc2 _ _ _)).mono ?_
  rintro e w3 ⟨rfl, k, rfl⟩
  go_wp2
  go_ret
  exact ⟨rfl, below_drewN (below_alloc2 _ _ _)⟩

def prefB (p s : List UInt8) : Bool := decide (p.length ≤ s.length) && decide (s.take p.length = p)
set_option maxRecDepth 100000 in
set_option maxHeartbeats 3200000 in
theorem wpre_any (s : ByteArray) (w : World) (hs : s.size ≤ 9223372036854775807) :
    Calls Tryd.prog 70 #[.string s, .string ⟨#[87, 47]⟩] w fun e w' => e = .returned (.bool (decide (s.data.toList.take 2 = [87, 47]))) ∧ w = w' := by
  have hz := size_of s
  obtain ⟨r, hr⟩ : ∃ r, r = decide (s.data.toList.take 2 = [87, 47]) := ⟨_, rfl⟩
  rw [← hr]
  by_cases h2 : 2 ≤ s.size
  · have hx : ((s.extract 0 2).toList == [87, 47]) = r := by rw [ByteArray.toList_eq, extract_list, hr, Bool.eq_iff_iff, decide_eq_true_iff]; simp
    clear hr hz
    go_enter Tryd.func70, Tryd.ntmps70
    go_wp2
    go_ret
    exact ⟨rfl, rfl⟩
  · have hx : r = false := by
      rw [hr, decide_eq_false_iff_not]
      intro h
      have := congrArg List.length h
      rw [List.length_take] at this
      simp at this
      omega
    have HX := hide hx
    clear hr hz hx
    go_enter Tryd.func70, Tryd.ntmps70
    go_wp2
    go_ret
    exact ⟨ret_bool (by rw [HX.out]), rfl⟩
theorem weak_bytes (s : ByteArray) : (decide (s.data.toList.take 2 = [87, 47]) = true → (⟨(weakL s.data.toList).toArray⟩ : ByteArray) = s) ∧ (decide (s.data.toList.take 2 = [87, 47]) = false → (⟨(weakL s.data.toList).toArray⟩ : ByteArray) = ⟨#[87, 47]⟩ ++ s) := by
  constructor
  · intro h
    have h' := of_decide_eq_true h
    unfold weakL
    rw [if_pos h']
  · intro h
    have h' := of_decide_eq_false h
    unfold weakL
    rw [if_neg h']
    exact bytes_ext (by simp)
set_option maxRecDepth 100000 in
set_option maxHeartbeats 3200000 in
theorem weak_any (s : ByteArray) (w : World) (hs : s.size ≤ 1000000) :
    Calls Tryd.prog 38 #[.string s] w fun e w' => e = .returned (.string ⟨(weakL s.data.toList).toArray⟩) ∧ Below w.heap.size w w' := by
  have hw := wpre_any s w (by omega)
  obtain ⟨h1, h2⟩ := weak_bytes s
  rcases hp : decide (s.data.toList.take 2 = [87, 47]) with _ | _
  · rw [hp] at hw
    rw [h2 hp]
    clear h1 h2 hp
    go_enter Tryd.func38, Tryd.ntmps38
    go_wp2_with fail
    refine hw.mono ?_
    rintro e w1 ⟨rfl, rfl⟩
    go_wp2
    go_ret
    exact ⟨rfl, Below.refl _ _⟩
  · rw [hp] at hw
    rw [h1 hp]
    clear h1 h2 hp
    go_enter Tryd.func38, Tryd.ntmps38
    go_wp2_with fail
    refine hw.mono ?_
    rintro e w1 ⟨rfl, rfl⟩
    go_wp2
    go_ret
    exact ⟨rfl, Below.refl _ _⟩
set_option maxRecDepth 100000 in
set_option maxHeartbeats 3200000 in
theorem refweak_any (s : ByteArray) (w : World) (hs : s.size ≤ 1000000) :
    Calls Tryd.prog 39 #[.string s] w fun e w' => e = .returned (.string ⟨(weakL s.data.toList).toArray⟩) ∧ w = w' := by
  obtain ⟨k1, k2⟩ := weak_bytes s
  have hz := size_of s
  by_cases h2 : 2 ≤ s.size
  · rcases hp : decide (s.data.toList.take 2 = [87, 47]) with _ | _
    · have hx : ((s.extract 0 2).toList == [87, 47]) = false := by rw [ByteArray.toList_eq, extract_list, ← hp, Bool.eq_iff_iff, decide_eq_true_iff]; simp
      rw [k2 hp]
      clear k1 k2 hp hz
      go_enter Tryd.func39, Tryd.ntmps39
      go_wp2
      go_ret
      exact ⟨rfl, rfl⟩
    · have hx : ((s.extract 0 2).toList == [87, 47]) = true := by rw [ByteArray.toList_eq, extract_list, ← hp, Bool.eq_iff_iff, decide_eq_true_iff]; simp
      rw [k1 hp]
      clear k1 k2 hp hz
      go_enter Tryd.func39, Tryd.ntmps39
      go_wp2
      go_ret
      exact ⟨rfl, rfl⟩
  · have hx : decide (s.data.toList.take 2 = [87, 47]) = false := by
      rw [decide_eq_false_iff_not]
      intro h
      have := congrArg List.length h
      rw [List.length_take] at this
      simp at this
      omega
    rw [k2 hx]
    clear k1 k2 hx hz
    go_enter Tryd.func39, Tryd.ntmps39
    go_wp2
    go_ret
    exact ⟨rfl, rfl⟩
set_option maxRecDepth 100000 in
set_option maxHeartbeats 1600000 in
theorem ans23_any (w : World) : Calls Tryd.prog 15 #[] w fun e w' => e = .returned (.bool true) ∧ Below w.heap.size w w' := by
  have h1 := weak_any ⟨#[34, 120, 34]⟩ w (by decide)
  have e1 : (⟨(weakL (⟨#[34, 120, 34]⟩ : ByteArray).data.toList).toArray⟩ : ByteArray) = ⟨#[87, 47, 34, 120, 34]⟩ := by decide
  rw [e1] at h1
  have h2 := fun (W : World) => keeps_any 1 none 0 0 0 [] W Rd.nil_ (Nat.zero_le _) (by omega) (by intro f hf; cases hf)
  have e2 : keepsB 1 [] = true := by decide
  rw [e2] at h2
  clear e1 e2
  go_enter Tryd.func15, Tryd.ntmps15
  go_wp2_with fail
  refine h1.mono ?_
  rintro e w1 ⟨rfl, b1⟩
  go_wp2_with fail
  refine (h2 w1).mono ?_
  rintro e w2 ⟨rfl, b2⟩
  go_wp2
  go_ret
  exact ⟨rfl, b1.trans (b2.mono b1.size)⟩
end Go.Proofs.YtgdjlmpfjmakkaaDoor
