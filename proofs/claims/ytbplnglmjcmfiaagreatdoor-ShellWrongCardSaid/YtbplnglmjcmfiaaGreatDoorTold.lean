/- frame.number and the reference's length: a text as a length. -/
import Derived.Test.YtbplnglmjcmfiaaGreatDoorTrim
import Derived.Test.YtbplnglmjcmfiaaGreatDoorGets
import Derived.Test.YtbplnglmjcmfiaaGreatDoorTexts
import Derived.Test.YtbplnglmjcmfiaaGreatDoorAlloc
namespace Go.Proofs.YtbplnglmjcmfiaaGreatDoor
open Go.RowKit

/-- The ten digits. -/
def digs : List UInt8 := [48, 49, 50, 51, 52, 53, 54, 55, 56, 57]
def digB (c : UInt8) : Bool := digs.contains c
theorem digB_iff (c : UInt8) : digB c = true ↔ 48 ≤ c.toNat ∧ c.toNat ≤ 57 := by
  have h : ∀ n, n < 256 → digs.contains (UInt8.ofNat n) = decide (48 ≤ n ∧ n ≤ 57) := by decide +kernel
  have := h c.toNat c.toNat_lt
  rw [UInt8.ofNat_toNat] at this
  unfold digB
  rw [this]; simp
/-- What digits say. -/
def decV (l : List UInt8) : Nat := l.foldl (fun n c => 10 * n + (c.toNat - 48)) 0
theorem decV_snoc (l : List UInt8) (c : UInt8) : decV (l ++ [c]) = 10 * decV l + (c.toNat - 48) := by unfold decV; rw [List.foldl_append]; rfl
theorem decV_take (l : List UInt8) (k : Nat) (h : k < l.length) : decV (l.take (k + 1)) = 10 * decV (l.take k) + (l[k].toNat - 48) := by rw [list_take_snoc l k h, decV_snoc]
theorem decV_lt (l : List UInt8) (h : l.all digB = true) : ∀ k, k ≤ l.length → decV (l.take k) < 10 ^ k
  | 0, _ => by simp [decV]
  | k + 1, hk => by
    have ih := decV_lt l h k (by omega)
    have h2 : digB l[k] = true := List.all_eq_true.1 h _ (List.getElem_mem (by omega))
    rw [digB_iff] at h2
    rw [decV_take l k (by omega), Nat.pow_succ]
    omega
theorem dw_nil (p : UInt8 → Bool) : ∀ l : List UInt8, l.dropWhile p = [] ↔ ∀ x ∈ l, p x = true
  | [] => by simp
  | a :: l => by
    rw [List.dropWhile_cons]
    by_cases h : p a = true
    · rw [if_pos h, dw_nil p l]; simp [h]
    · rw [if_neg h]; simp [h]
/-- A text as a length: its number, and whether it is one. -/
def numL (l : List UInt8) : Nat × Bool := if 1 ≤ l.length ∧ l.length ≤ 15 ∧ l.all digB = true then (decV l, decide (decV l ≤ 1099511627776)) else (0, false)
theorem trim_nil (l : List UInt8) : Lib.trimS l digs = [] ↔ l.all digB = true := by
  constructor
  · intro h
    have h1 : (Lib.trimRightS l digs) = [] := by
      rcases hr : Lib.trimRightS l digs with _ | ⟨a, r⟩
      · rfl
      · exfalso
        have h2 : (l.reverse.dropWhile digB) = (a :: r).reverse := by
          have : (l.reverse.dropWhile digB).reverse = a :: r := hr
          rw [← this, List.reverse_reverse]
        have h3 : (a :: r).dropWhile digB = [] := by
          have : Lib.trimLeftS (Lib.trimRightS l digs) digs = [] := h
          rw [hr] at this; exact this
        have h4 : ∀ x ∈ (a :: r), digB x = true := by
          intro x hx
          have := (dw_nil digB _).1 h3 x hx
          exact this
        rcases hd : (a :: r).reverse with _ | ⟨b, t⟩
        · simp at hd
        · rw [hd] at h2
          have hb : digB b = true := h4 b (by rw [← List.mem_reverse, hd]; simp)
          have := List.head?_dropWhile_not digB l.reverse
          rw [h2] at this
          simp [hb] at this
    have h2 : l.reverse.dropWhile digB = [] := by
      have : (l.reverse.dropWhile digB).reverse = [] := h1
      simpa using this
    rw [List.all_eq_true]
    intro x hx
    exact (dw_nil digB _).1 h2 x (by simpa using hx)
  · intro h
    have h2 : l.reverse.dropWhile digB = [] := (dw_nil digB _).2 fun x hx => List.all_eq_true.1 h x (by simpa using hx)
    show Lib.trimLeftS ((l.reverse.dropWhile digB).reverse) digs = []
    rw [h2]; rfl
theorem decV_small (l : List UInt8) (k : Nat) (h : l.all digB = true) (hk : k ≤ l.length) (hl : l.length ≤ 15) : decV (l.take k) < 1000000000000000 := by
  have h2 := decV_lt l h k hk
  have h3 : 10 ^ k ≤ 10 ^ 15 := Nat.pow_le_pow_right (by decide) (by omega)
  omega
theorem digs_list : (⟨#[48, 49, 50, 51, 52, 53, 54, 55, 56, 57]⟩ : ByteArray).data.toList = digs := rfl

set_option maxRecDepth 100000 in
set_option maxHeartbeats 3200000 in
theorem number_any (s : ByteArray) (w : World) (hs : s.size ≤ 9223372036854775807) :
    Calls Tryz.prog 305 #[.string s] w fun e w' => e = .returned (.tuple #[.int .i64 (numL s.data.toList).1, .bool (numL s.data.toList).2]) ∧ Below w.heap.size w w' := by
  have hsz := size_of s
  by_cases h1 : 1 ≤ s.size ∧ s.size ≤ 15
  · have htr := Tryz.strings_Trim_ascii s ⟨#[48, 49, 50, 51, 52, 53, 54, 55, 56, 57]⟩ w (by omega) (by decide) (fun j b h => by
      have hb : b ∈ digs := List.mem_of_getElem? h
      simp [digs] at hb; rcases hb with rfl | rfl | rfl | rfl | rfl | rfl | rfl | rfl | rfl | rfl <;> decide)
    rw [digs_list] at htr
    by_cases hall : s.data.toList.all digB = true
    · have hnil := (trim_nil s.data.toList).2 hall
      rw [hnil] at htr
      have hnum : numL s.data.toList = (decV s.data.toList, decide (decV s.data.toList ≤ 1099511627776)) := by unfold numL; rw [if_pos ⟨by omega, by omega, hall⟩]
      have hsm := fun k hk => decV_small s.data.toList k hall hk (by omega)
      have hdg := List.all_eq_true.1 hall
      rw [hnum]
      have hcv := fun w => run_bytes_of_string (P := Tryz.prog) w 9 22 5 s Tryz.underlying9 Tryz.underlying22 Tryz.underlying5
      have HS := hide hsm
      have HD := hide hdg
      have HZ := hide hsz
      clear hnum hnil hall hsm hdg hsz
      go_enter Tryz.func305, Tryz.ntmps305
      go_wp2_with fail
      refine htr.mono ?_
      rintro e w1 ⟨rfl, b1⟩
      obtain ⟨c, hc⟩ : ∃ c, c = grownCap w1 s.size 0 5 := ⟨_, rfl⟩
      have hc1 : s.size ≤ c := by rw [hc]; exact grownCap_ge _ _ _ _
      have hc2 : c ≤ maxLen := by rw [hc]; exact grownCap_le_maxLen _ _ _ _ (by simp [maxLen]; omega)
      have hcv1 := hcv w1
      rw [← hc] at hcv1
      have ho := ow_of_string w1 5 s c hc1 hc2
      clear hcv hc htr
      go_wp2_with fail
      go_loopw [4, 23] (fun v i wr => ∃ k : Nat, k ≤ s.size ∧ i = .int .i64 k ∧ v = .int .i64 (decV (s.data.toList.take k)) ∧ Ow wr w1.heap.size 1 (.slice (some ⟨w1.heap.size, 0, none⟩) s.size c) s.size (s.data.toList.map fun b => .int .u8 b.toNat) ∧ Below w.heap.size w wr) (fun _ i _ => s.size - (intOf i).toNat)
      case atStart => exact ⟨0, Nat.zero_le _, rfl, rfl, ho, b1.drew.alloc b1.size _⟩
      case round =>
        clear ho hcv1
        obtain ⟨k, hk, rfl, rfl, ho, hb⟩ := hrel
        have hsk := HS.out k (by have := HZ.out; omega)
        by_cases hlt : k < s.size
        · obtain ⟨g, off, hA, -, hg2, hcell, hfr⟩ := ho.at_ (j := k) (by omega)
          cases hA
          have hkl : k < s.data.toList.length := by have := HZ.out; omega
          have hdv := decV_take s.data.toList k hkl
          have hdg := (digB_iff _).1 (HD.out _ (List.getElem_mem hkl))
          rw [List.getElem?_map, List.getElem?_eq_getElem hkl, Option.map_some] at hcell
          obtain ⟨b, hbb⟩ : ∃ b, b = s.data.toList[k] := ⟨_, rfl⟩
          rw [← hbb] at hcell hdv hdg
          simp only [Nat.zero_add] at hcell
          obtain ⟨q, hq⟩ : ∃ q, q = decV (s.data.toList.take k) := ⟨_, rfl⟩
          rw [← hq] at hdv hsk ⊢
          have HV := hide hdv
          clear hbb hkl hdv hq
          go_wp2
          go_roundw
          case rel => exact ⟨k + 1, by omega, by go_num, by rw [HV.out]; exact congrArg (Value.int .i64) (by omega), ho, hb⟩
          case measure => simp [intOf]; omega
        · have hfin : s.data.toList.take k = s.data.toList := List.take_of_length_le (by have := HZ.out; omega)
          rw [hfin] at hsk ⊢
          clear hfin ho
          go_wp2
          go_ret2
          exact ⟨by simp; omega, hb⟩
    · have hnil : ¬ Lib.trimS s.data.toList digs = [] := fun h => hall ((trim_nil s.data.toList).1 h)
      have hne : (⟨(Lib.trimS s.data.toList digs).toArray⟩ : ByteArray).toList.isEmpty = false := by rw [ByteArray.toList_eq]; simpa using hnil
      have hnum : numL s.data.toList = (0, false) := by unfold numL; rw [if_neg (fun h => hall h.2.2)]
      rw [hnum]
      obtain ⟨r, hr⟩ : ∃ r : ByteArray, r = ⟨(Lib.trimS s.data.toList digs).toArray⟩ := ⟨_, rfl⟩
      rw [← hr] at htr hne
      clear hr hnil hnum hall hsz
      go_enter Tryz.func305, Tryz.ntmps305
      go_wp2_with fail
      refine htr.mono ?_
      rintro e w1 ⟨rfl, b1⟩
      go_wp2
      go_ret2
      exact ⟨rfl, b1⟩
  · have hnum : numL s.data.toList = (0, false) := by unfold numL; rw [if_neg (fun h => h1 ⟨by omega, by omega⟩)]
    rw [hnum]
    clear hnum hsz
    by_cases h0 : s.size < 1
    · go_enter Tryz.func305, Tryz.ntmps305
      go_wp2
      go_ret2
      exact ⟨rfl, Below.refl _ _⟩
    · have h2 : 15 < s.size := by omega
      clear h1
      go_enter Tryz.func305, Tryz.ntmps305
      go_wp2
      go_ret2
      exact ⟨rfl, Below.refl _ _⟩

end Go.Proofs.YtbplnglmjcmfiaaGreatDoor

/- frame.told and the reference's framing: how a body's end is told. -/
namespace Go.Proofs.YtbplnglmjcmfiaaGreatDoor
open Go.RowKit

def nameTE : List UInt8 := [116, 114, 97, 110, 115, 102, 101, 114, 45, 101, 110, 99, 111, 100, 105, 110, 103]
def nameCL : List UInt8 := [99, 111, 110, 116, 101, 110, 116, 45, 108, 101, 110, 103, 116, 104]
def chunkedL : List UInt8 := [99, 104, 117, 110, 107, 101, 100]
/-- Of the values of two names: kind, length, error. -/
def toldL (T L : List (List UInt8)) (minor : Int) (o : Nat) : Nat × Nat × Nat :=
  if 0 < T.length then (if T.length = 1 ∧ sameL (T.headD []) chunkedL = true ∧ minor ≠ 0 ∧ L.length = 0 then (2, 0, 0) else (0, 0, 2))
  else if 0 < L.length then (if L.length = 1 ∧ (numL (L.headD [])).2 = true then (1, (numL (L.headD [])).1, 0) else (0, 0, 2)) else (o, 0, 0)
/-- What is told: the result's value. -/
def frV (t : Nat × Nat × Nat) : Value := .tuple #[.agg #[.int .i64 t.1, .int .i64 t.2.1], .int .i64 t.2.2]
theorem lowL_idem (l : List UInt8) : lowL (lowL l) = lowL l := by
  unfold lowL; rw [List.map_map]
  refine List.map_congr_left fun c _ => ?_
  by_cases h : 65 ≤ c.toNat ∧ c.toNat ≤ 90
  · have h1 := lowB_hit c h
    exact lowB_miss _ (by omega)
  · have h1 : lowB c = c := lowB_miss c h
    show lowB (lowB c) = lowB c
    rw [h1, h1]
theorem getL_low (fs : List (List UInt8 × List UInt8)) (name : List UInt8) : getL fs (lowL name) = getL fs name := by
  have h1 : ∀ x : List UInt8, sameL x (lowL name) = sameL x name := fun x => by unfold sameL; rw [lowL_idem]
  unfold getL
  simp only [h1]
theorem head_of {T : List (List UInt8)} (h : 0 < T.length) : T[0] = T.headD [] := by cases T with | nil => simp at h | cons a l => rfl

theorem new_free {w w2 : World} {cs : Array Value} {t : TypeId} {n i : Nat} (h : Below n (w.alloc (.cells cs t)) w2) (hn : n = w.heap.size + 1) : w2.frozen? ⟨w.heap.size, i, none⟩ = false := by
  rw [World.frozen?_of_block (a := ⟨w.heap.size, i, none⟩) (h.block w.heap.size (by omega))]
  unfold World.frozen?
  rw [heap_alloc_new]
  simp

theorem results_fr {fn : Func} {p u : Tmp} (h : fn.results = #[.cell p 57, .tmp u]) (tmps : Array Value) (w2 : World) (g : Nat) (x y e : Value) (a0 a1 : Value) (h0 : w2.cell? ⟨g, 0, none⟩ = some a0) (h1 : w2.cell? ⟨g, 1, none⟩ = some a1)
    (hp : tmps.getD p undef = .pointer (some ⟨g, 0, none⟩)) (hu : tmps.getD u undef = e) :
    (results fn tmps).run Tryz.prog ((w2.setCell ⟨g, 0, none⟩ x).setCell ⟨g, 1, none⟩ y) = .ok (.tuple #[.agg #[x, y], e]) ((w2.setCell ⟨g, 0, none⟩ x).setCell ⟨g, 1, none⟩ y) := by
  have k0 : (w2.setCell ⟨g, 0, none⟩ x).cell? ⟨g, 0, none⟩ = some x := World.cell?_setCell_same' w2 _ _ (by rw [h0]; rfl)
  have k1 : ((w2.setCell ⟨g, 0, none⟩ x).setCell ⟨g, 1, none⟩ y).cell? ⟨g, 1, none⟩ = some y := World.cell?_setCell_same' _ _ _ (by rw [World.cell?_setCell_other _ _ _ _ (by simp), h1]; rfl)
  have hp' : tmps[p]?.getD undef = .pointer (some ⟨g, 0, none⟩) := by simpa using hp
  have hu' : tmps[u]?.getD undef = e := by simpa using hu
  simp [results, h, hp', hu', go_sem, k0, k1]

set_option maxRecDepth 100000 in
set_option maxHeartbeats 3200000 in
theorem told_any (A : Option Addr) (n c B : Nat) (fs : List (List UInt8 × List UInt8)) (minor : Int) (o : Nat) (w : World) (h : Rd w B 2 A n (fcells fs)) (hB : B ≤ w.heap.size) (hn : n ≤ 1000000) (hok : fsOk fs) :
    Calls Tryz.prog 238 #[.slice A n c, .int .i64 minor, .int .i64 o] w fun e w' => e = .returned (frV (toldL (getL fs nameTE) (getL fs nameCL) minor o)) ∧ Below w.heap.size w w' := by
  have q1 := fun (W : World) (b : Below w.heap.size w W) => get_any A n c B fs ⟨#[84, 114, 97, 110, 115, 102, 101, 114, 45, 69, 110, 99, 111, 100, 105, 110, 103]⟩ W (h.below (b.mono hB)) (Nat.le_trans hB b.size) hn hok (by decide)
  have q2 := fun (W : World) (b : Below w.heap.size w W) => get_any A n c B fs ⟨#[67, 111, 110, 116, 101, 110, 116, 45, 76, 101, 110, 103, 116, 104]⟩ W (h.below (b.mono hB)) (Nat.le_trans hB b.size) hn hok (by decide)
  have e1 : getL fs (⟨#[84, 114, 97, 110, 115, 102, 101, 114, 45, 69, 110, 99, 111, 100, 105, 110, 103]⟩ : ByteArray).data.toList = getL fs nameTE := (getL_low fs _).symm
  have e2 : getL fs (⟨#[67, 111, 110, 116, 101, 110, 116, 45, 76, 101, 110, 103, 116, 104]⟩ : ByteArray).data.toList = getL fs nameCL := (getL_low fs _).symm
  rw [e1] at q1
  rw [e2] at q2
  have hmT : ∀ v ∈ getL fs nameTE, v.length ≤ 1000000 := by intro v hv; obtain ⟨f, hf, rfl⟩ := List.mem_map.1 hv; exact (hok f (List.mem_filter.1 hf).1).2
  have hmL : ∀ v ∈ getL fs nameCL, v.length ≤ 1000000 := by intro v hv; obtain ⟨f, hf, rfl⟩ := List.mem_map.1 hv; exact (hok f (List.mem_filter.1 hf).1).2
  obtain ⟨T, hT⟩ : ∃ T, T = getL fs nameTE := ⟨_, rfl⟩
  obtain ⟨L, hL⟩ : ∃ L, L = getL fs nameCL := ⟨_, rfl⟩
  rw [← hT, ← hL]
  rw [← hT] at q1 hmT
  rw [← hL] at q2 hmL
  obtain ⟨nT, hnT⟩ : ∃ m, T.length = m := ⟨_, rfl⟩
  obtain ⟨nL, hnL⟩ : ∃ m, L.length = m := ⟨_, rfl⟩
  have hv : toldL T L minor o = if 0 < nT then (if nT = 1 ∧ sameL (T.headD []) chunkedL = true ∧ minor ≠ 0 ∧ nL = 0 then (2, 0, 0) else (0, 0, 2))
    else if 0 < nL then (if nL = 1 ∧ (numL (L.headD [])).2 = true then (1, (numL (L.headD [])).1, 0) else (0, 0, 2)) else (o, 0, 0) := by rw [← hnT, ← hnL]; rfl
  rw [hnT] at q1
  rw [hnL] at q2
  obtain ⟨r, hr⟩ : ∃ r, r = toldL T L minor o := ⟨_, rfl⟩
  rw [← hr] at hv ⊢
  have HV := hide hv
  have HNT := hide hnT
  have HNL := hide hnL
  have HMT := hide hmT
  have HML := hide hmL
  clear hr hv hnT hnL e1 e2 hmT hmL hT hL
  go_enter Tryz.func238, Tryz.ntmps238
  go_wp2_with fail
  refine (q1 _ ((Below.refl _ _).alloc (Nat.le_refl _) _)).mono ?_
  rintro e w1 ⟨A1, c1, rfl, o1, hc1, b1⟩
  have t1 : Below w.heap.size w w1 := ((Below.refl _ _).alloc (Nat.le_refl _) _).trans (b1.mono (by simp))
  have k10 : w1.cell? ⟨w.heap.size, 0, none⟩ = some (.int .i64 0) := new_kept (i := 0) b1 (by simp) rfl
  have k11 : w1.cell? ⟨w.heap.size, 1, none⟩ = some (.int .i64 0) := new_kept (i := 1) b1 (by simp) rfl
  have f10 := new_free (i := 0) b1 (by simp)
  have f11 := new_free (i := 1) b1 (by simp)
  go_wp2_with fail
  refine (q2 _ t1).mono ?_
  rintro e w2 ⟨A2, c2, rfl, o2, hc2, b2⟩
  have hsz1 : w.heap.size < w1.heap.size := World.block_lt_of_cell? w1 _ k10
  have k20 := (b2.cell (p := ⟨w.heap.size, 0, none⟩) hsz1).trans k10
  have k21 := (b2.cell (p := ⟨w.heap.size, 1, none⟩) hsz1).trans k11
  have r1 := (Rd.of_own o1).below b2
  have r2 := Rd.of_own o2
  have t2 := t1.trans (b2.mono t1.size)
  have f20 : w2.frozen? ⟨w.heap.size, 0, none⟩ = false := by rw [World.frozen?_of_block (a := ⟨w.heap.size, 0, none⟩) (b2.block w.heap.size hsz1)]; exact f10
  have f21 : w2.frozen? ⟨w.heap.size, 1, none⟩ = false := by rw [World.frozen?_of_block (a := ⟨w.heap.size, 1, none⟩) (b2.block w.heap.size hsz1)]; exact f11
  clear k10 k11 f10 f11 b1 b2 t1 q1 q2 o1 o2 h hok
  by_cases hT0 : 0 < nT
  · by_cases hT1 : nT = 1
    · have hl0 : 0 < T.length := by have := HNT.out; omega
      obtain ⟨a, rfl, -, hcell⟩ := r1.text (k := 0) hT0 hl0
      have hsl := HMT.out _ (List.getElem_mem hl0)
      have hhd := head_of hl0
      rw [hhd] at hcell hsl
      rw [Addr.add_zero'] at hcell
      obtain ⟨x, hx⟩ : ∃ x, x = T.headD [] := ⟨_, rfl⟩
      rw [← hx] at hcell hsl
      have HX := hide hx
      have hsm := fieldsame_any ⟨x.toArray⟩ ⟨#[99, 104, 117, 110, 107, 101, 100]⟩ w2 (by rw [mk_size]; omega) (by decide)
      rw [mk_list, show (⟨#[99, 104, 117, 110, 107, 101, 100]⟩ : ByteArray).data.toList = chunkedL from rfl] at hsm
      obtain ⟨s0, hs0⟩ : ∃ s0 : ByteArray, s0 = ⟨x.toArray⟩ := ⟨_, rfl⟩
      rw [← hs0] at hcell hsm
      clear hs0 hhd hsl hx r1 r2
      subst hT1
      rcases hcase : sameL x chunkedL with _ | _
      · rw [hcase] at hsm
        have HC := hide hcase
        clear hcase
        go_wp2_with fail
        refine hsm.mono ?_
        rintro e w3 ⟨rfl, b3⟩
        have hsz2 : w.heap.size < w2.heap.size := World.block_lt_of_cell? w2 _ k20
        have k30 := (b3.cell (p := ⟨w.heap.size, 0, none⟩) hsz2).trans k20
        have k31 := (b3.cell (p := ⟨w.heap.size, 1, none⟩) hsz2).trans k21
        have f30 : w3.frozen? ⟨w.heap.size, 0, none⟩ = false := by rw [World.frozen?_of_block (a := ⟨w.heap.size, 0, none⟩) (b3.block w.heap.size hsz2)]; exact f20
        have f31 : w3.frozen? ⟨w.heap.size, 1, none⟩ = false := by rw [World.frozen?_of_block (a := ⟨w.heap.size, 1, none⟩) (b3.block w.heap.size hsz2)]; exact f21
        have t3 := t2.trans (b3.mono t2.size)
        clear b3 t2 k20 k21 f20 f21
        go_wp2
        refine bodyPost_ret (v := frV (0, 0, 2)) (results_fr Tryz.results238 _ w3 _ _ _ _ _ _ k30 k31 rfl rfl) rfl ?_
        exact ⟨by rw [HV.out, if_pos hT0, if_neg (by rw [← HX.out, HC.out]; simp)] <;> rfl, (t3.setCell (Nat.le_refl _) _).setCell (Nat.le_refl _) _⟩
      · rw [hcase] at hsm
        have HC := hide hcase
        clear hcase
        go_wp2_with fail
        refine hsm.mono ?_
        rintro e w3 ⟨rfl, b3⟩
        have hsz2 : w.heap.size < w2.heap.size := World.block_lt_of_cell? w2 _ k20
        have k30 := (b3.cell (p := ⟨w.heap.size, 0, none⟩) hsz2).trans k20
        have k31 := (b3.cell (p := ⟨w.heap.size, 1, none⟩) hsz2).trans k21
        have f30 : w3.frozen? ⟨w.heap.size, 0, none⟩ = false := by rw [World.frozen?_of_block (a := ⟨w.heap.size, 0, none⟩) (b3.block w.heap.size hsz2)]; exact f20
        have f31 : w3.frozen? ⟨w.heap.size, 1, none⟩ = false := by rw [World.frozen?_of_block (a := ⟨w.heap.size, 1, none⟩) (b3.block w.heap.size hsz2)]; exact f21
        have t3 := t2.trans (b3.mono t2.size)
        clear b3 t2 k20 k21 f20 f21
        by_cases hm : minor = 0
        · subst hm
          go_wp2
          refine bodyPost_ret (v := frV (0, 0, 2)) (results_fr Tryz.results238 _ w3 _ _ _ _ _ _ k30 k31 rfl rfl) rfl ?_
          exact ⟨by rw [HV.out, if_pos hT0, if_neg (by simp)] <;> rfl, (t3.setCell (Nat.le_refl _) _).setCell (Nat.le_refl _) _⟩
        · have hm' : (minor == 0) = false := by simpa using hm
          by_cases hL : 0 < nL
          · have HM := hide hm
            clear hm
            go_wp2
            refine bodyPost_ret (v := frV (0, 0, 2)) (results_fr Tryz.results238 _ w3 _ _ _ _ _ _ k30 k31 rfl rfl) rfl ?_
            exact ⟨by rw [HV.out, if_pos hT0, if_neg (by omega)] <;> rfl, (t3.setCell (Nat.le_refl _) _).setCell (Nat.le_refl _) _⟩
          · obtain rfl : nL = 0 := by omega
            have HM := hide hm
            clear hm
            go_wp2
            refine bodyPost_ret (v := frV (2, 0, 0)) (results_fr Tryz.results238 _ w3 _ _ _ _ _ _ k30 k31 rfl rfl) rfl ?_
            exact ⟨by rw [HV.out, if_pos hT0, if_pos (by refine ⟨?_, ?_, ?_, ?_⟩ <;> first | trivial | exact HM.out | rw [← HX.out, HC.out])] <;> rfl, (t3.setCell (Nat.le_refl _) _).setCell (Nat.le_refl _) _⟩
    · have hT2 : 1 < nT := by omega
      clear r1 r2 hT1
      go_wp2
      refine bodyPost_ret (v := frV (0, 0, 2)) (results_fr Tryz.results238 _ w2 _ _ _ _ _ _ k20 k21 rfl rfl) rfl ?_
      exact ⟨by rw [HV.out, if_pos hT0, if_neg (by omega)] <;> rfl, (t2.setCell (Nat.le_refl _) _).setCell (Nat.le_refl _) _⟩
  · obtain rfl : nT = 0 := by omega
    by_cases hL0 : 0 < nL
    · have hl0 : 0 < L.length := by have := HNL.out; omega
      by_cases hL1 : nL = 1
      · subst hL1
        obtain ⟨a, rfl, -, hcell⟩ := r2.text (k := 0) hL0 hl0
        have hsl := HML.out _ (List.getElem_mem hl0)
        have hhd := head_of hl0
        rw [hhd] at hcell hsl
        rw [Addr.add_zero'] at hcell
        obtain ⟨x, hx⟩ : ∃ x, x = L.headD [] := ⟨_, rfl⟩
        rw [← hx] at hcell hsl
        have HX := hide hx
        have hnm := number_any ⟨x.toArray⟩ w2 (by rw [mk_size]; omega)
        rw [mk_list] at hnm
        obtain ⟨s0, hs0⟩ : ∃ s0 : ByteArray, s0 = ⟨x.toArray⟩ := ⟨_, rfl⟩
        rw [← hs0] at hcell hnm
        obtain ⟨nv, hnv⟩ : ∃ nv, nv = (numL x).1 := ⟨_, rfl⟩
        rw [← hnv] at hnm
        have HN := hide hnv
        clear hs0 hhd hsl hx r1 r2 hnv
        rcases hcase : (numL x).2 with _ | _
        · rw [hcase] at hnm
          have HC := hide hcase
          clear hcase
          go_wp2_with fail
          refine hnm.mono ?_
          rintro e w3 ⟨rfl, b3⟩
          have hsz2 : w.heap.size < w2.heap.size := World.block_lt_of_cell? w2 _ k20
          have k30 := (b3.cell (p := ⟨w.heap.size, 0, none⟩) hsz2).trans k20
          have k31 := (b3.cell (p := ⟨w.heap.size, 1, none⟩) hsz2).trans k21
          have f30 : w3.frozen? ⟨w.heap.size, 0, none⟩ = false := by rw [World.frozen?_of_block (a := ⟨w.heap.size, 0, none⟩) (b3.block w.heap.size hsz2)]; exact f20
          have f31 : w3.frozen? ⟨w.heap.size, 1, none⟩ = false := by rw [World.frozen?_of_block (a := ⟨w.heap.size, 1, none⟩) (b3.block w.heap.size hsz2)]; exact f21
          have t3 := t2.trans (b3.mono t2.size)
          clear b3 t2 k20 k21 f20 f21
          go_wp2
          refine bodyPost_ret (v := frV (0, 0, 2)) (results_fr Tryz.results238 _ w3 _ _ _ _ _ _ k30 k31 rfl rfl) rfl ?_
          exact ⟨by rw [HV.out, if_neg (by omega), if_pos (by omega), if_neg (by rw [← HX.out, HC.out]; simp)] <;> rfl, (t3.setCell (Nat.le_refl _) _).setCell (Nat.le_refl _) _⟩
        · rw [hcase] at hnm
          have HC := hide hcase
          clear hcase
          go_wp2_with fail
          refine hnm.mono ?_
          rintro e w3 ⟨rfl, b3⟩
          have hsz2 : w.heap.size < w2.heap.size := World.block_lt_of_cell? w2 _ k20
          have k30 := (b3.cell (p := ⟨w.heap.size, 0, none⟩) hsz2).trans k20
          have k31 := (b3.cell (p := ⟨w.heap.size, 1, none⟩) hsz2).trans k21
          have f30 : w3.frozen? ⟨w.heap.size, 0, none⟩ = false := by rw [World.frozen?_of_block (a := ⟨w.heap.size, 0, none⟩) (b3.block w.heap.size hsz2)]; exact f20
          have f31 : w3.frozen? ⟨w.heap.size, 1, none⟩ = false := by rw [World.frozen?_of_block (a := ⟨w.heap.size, 1, none⟩) (b3.block w.heap.size hsz2)]; exact f21
          have t3 := t2.trans (b3.mono t2.size)
          clear b3 t2 k20 k21 f20 f21
          go_wp2
          refine bodyPost_ret (v := frV (1, nv, 0)) (results_fr Tryz.results238 _ w3 _ _ _ _ _ _ k30 k31 rfl rfl) rfl ?_
          exact ⟨by rw [HV.out, if_neg (by omega), if_pos (by omega), if_pos (by refine ⟨?_, ?_⟩ <;> first | trivial | rw [← HX.out, HC.out]), HN.out, HX.out] <;> rfl, (t3.setCell (Nat.le_refl _) _).setCell (Nat.le_refl _) _⟩
      · have hL2 : 1 < nL := by omega
        clear r1 r2 hL1 hl0
        go_wp2
        refine bodyPost_ret (v := frV (0, 0, 2)) (results_fr Tryz.results238 _ w2 _ _ _ _ _ _ k20 k21 rfl rfl) rfl ?_
        exact ⟨by rw [HV.out, if_neg (by omega), if_pos hL0, if_neg (by omega)] <;> rfl, (t2.setCell (Nat.le_refl _) _).setCell (Nat.le_refl _) _⟩
    · obtain rfl : nL = 0 := by omega
      clear r1 r2
      go_wp2
      refine bodyPost_ret (v := frV (o, 0, 0)) (results_fr Tryz.results238 _ w2 _ _ _ _ _ _ k20 k21 rfl rfl) rfl ?_
      exact ⟨by rw [HV.out, if_neg (by omega), if_neg (by omega)] <;> rfl, (t2.setCell (Nat.le_refl _) _).setCell (Nat.le_refl _) _⟩

end Go.Proofs.YtbplnglmjcmfiaaGreatDoor

/- frame.OfRequest, OfResponse, Empty and the reference's; concertinalaw19.answers. -/
namespace Go.Proofs.YtbplnglmjcmfiaaGreatDoor
open Go.RowKit

def frOf (fs : List (List UInt8 × List UInt8)) (minor : Int) (o : Nat) : Nat × Nat × Nat := toldL (getL fs nameTE) (getL fs nameCL) minor o
theorem World.free_below {B : Nat} {w w' : World} (b : Below B w w') {a : Addr} (ha : a.block < B) : w'.frozen? a = w.frozen? a := World.frozen?_of_block (b.block a.block ha)

theorem new2_kept {w w2 : World} {o1 : Obj} {cs : Array Value} {t : TypeId} {n i : Nat} {v : Value} (h : Below n ((w.alloc o1).alloc (.cells cs t)) w2) (hn : n = w.heap.size + 2) (hi : cs[i]? = some v) : w2.cell? ⟨w.heap.size + 1, i, none⟩ = some v := by
  have hs : (w.alloc o1).heap.size = w.heap.size + 1 := by simp
  have := new_kept (w := w.alloc o1) h (by rw [hs]; exact hn) hi
  rwa [hs] at this
theorem new2_free {w w2 : World} {o1 : Obj} {cs : Array Value} {t : TypeId} {n i : Nat} (h : Below n ((w.alloc o1).alloc (.cells cs t)) w2) (hn : n = w.heap.size + 2) : w2.frozen? ⟨w.heap.size + 1, i, none⟩ = false := by
  have hs : (w.alloc o1).heap.size = w.heap.size + 1 := by simp
  have := new_free (w := w.alloc o1) (i := i) h (by rw [hs]; exact hn)
  rwa [hs] at this
theorem below_alloc2 (w : World) (o1 o2 : Obj) : Below w.heap.size w ((w.alloc o1).alloc o2) := ((Below.refl _ w).alloc (Nat.le_refl _) o1).alloc (by simp) o2
theorem old2 {w w2 : World} {o1 o2 : Obj} {n : Nat} {a : Addr} {v : Value} (h : Below n ((w.alloc o1).alloc o2) w2) (hn : n = w.heap.size + 2) (ha : a.block < w.heap.size) (hc : w.cell? a = some v) : w2.cell? a = some v := by
  rw [h.cell (p := a) (by omega), (below_alloc2 w o1 o2).cell ha]; exact hc

set_option maxRecDepth 100000 in
set_option maxHeartbeats 3200000 in
theorem ofreq_any (m t : ByteArray) (minor : Int) (A : Option Addr) (n c B : Nat) (fs : List (List UInt8 × List UInt8)) (w : World) (h : Rd w B 2 A n (fcells fs)) (hB : B ≤ w.heap.size) (hn : n ≤ 1000000) (hok : fsOk fs) :
    Calls Tryz.prog 173 #[.agg #[.string m, .string t, .int .i64 minor, .slice A n c]] w fun e w' => e = .returned (frV (frOf fs minor 0)) ∧ Below w.heap.size w w' := by
  have q := fun (W : World) (b : Below w.heap.size w W) => told_any A n c B fs minor 0 W (h.below (b.mono hB)) (Nat.le_trans hB b.size) hn hok
  obtain ⟨r, hr⟩ : ∃ r, r = frOf fs minor 0 := ⟨_, rfl⟩
  rw [← hr]
  change ∀ W, _ → Calls _ _ _ _ (fun e w' => e = .returned (frV (frOf fs minor 0)) ∧ _) at q
  rw [← hr] at q
  obtain ⟨x, y, z⟩ := r
  simp only [frV] at q ⊢
  clear h hok hr
  go_enter Tryz.func173, Tryz.ntmps173
  go_wp2_with fail
  refine (q _ (below_alloc2 _ _ _)).mono ?_
  rintro e w3 ⟨rfl, b3⟩
  have k0 : w3.cell? ⟨w.heap.size + 1, 0, none⟩ = some (.int .i64 0) := new2_kept b3 (by simp) rfl
  have k1 : w3.cell? ⟨w.heap.size + 1, 1, none⟩ = some (.int .i64 0) := new2_kept b3 (by simp) rfl
  have f0 : w3.frozen? ⟨w.heap.size + 1, 0, none⟩ = false := new2_free b3 (by simp)
  have f1 : w3.frozen? ⟨w.heap.size + 1, 1, none⟩ = false := new2_free b3 (by simp)
  have t3 := (below_alloc2 _ _ _).trans (b3.mono (by simp; omega))
  clear b3
  go_wp2
  refine bodyPost_ret (v := frV (x, y, z)) (results_fr Tryz.results173 _ w3 _ _ _ _ _ _ k0 k1 rfl rfl) rfl ?_
  exact ⟨rfl, (t3.setCell (by simp) _).setCell (by simp) _⟩

/-- Has a response to a method never a body? -/
def emptyB (m : ByteArray) (status : Int) : Bool := (m.toList == [72, 69, 65, 68]) || decide (status < 200) || status == 204 || status == 304
set_option maxRecDepth 100000 in
theorem empty_any (m : ByteArray) (status : Int) (w : World) : Calls Tryz.prog 314 #[.string m, .int .i64 status] w fun e w' => e = .returned (.bool (emptyB m status)) ∧ w = w' := by
  obtain ⟨r, hr⟩ : ∃ r, r = emptyB m status := ⟨_, rfl⟩
  rw [← hr]
  rcases h1 : (m.toList == [72, 69, 65, 68]) with _ | _
  · by_cases h2 : status < 200
    · have HV := hide (show r = true by rw [hr]; unfold emptyB; rw [h1]; simp [h2])
      clear hr
      go_enter Tryz.func314, Tryz.ntmps314
      go_wp2
      go_ret
      exact ⟨ret_bool (by rw [HV.out]), rfl⟩
    · by_cases h3 : status = 204
      · subst h3
        have HV := hide (show r = true by rw [hr]; unfold emptyB; rw [h1]; simp)
        clear hr
        go_enter Tryz.func314, Tryz.ntmps314
        go_wp2
        go_ret
        exact ⟨ret_bool (by rw [HV.out]), rfl⟩
      · by_cases h4 : status = 304
        · subst h4
          have HV := hide (show r = true by rw [hr]; unfold emptyB; rw [h1]; simp)
          clear hr
          go_enter Tryz.func314, Tryz.ntmps314
          go_wp2
          go_ret
          exact ⟨ret_bool (by rw [HV.out]), rfl⟩
        · have HV := hide (show r = false by rw [hr]; unfold emptyB; rw [h1]; simp [h2, h3, h4])
          have h3' : (status == 204) = false := by simpa using h3
          have h4' : (status == 304) = false := by simpa using h4
          clear hr h3 h4
          go_enter Tryz.func314, Tryz.ntmps314
          go_wp2
          go_ret
          exact ⟨ret_bool (by rw [HV.out]), rfl⟩
  · have HV := hide (show r = true by rw [hr]; unfold emptyB; rw [h1]; simp)
    clear hr
    go_enter Tryz.func314, Tryz.ntmps314
    go_wp2
    go_ret
    exact ⟨ret_bool (by rw [HV.out]), rfl⟩
def frResp (m : ByteArray) (fs : List (List UInt8 × List UInt8)) (minor status : Int) : Nat × Nat × Nat := if emptyB m status then (0, 0, 0) else frOf fs minor 3
set_option maxRecDepth 100000 in
set_option maxHeartbeats 3200000 in
theorem ofresp_any (m s : ByteArray) (minor status : Int) (A : Option Addr) (n c B : Nat) (fs : List (List UInt8 × List UInt8)) (w : World) (h : Rd w B 2 A n (fcells fs)) (hB : B ≤ w.heap.size) (hn : n ≤ 1000000) (hok : fsOk fs) :
    Calls Tryz.prog 254 #[.string m, .agg #[.int .i64 minor, .int .i64 status, .string s, .slice A n c]] w fun e w' => e = .returned (frV (frResp m fs minor status)) ∧ Below w.heap.size w w' := by
  have q := fun (W : World) (b : Below w.heap.size w W) => told_any A n c B fs minor 3 W (h.below (b.mono hB)) (Nat.le_trans hB b.size) hn hok
  have qe := fun (W : World) => empty_any m status W
  unfold frResp
  obtain ⟨r, hr⟩ : ∃ r, r = frOf fs minor 3 := ⟨_, rfl⟩
  rw [← hr]
  change ∀ W, _ → Calls _ _ _ _ (fun e w' => e = .returned (frV (frOf fs minor 3)) ∧ _) at q
  rw [← hr] at q
  obtain ⟨x, y, z⟩ := r
  simp only [frV] at q
  clear h hok hr
  rcases hE : emptyB m status with _ | _
  · rw [if_neg (by simp)]
    rw [hE] at qe
    clear hE
    go_enter Tryz.func254, Tryz.ntmps254
    go_wp2_with fail
    refine (qe _).mono ?_
    rintro e w2 ⟨rfl, rfl⟩
    clear qe
    go_wp2_with fail
    refine (q _ (below_alloc2 _ _ _)).mono ?_
    rintro e w3 ⟨rfl, b3⟩
    have k0 : w3.cell? ⟨w.heap.size + 1, 0, none⟩ = some (.int .i64 0) := new2_kept b3 (by simp) rfl
    have k1 : w3.cell? ⟨w.heap.size + 1, 1, none⟩ = some (.int .i64 0) := new2_kept b3 (by simp) rfl
    have f0 : w3.frozen? ⟨w.heap.size + 1, 0, none⟩ = false := new2_free b3 (by simp)
    have f1 : w3.frozen? ⟨w.heap.size + 1, 1, none⟩ = false := new2_free b3 (by simp)
    have t3 := (below_alloc2 _ _ _).trans (b3.mono (by simp; omega))
    clear b3
    go_wp2
    refine bodyPost_ret (v := frV (x, y, z)) (results_fr Tryz.results254 _ w3 _ _ _ _ _ _ k0 k1 rfl rfl) rfl ?_
    exact ⟨rfl, (t3.setCell (by simp) _).setCell (by simp) _⟩
  · rw [if_pos rfl]
    rw [hE] at qe
    clear hE
    go_enter Tryz.func254, Tryz.ntmps254
    go_wp2_with fail
    refine (qe _).mono ?_
    rintro e w2 ⟨rfl, hw2⟩
    have b3 : Below ((w.alloc (.cells #[.int .i64 minor, .int .i64 status, .string s, .slice A n c] 136)).alloc (.cells #[.int .i64 0, .int .i64 0] 57)).heap.size ((w.alloc (.cells #[.int .i64 minor, .int .i64 status, .string s, .slice A n c] 136)).alloc (.cells #[.int .i64 0, .int .i64 0] 57)) w2 := by rw [← hw2]; exact Below.refl _ _
    have k0 : w2.cell? ⟨w.heap.size + 1, 0, none⟩ = some (.int .i64 0) := new2_kept b3 (by simp) rfl
    have k1 : w2.cell? ⟨w.heap.size + 1, 1, none⟩ = some (.int .i64 0) := new2_kept b3 (by simp) rfl
    have f0 : w2.frozen? ⟨w.heap.size + 1, 0, none⟩ = false := new2_free b3 (by simp)
    have f1 : w2.frozen? ⟨w.heap.size + 1, 1, none⟩ = false := new2_free b3 (by simp)
    have t3 := (below_alloc2 _ _ _).trans (b3.mono (by simp; omega))
    clear b3 hw2 q qe
    go_wp2
    refine bodyPost_ret (v := frV (0, 0, 0)) (results_fr Tryz.results254 _ w2 _ _ _ _ _ _ k0 k1 rfl rfl) rfl ?_
    exact ⟨rfl, (t3.setCell (by simp) _).setCell (by simp) _⟩

end Go.Proofs.YtbplnglmjcmfiaaGreatDoor

/- concertinalaw19.answers returns true. -/
namespace Go.Proofs.YtbplnglmjcmfiaaGreatDoor
open Go.RowKit

theorem frOf_one (nm v : List UInt8) (minor : Int) (o : Nat) (h1 : sameL nm nameTE = false) (h2 : sameL nm nameCL = true) : frOf [(nm, v)] minor o = if (numL v).2 = true then (1, (numL v).1, 0) else (0, 0, 2) := by
  unfold frOf getL
  simp [h1, h2, toldL]
theorem num_5 : numL [53] = (5, true) := by decide
theorem nm_1 : sameL nameCL nameTE = false := by decide
theorem nm_2 : sameL nameCL nameCL = true := by decide
theorem fr_ans : frOf [(nameCL, [53])] 1 0 = (1, 5, 0) := by rw [frOf_one _ _ _ _ nm_1 nm_2, num_5]; rfl
end Go.Proofs.YtbplnglmjcmfiaaGreatDoor
