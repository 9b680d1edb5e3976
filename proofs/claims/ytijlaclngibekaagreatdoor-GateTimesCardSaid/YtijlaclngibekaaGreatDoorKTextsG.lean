/- concertinaref01.Texts: are two slices of texts the same? -/
import Derived.Test.YtijlaclngibekaaGreatDoorProg
import Derived.Test.YtijlaclngibekaaGreatDoorKTrimG
import Derived.Deep.QuietTactic
import Derived.BigQuiet
import Derived.Test.YtijlaclngibekaaGreatDoorKBase
import Derived.Test.YtijlaclngibekaaGreatDoorKShelves
import Derived.OwnWalk
namespace Go.Proofs.YtijlaclngibekaaGreatDoor
open Go.RowKit
theorem Rd.text {w : World} {B n : Nat} {A : Option Addr} {l : List (List UInt8)} (h : Rd w B 1 A n (scells l)) {k : Nat} (hk : k < n) (hl : k < l.length) :
    ∃ a, A = some a ∧ a.block < B ∧ w.cell? (a.add k) = some (.string ⟨l[k].toArray⟩) := by
  obtain ⟨a, rfl, hb, hc⟩ := h.at_ hk
  exact ⟨a, rfl, hb, hc k _ (scells_get l k hl)⟩
theorem mk_bne (a b : List UInt8) : ((⟨a.toArray⟩ : ByteArray).toList == (⟨b.toArray⟩ : ByteArray).toList) = (a == b) := by rw [ByteArray.toList_eq, ByteArray.toList_eq]
end Go.Proofs.YtijlaclngibekaaGreatDoor
/- frame.number and the reference's length: a text as a length. -/
namespace Go.Proofs.YtijlaclngibekaaGreatDoor
open Go.RowKit

/-- The ten digits. -/
def digs : List UInt8 := [48, 49, 50, 51, 52, 53, 54, 55, 56, 57]
def digB (c : UInt8) : Bool := digs.contains c
theorem digB_iff (c : UInt8) : digB c = true ↔ 48 ≤ c.toNat ∧ c.toNat ≤ 57 := by
  have h : ∀ n, n < 256 → digs.contains (UInt8.ofNat n) = decide (48 ≤ n ∧ n ≤ 57) := by decide +kernel
  have := h c.toNat c.toNat_lt
  rw [UInt8.ofNat_toNat] at this
  unfold digB
  rw [this]; simp
/-- What digits say. -/
def decV (l : List UInt8) : Nat := l.foldl (fun n c => 10 * n + (c.toNat - 48)) 0
theorem decV_snoc (l : List UInt8) (c : UInt8) : decV (l ++ [c]) = 10 * decV l + (c.toNat - 48) := by unfold decV; rw [List.foldl_append]; rfl
theorem decV_take (l : List UInt8) (k : Nat) (h : k < l.length) : decV (l.take (k + 1)) = 10 * decV (l.take k) + (l[k].toNat - 48) := by rw [list_take_snoc l k h, decV_snoc]
theorem decV_lt (l : List UInt8) (h : l.all digB = true) : ∀ k, k ≤ l.length → decV (l.take k) < 10 ^ k
  | 0, _ => by simp [decV]
  | k + 1, hk => by
    have ih := decV_lt l h k (by omega)
    have h2 : digB l[k] = true := List.all_eq_true.1 h _ (List.getElem_mem (by omega))
    rw [digB_iff] at h2
    rw [decV_take l k (by omega), Nat.pow_succ]
    omega
theorem dw_nil (p : UInt8 → Bool) : ∀ l : List UInt8, l.dropWhile p = [] ↔ ∀ x ∈ l, p x = true
  | [] => by simp
  | a :: l => by
    rw [List.dropWhile_cons]
    by_cases h : p a = true
    · rw [if_pos h, dw_nil p l]; simp [h]
    · rw [if_neg h]; simp [h]
/-- A text as a length: its number, and whether it is one. -/
def numL (l : List UInt8) : Nat × Bool := if 1 ≤ l.length ∧ l.length ≤ 15 ∧ l.all digB = true then (decV l, decide (decV l ≤ 1099511627776)) else (0, false)
theorem trim_nil (l : List UInt8) : Lib.trimS l digs = [] ↔ l.all digB = true := by
  constructor
  · intro h
    have h1 : (Lib.trimRightS l digs) = [] := by
      rcases hr : Lib.trimRightS l digs with _ | ⟨a, r⟩
      · rfl
      · exfalso
        have h2 : (l.reverse.dropWhile digB) = (a :: r).reverse := by
          have : (l.reverse.dropWhile digB).reverse = a :: r := hr
          rw [← this, List.reverse_reverse]
        have h3 : (a :: r).dropWhile digB = [] := by
          have : Lib.trimLeftS (Lib.trimRightS l digs) digs = [] := h
          rw [hr] at this; exact this
        have h4 : ∀ x ∈ (a :: r), digB x = true := by
          intro x hx
          have := (dw_nil digB _).1 h3 x hx
          exact this
        rcases hd : (a :: r).reverse with _ | ⟨b, t⟩
        · simp at hd
        · rw [hd] at h2
          have hb : digB b = true := h4 b (by rw [← List.mem_reverse, hd]; simp)
          have := List.head?_dropWhile_not digB l.reverse
          rw [h2] at this
          simp [hb] at this
    have h2 : l.reverse.dropWhile digB = [] := by
      have : (l.reverse.dropWhile digB).reverse = [] := h1
      simpa using this
    rw [List.all_eq_true]
    intro x hx
    exact (dw_nil digB _).1 h2 x (by simpa using hx)
  · intro h
    have h2 : l.reverse.dropWhile digB = [] := (dw_nil digB _).2 fun x hx => List.all_eq_true.1 h x (by simpa using hx)
    show Lib.trimLeftS ((l.reverse.dropWhile digB).reverse) digs = []
    rw [h2]; rfl
theorem decV_small (l : List UInt8) (k : Nat) (h : l.all digB = true) (hk : k ≤ l.length) (hl : l.length ≤ 15) : decV (l.take k) < 1000000000000000 := by
  have h2 := decV_lt l h k hk
  have h3 : 10 ^ k ≤ 10 ^ 15 := Nat.pow_le_pow_right (by decide) (by omega)
  omega
theorem digs_list : (⟨#[48, 49, 50, 51, 52, 53, 54, 55, 56, 57]⟩ : ByteArray).data.toList = digs := rfl

set_option maxRecDepth 100000 in
set_option maxHeartbeats 3200000 in
theorem number_any (s : ByteArray) (w : World) (hs : s.size ≤ 9223372036854775807) :
    Calls Tryz.prog 185 #[.string s] w fun e w' => e = .returned (.tuple #[.int .i64 (numL s.data.toList).1, .bool (numL s.data.toList).2]) ∧ Below w.heap.size w w' := by
  have hsz := size_of s
  by_cases h1 : 1 ≤ s.size ∧ s.size ≤ 15
  · have htr := Tryz.strings_Trim_ascii s ⟨#[48, 49, 50, 51, 52, 53, 54, 55, 56, 57]⟩ w (by omega) (by decide) (fun j b h => by
      have hb : b ∈ digs := List.mem_of_getElem? h
      simp [digs] at hb; rcases hb with rfl | rfl | rfl | rfl | rfl | rfl | rfl | rfl | rfl | rfl <;> decide)
    rw [digs_list] at htr
    by_cases hall : s.data.toList.all digB = true
    · have hnil := (trim_nil s.data.toList).2 hall
      rw [hnil] at htr
      have hnum : numL s.data.toList = (decV s.data.toList, decide (decV s.data.toList ≤ 1099511627776)) := by unfold numL; rw [if_pos ⟨by omega, by omega, hall⟩]
      have hsm := fun k hk => decV_small s.data.toList k hall hk (by omega)
      have hdg := List.all_eq_true.1 hall
      rw [hnum]
      have hcv := fun w => run_bytes_of_string (P := Tryz.prog) w 9 35 5 s Tryz.underlying9 Tryz.underlying35 Tryz.underlying5
      have HS := hide hsm
      have HD := hide hdg
      have HZ := hide hsz
      clear hnum hnil hall hsm hdg hsz
      go_enter Tryz.func185, Tryz.ntmps185
      go_wp2_with fail
      refine htr.mono ?_
      rintro e w1 ⟨rfl, b1⟩
      obtain ⟨c, hc⟩ : ∃ c, c = grownCap w1 s.size 0 5 := ⟨_, rfl⟩
      have hc1 : s.size ≤ c := by rw [hc]; exact grownCap_ge _ _ _ _
      have hc2 : c ≤ maxLen := by rw [hc]; exact grownCap_le_maxLen _ _ _ _ (by simp [maxLen]; omega)
      have hcv1 := hcv w1
      rw [← hc] at hcv1
      have ho := ow_of_string w1 5 s c hc1 hc2
      clear hcv hc htr
      go_wp2_with fail
      go_loopw [4, 23] (fun v i wr => ∃ k : Nat, k ≤ s.size ∧ i = .int .i64 k ∧ v = .int .i64 (decV (s.data.toList.take k)) ∧ Ow wr w1.heap.size 1 (.slice (some ⟨w1.heap.size, 0, none⟩) s.size c) s.size (s.data.toList.map fun b => .int .u8 b.toNat) ∧ Below w.heap.size w wr) (fun _ i _ => s.size - (intOf i).toNat)
      case atStart => exact ⟨0, Nat.zero_le _, rfl, rfl, ho, b1.drew.alloc b1.size _⟩
      case round =>
        clear ho hcv1
        obtain ⟨k, hk, rfl, rfl, ho, hb⟩ := hrel
        have hsk := HS.out k (by have := HZ.out; omega)
        by_cases hlt : k < s.size
        · obtain ⟨g, off, hA, -, hg2, hcell, hfr⟩ := ho.at_ (j := k) (by omega)
          cases hA
          have hkl : k < s.data.toList.length := by have := HZ.out; omega
          have hdv := decV_take s.data.toList k hkl
          have hdg := (digB_iff _).1 (HD.out _ (List.getElem_mem hkl))
          rw [List.getElem?_map, List.getElem?_eq_getElem hkl, Option.map_some] at hcell
          obtain ⟨b, hbb⟩ : ∃ b, b = s.data.toList[k] := ⟨_, rfl⟩
          rw [← hbb] at hcell hdv hdg
          simp only [Nat.zero_add] at hcell
          obtain ⟨q, hq⟩ : ∃ q, q = decV (s.data.toList.take k) := ⟨_, rfl⟩
          rw [← hq] at hdv hsk ⊢
          have HV := hide hdv
          clear hbb hkl hdv hq
          go_wp2
          go_roundw
          case rel => exact ⟨k + 1, by omega, by go_num, by rw [HV.out]; exact congrArg (Value.int .i64) (by omega), ho, hb⟩
          case measure => simp [intOf]; omega
        · have hfin : s.data.toList.take k = s.data.toList := List.take_of_length_le (by have := HZ.out; omega)
          rw [hfin] at hsk ⊢
          clear hfin ho
          go_wp2
          go_ret2
          exact ⟨by simp; omega, hb⟩
    · have hnil : ¬ Lib.trimS s.data.toList digs = [] := fun h => hall ((trim_nil s.data.toList).1 h)
      have hne : (⟨(Lib.trimS s.data.toList digs).toArray⟩ : ByteArray).toList.isEmpty = false := by rw [ByteArray.toList_eq]; simpa using hnil
      have hnum : numL s.data.toList = (0, false) := by unfold numL; rw [if_neg (fun h => hall h.2.2)]
      rw [hnum]
      obtain ⟨r, hr⟩ : ∃ r : ByteArray, r = ⟨(Lib.trimS s.data.toList digs).toArray⟩ := ⟨_, rfl⟩
      rw [← hr] at htr hne
      clear hr hnil hnum hall hsz
      go_enter Tryz.func185, Tryz.ntmps185
      go_wp2_with fail
      refine htr.mono ?_
      rintro e w1 ⟨rfl, b1⟩
      go_wp2
      go_ret2
      exact ⟨rfl, b1⟩
  · have hnum : numL s.data.toList = (0, false) := by unfold numL; rw [if_neg (fun h => h1 ⟨by omega, by omega⟩)]
    rw [hnum]
    clear hnum hsz
    by_cases h0 : s.size < 1
    · go_enter Tryz.func185, Tryz.ntmps185
      go_wp2
      go_ret2
      exact ⟨rfl, Below.refl _ _⟩
    · have h2 : 15 < s.size := by omega
      clear h1
      go_enter Tryz.func185, Tryz.ntmps185
      go_wp2
      go_ret2
      exact ⟨rfl, Below.refl _ _⟩

set_option maxRecDepth 100000 in
set_option maxHeartbeats 3200000 in
theorem reflength_any (s : ByteArray) (w : World) :
    Calls Tryz.prog 64 #[.string s] w fun e w' => e = .returned (.tuple #[.int .i64 (numL s.data.toList).1, .bool (numL s.data.toList).2]) ∧ w = w' := by
  have HZ := hide (size_of s)
  go_enter Tryz.func64, Tryz.ntmps64
  go_wp2_with fail
  go_loop [4, 5] (fun v i => ∃ k : Nat, k ≤ s.size ∧ k ≤ 15 ∧ i = .int .i64 k ∧ v = .int .i64 (decV (s.data.toList.take k)) ∧ (s.data.toList.take k).all digB = true) (fun _ i => s.size - (intOf i).toNat)
  case atStart => exact ⟨0, Nat.zero_le _, by omega, rfl, rfl, rfl⟩
  case round =>
    obtain ⟨k, hk, hk15, rfl, rfl, hall⟩ := hrel
    have hsm := decV_lt (s.data.toList.take k) hall k (by have := HZ.out; rw [List.length_take]; omega)
    rw [List.take_take, Nat.min_self] at hsm
    have hp : 10 ^ k ≤ 10 ^ 15 := Nat.pow_le_pow_right (by decide) hk15
    have hq15 : decV (s.data.toList.take k) < 1000000000000000 := by omega
    have hq15' : decV (s.data.toList.take k) < 1000000000000000 := by omega
    clear hsm hp
    by_cases hlt : k < s.size
    · have hkl : k < s.data.toList.length := by have := HZ.out; omega
      have hdv := decV_take s.data.toList k hkl
      have hal : (s.data.toList.take (k + 1)).all digB = (digB s.data.toList[k]) := by rw [list_take_snoc _ _ hkl, List.all_append, hall]; simp
      have hgl : s.data.toList[k] = s[k] := by
        have := get_toList s k hlt
        rw [List.getElem?_eq_getElem hkl] at this
        exact Option.some.inj this
      have hno : digB s.data.toList[k] = false ∨ 15 ≤ k → numL s.data.toList = (0, false) := by
        intro h
        unfold numL
        rw [if_neg]
        rintro ⟨_, h2, h3⟩
        rcases h with h | h
        · have := List.all_eq_true.1 h3 _ (List.getElem_mem hkl); rw [h] at this; cases this
        · have := HZ.out; omega
      rw [hgl] at hdv hal hno
      obtain ⟨b, hbb⟩ : ∃ b, s[k] = b := ⟨_, rfl⟩
      rw [hbb] at hdv hal hno
      obtain ⟨q, hq⟩ : ∃ q, q = decV (s.data.toList.take k) := ⟨_, rfl⟩
      rw [← hq] at hdv hq15 ⊢
      have HV := hide hdv
      have HA := hide hal
      have HN := hide hno
      clear hdv hal hno hq hgl hq15' hall
      have hb256 := b.toNat_lt
      by_cases h1 : b.toNat < 48
      · have hfin : numL s.data.toList = (0, false) := HN.out (.inl (by rcases hd : digB b with _ | _; rfl; rw [digB_iff] at hd; omega))
        have HF := hide hfin
        clear hfin
        go_wp2
        go_ret2
        rw [HF.out]; exact ⟨rfl, rfl⟩
      · by_cases h2 : 57 < b.toNat
        · have hfin : numL s.data.toList = (0, false) := HN.out (.inl (by rcases hd : digB b with _ | _; rfl; rw [digB_iff] at hd; omega))
          have HF := hide hfin
          clear hfin
          go_wp2
          go_ret2
          rw [HF.out]; exact ⟨rfl, rfl⟩
        · by_cases h3 : 15 ≤ k
          · have hfin : numL s.data.toList = (0, false) := HN.out (.inr h3)
            have HF := hide hfin
            clear hfin
            go_wp2
            go_ret2
            rw [HF.out]; exact ⟨rfl, rfl⟩
          · have hd : digB b = true := (digB_iff b).2 ⟨by omega, by omega⟩
            go_wp2
            go_round
            case rel => exact ⟨k + 1, by omega, by omega, by go_num, by rw [HV.out]; exact congrArg (Value.int .i64) (by omega), by rw [HA.out]; exact hd⟩
            case measure => simp [intOf]; omega
    · have hkz : k = s.size := by omega
      have hfin : s.data.toList.take k = s.data.toList := List.take_of_length_le (by have := HZ.out; omega)
      rw [hfin] at hall hq15 hq15' ⊢
      have hz := HZ.out
      by_cases h1 : 1 ≤ s.size
      · have hnum : numL s.data.toList = (decV s.data.toList, decide (decV s.data.toList ≤ 1099511627776)) := by unfold numL; rw [if_pos ⟨by omega, by omega, hall⟩]
        have HN := hide hnum
        clear hnum hall hfin hz
        go_wp2
        go_ret2
        rw [HN.out]; exact ⟨by simp; omega, rfl⟩
      · have hnil : s.data.toList = [] := List.eq_nil_of_length_eq_zero (by omega)
        have hnum : numL s.data.toList = (0, false) := by rw [hnil]; rfl
        have hd0 : decV s.data.toList = 0 := by rw [hnil]; rfl
        rw [hd0]
        have HN := hide hnum
        clear hnum hall hfin hz hnil hd0 hq15 hq15'
        go_wp2
        go_ret2
        rw [HN.out]; exact ⟨rfl, rfl⟩
end Go.Proofs.YtijlaclngibekaaGreatDoor

/- frame.told and the reference's framing: how a body's end is told. -/
namespace Go.Proofs.YtijlaclngibekaaGreatDoor
open Go.RowKit

def nameTE : List UInt8 := [116, 114, 97, 110, 115, 102, 101, 114, 45, 101, 110, 99, 111, 100, 105, 110, 103]
def nameCL : List UInt8 := [99, 111, 110, 116, 101, 110, 116, 45, 108, 101, 110, 103, 116, 104]
def chunkedL : List UInt8 := [99, 104, 117, 110, 107, 101, 100]
/-- Of the values of two names: kind, length, error. -/
def toldL (T L : List (List UInt8)) (minor : Int) (o : Nat) : Nat × Nat × Nat :=
  if 0 < T.length then (if T.length = 1 ∧ sameL (T.headD []) chunkedL = true ∧ minor ≠ 0 ∧ L.length = 0 then (2, 0, 0) else (0, 0, 2))
  else if 0 < L.length then (if L.length = 1 ∧ (numL (L.headD [])).2 = true then (1, (numL (L.headD [])).1, 0) else (0, 0, 2)) else (o, 0, 0)
/-- What is told: the result's value. -/
def frV (t : Nat × Nat × Nat) : Value := .tuple #[.agg #[.int .i64 t.1, .int .i64 t.2.1], .int .i64 t.2.2]
theorem lowL_idem (l : List UInt8) : lowL (lowL l) = lowL l := by
  unfold lowL; rw [List.map_map]
  refine List.map_congr_left fun c _ => ?_
  by_cases h : 65 ≤ c.toNat ∧ c.toNat ≤ 90
  · have h1 := lowB_hit c h
    exact lowB_miss _ (by omega)
  · have h1 : lowB c = c := lowB_miss c h
    show lowB (lowB c) = lowB c
    rw [h1, h1]
theorem getL_low (fs : List (List UInt8 × List UInt8)) (name : List UInt8) : getL fs (lowL name) = getL fs name := by
  have h1 : ∀ x : List UInt8, sameL x (lowL name) = sameL x name := fun x => by unfold sameL; rw [lowL_idem]
  unfold getL
  simp only [h1]
theorem head_of {T : List (List UInt8)} (h : 0 < T.length) : T[0] = T.headD [] := by cases T with | nil => simp at h | cons a l => rfl

theorem new_free {w w2 : World} {cs : Array Value} {t : TypeId} {n i : Nat} (h : Below n (w.alloc (.cells cs t)) w2) (hn : n = w.heap.size + 1) : w2.frozen? ⟨w.heap.size, i, none⟩ = false := by
  rw [World.frozen?_of_block (a := ⟨w.heap.size, i, none⟩) (h.block w.heap.size (by omega))]
  unfold World.frozen?
  rw [heap_alloc_new]
  simp

theorem results_fr {fn : Func} {p u : Tmp} (h : fn.results = #[.cell p 67, .tmp u]) (tmps : Array Value) (w2 : World) (g : Nat) (x y e : Value) (a0 a1 : Value) (h0 : w2.cell? ⟨g, 0, none⟩ = some a0) (h1 : w2.cell? ⟨g, 1, none⟩ = some a1)
    (hp : tmps.getD p undef = .pointer (some ⟨g, 0, none⟩)) (hu : tmps.getD u undef = e) :
    (results fn tmps).run Tryz.prog ((w2.setCell ⟨g, 0, none⟩ x).setCell ⟨g, 1, none⟩ y) = .ok (.tuple #[.agg #[x, y], e]) ((w2.setCell ⟨g, 0, none⟩ x).setCell ⟨g, 1, none⟩ y) := by
  have k0 : (w2.setCell ⟨g, 0, none⟩ x).cell? ⟨g, 0, none⟩ = some x := World.cell?_setCell_same' w2 _ _ (by rw [h0]; rfl)
  have k1 : ((w2.setCell ⟨g, 0, none⟩ x).setCell ⟨g, 1, none⟩ y).cell? ⟨g, 1, none⟩ = some y := World.cell?_setCell_same' _ _ _ (by rw [World.cell?_setCell_other _ _ _ _ (by simp), h1]; rfl)
  have hp' : tmps[p]?.getD undef = .pointer (some ⟨g, 0, none⟩) := by simpa using hp
  have hu' : tmps[u]?.getD undef = e := by simpa using hu
  simp [results, h, hp', hu', go_sem, k0, k1]

set_option maxRecDepth 100000 in
set_option maxHeartbeats 3200000 in
theorem told_any (A : Option Addr) (n c B : Nat) (fs : List (List UInt8 × List UInt8)) (minor : Int) (o : Nat) (w : World) (h : Rd w B 2 A n (fcells fs)) (hB : B ≤ w.heap.size) (hn : n ≤ 1000000) (hok : fsOk fs) :
    Calls Tryz.prog 141 #[.slice A n c, .int .i64 minor, .int .i64 o] w fun e w' => e = .returned (frV (toldL (getL fs nameTE) (getL fs nameCL) minor o)) ∧ Below w.heap.size w w' := by
  have q1 := fun (W : World) (b : Below w.heap.size w W) => get_any A n c B fs ⟨#[84, 114, 97, 110, 115, 102, 101, 114, 45, 69, 110, 99, 111, 100, 105, 110, 103]⟩ W (h.below (b.mono hB)) (Nat.le_trans hB b.size) hn hok (by decide)
  have q2 := fun (W : World) (b : Below w.heap.size w W) => get_any A n c B fs ⟨#[67, 111, 110, 116, 101, 110, 116, 45, 76, 101, 110, 103, 116, 104]⟩ W (h.below (b.mono hB)) (Nat.le_trans hB b.size) hn hok (by decide)
  have e1 : getL fs (⟨#[84, 114, 97, 110, 115, 102, 101, 114, 45, 69, 110, 99, 111, 100, 105, 110, 103]⟩ : ByteArray).data.toList = getL fs nameTE := (getL_low fs _).symm
  have e2 : getL fs (⟨#[67, 111, 110, 116, 101, 110, 116, 45, 76, 101, 110, 103, 116, 104]⟩ : ByteArray).data.toList = getL fs nameCL := (getL_low fs _).symm
  rw [e1] at q1
  rw [e2] at q2
  have hmT : ∀ v ∈ getL fs nameTE, v.length ≤ 1000000 := by intro v hv; obtain ⟨f, hf, rfl⟩ := List.mem_map.1 hv; exact (hok f (List.mem_filter.1 hf).1).2
  have hmL : ∀ v ∈ getL fs nameCL, v.length ≤ 1000000 := by intro v hv; obtain ⟨f, hf, rfl⟩ := List.mem_map.1 hv; exact (hok f (List.mem_filter.1 hf).1).2
  obtain ⟨T, hT⟩ : ∃ T, T = getL fs nameTE := ⟨_, rfl⟩
  obtain ⟨L, hL⟩ : ∃ L, L = getL fs nameCL := ⟨_, rfl⟩
  rw [← hT, ← hL]
  rw [← hT] at q1 hmT
  rw [← hL] at q2 hmL
  obtain ⟨nT, hnT⟩ : ∃ m, T.length = m := ⟨_, rfl⟩
  obtain ⟨nL, hnL⟩ : ∃ m, L.length = m := ⟨_, rfl⟩
  have hv : toldL T L minor o = if 0 < nT then (if nT = 1 ∧ sameL (T.headD []) chunkedL = true ∧ minor ≠ 0 ∧ nL = 0 then (2, 0, 0) else (0, 0, 2))
    else if 0 < nL then (if nL = 1 ∧ (numL (L.headD [])).2 = true then (1, (numL (L.headD [])).1, 0) else (0, 0, 2)) else (o, 0, 0) := by rw [← hnT, ← hnL]; rfl
  rw [hnT] at q1
  rw [hnL] at q2
  obtain ⟨r, hr⟩ : ∃ r, r = toldL T L minor o := ⟨_, rfl⟩
  rw [← hr] at hv ⊢
  have HV := hide hv
  have HNT := hide hnT
  have HNL := hide hnL
  have HMT := hide hmT
  have HML := hide hmL
  clear hr hv hnT hnL e1 e2 hmT hmL hT hL
  go_enter Tryz.func141, Tryz.ntmps141
  go_wp2_with fail
  refine (q1 _ ((Below.refl _ _).alloc (Nat.le_refl _) _)).mono ?_
  rintro e w1 ⟨A1, c1, rfl, o1, hc1, b1⟩
  have t1 : Below w.heap.size w w1 := ((Below.refl _ _).alloc (Nat.le_refl _) _).trans (b1.mono (by simp))
  have k10 : w1.cell? ⟨w.heap.size, 0, none⟩ = some (.int .i64 0) := new_kept (i := 0) b1 (by simp) rfl
  have k11 : w1.cell? ⟨w.heap.size, 1, none⟩ = some (.int .i64 0) := new_kept (i := 1) b1 (by simp) rfl
  have f10 := new_free (i := 0) b1 (by simp)
  have f11 := new_free (i := 1) b1 (by simp)
  go_wp2_with fail
  refine (q2 _ t1).mono ?_
  rintro e w2 ⟨A2, c2, rfl, o2, hc2, b2⟩
  have hsz1 : w.heap.size < w1.heap.size := World.block_lt_of_cell? w1 _ k10
  have k20 := (b2.cell (p := ⟨w.heap.size, 0, none⟩) hsz1).trans k10
  have k21 := (b2.cell (p := ⟨w.heap.size, 1, none⟩) hsz1).trans k11
  have r1 := (Rd.of_own o1).below b2
  have r2 := Rd.of_own o2
  have t2 := t1.trans (b2.mono t1.size)
  have f20 : w2.frozen? ⟨w.heap.size, 0, none⟩ = false := by rw [World.frozen?_of_block (a := ⟨w.heap.size, 0, none⟩) (b2.block w.heap.size hsz1)]; exact f10
  have f21 : w2.frozen? ⟨w.heap.size, 1, none⟩ = false := by rw [World.frozen?_of_block (a := ⟨w.heap.size, 1, none⟩) (b2.block w.heap.size hsz1)]; exact f11
  clear k10 k11 f10 f11 b1 b2 t1 q1 q2 o1 o2 h hok
  by_cases hT0 : 0 < nT
  · by_cases hT1 : nT = 1
    · have hl0 : 0 < T.length := by have := HNT.out; omega
      obtain ⟨a, rfl, -, hcell⟩ := r1.text (k := 0) hT0 hl0
      have hsl := HMT.out _ (List.getElem_mem hl0)
      have hhd := head_of hl0
      rw [hhd] at hcell hsl
      rw [Addr.add_zero'] at hcell
      obtain ⟨x, hx⟩ : ∃ x, x = T.headD [] := ⟨_, rfl⟩
      rw [← hx] at hcell hsl
      have HX := hide hx
      have hsm := fieldsame_any ⟨x.toArray⟩ ⟨#[99, 104, 117, 110, 107, 101, 100]⟩ w2 (by rw [mk_size]; omega) (by decide)
      rw [mk_list, show (⟨#[99, 104, 117, 110, 107, 101, 100]⟩ : ByteArray).data.toList = chunkedL from rfl] at hsm
      obtain ⟨s0, hs0⟩ : ∃ s0 : ByteArray, s0 = ⟨x.toArray⟩ := ⟨_, rfl⟩
      rw [← hs0] at hcell hsm
      clear hs0 hhd hsl hx r1 r2
      subst hT1
      rcases hcase : sameL x chunkedL with _ | _
      · rw [hcase] at hsm
        have HC := hide hcase
        clear hcase
        go_wp2_with fail
        refine hsm.mono ?_
        rintro e w3 ⟨rfl, b3⟩
        have hsz2 : w.heap.size < w2.heap.size := World.block_lt_of_cell? w2 _ k20
        have k30 := (b3.cell (p := ⟨w.heap.size, 0, none⟩) hsz2).trans k20
        have k31 := (b3.cell (p := ⟨w.heap.size, 1, none⟩) hsz2).trans k21
        have f30 : w3.frozen? ⟨w.heap.size, 0, none⟩ = false := by rw [World.frozen?_of_block (a := ⟨w.heap.size, 0, none⟩) (b3.block w.heap.size hsz2)]; exact f20
        have f31 : w3.frozen? ⟨w.heap.size, 1, none⟩ = false := by rw [World.frozen?_of_block (a := ⟨w.heap.size, 1, none⟩) (b3.block w.heap.size hsz2)]; exact f21
        have t3 := t2.trans (b3.mono t2.size)
        clear b3 t2 k20 k21 f20 f21
        go_wp2
        refine bodyPost_ret (v := frV (0, 0, 2)) (results_fr Tryz.results141 _ w3 _ _ _ _ _ _ k30 k31 rfl rfl) rfl ?_
        exact ⟨by rw [HV.out, if_pos hT0, if_neg (by rw [← HX.out, HC.out]; simp)] <;> rfl, (t3.setCell (Nat.le_refl _) _).setCell (Nat.le_refl _) _⟩
      · rw [hcase] at hsm
        have HC := hide hcase
        clear hcase
        go_wp2_with fail
        refine hsm.mono ?_
        rintro e w3 ⟨rfl, b3⟩
        have hsz2 : w.heap.size < w2.heap.size := World.block_lt_of_cell? w2 _ k20
        have k30 := (b3.cell (p := ⟨w.heap.size, 0, none⟩) hsz2).trans k20
        have k31 := (b3.cell (p := ⟨w.heap.size, 1, none⟩) hsz2).trans k21
        have f30 : w3.frozen? ⟨w.heap.size, 0, none⟩ = false := by rw [World.frozen?_of_block (a := ⟨w.heap.size, 0, none⟩) (b3.block w.heap.size hsz2)]; exact f20
        have f31 : w3.frozen? ⟨w.heap.size, 1, none⟩ = false := by rw [World.frozen?_of_block (a := ⟨w.heap.size, 1, none⟩) (b3.block w.heap.size hsz2)]; exact f21
        have t3 := t2.trans (b3.mono t2.size)
        clear b3 t2 k20 k21 f20 f21
        by_cases hm : minor = 0
        · subst hm
          go_wp2
          refine bodyPost_ret (v := frV (0, 0, 2)) (results_fr Tryz.results141 _ w3 _ _ _ _ _ _ k30 k31 rfl rfl) rfl ?_
          exact ⟨by rw [HV.out, if_pos hT0, if_neg (by simp)] <;> rfl, (t3.setCell (Nat.le_refl _) _).setCell (Nat.le_refl _) _⟩
        · have hm' : (minor == 0) = false := by simpa using hm
          by_cases hL : 0 < nL
          · have HM := hide hm
            clear hm
            go_wp2
            refine bodyPost_ret (v := frV (0, 0, 2)) (results_fr Tryz.results141 _ w3 _ _ _ _ _ _ k30 k31 rfl rfl) rfl ?_
            exact ⟨by rw [HV.out, if_pos hT0, if_neg (by omega)] <;> rfl, (t3.setCell (Nat.le_refl _) _).setCell (Nat.le_refl _) _⟩
          · obtain rfl : nL = 0 := by omega
            have HM := hide hm
            clear hm
            go_wp2
            refine bodyPost_ret (v := frV (2, 0, 0)) (results_fr Tryz.results141 _ w3 _ _ _ _ _ _ k30 k31 rfl rfl) rfl ?_
            exact ⟨by rw [HV.out, if_pos hT0, if_pos (by refine ⟨?_, ?_, ?_, ?_⟩ <;> first | trivial | exact HM.out | rw [← HX.out, HC.out])] <;> rfl, (t3.setCell (Nat.le_refl _) _).setCell (Nat.le_refl _) _⟩
    · have hT2 : 1 < nT := by omega
      clear r1 r2 hT1
      go_wp2
      refine bodyPost_ret (v := frV (0, 0, 2)) (results_fr Tryz.results141 _ w2 _ _ _ _ _ _ k20 k21 rfl rfl) rfl ?_
      exact ⟨by rw [HV.out, if_pos hT0, if_neg (by omega)] <;> rfl, (t2.setCell (Nat.le_refl _) _).setCell (Nat.le_refl _) _⟩
  · obtain rfl : nT = 0 := by omega
    by_cases hL0 : 0 < nL
    · have hl0 : 0 < L.length := by have := HNL.out; omega
      by_cases hL1 : nL = 1
      · subst hL1
        obtain ⟨a, rfl, -, hcell⟩ := r2.text (k := 0) hL0 hl0
        have hsl := HML.out _ (List.getElem_mem hl0)
        have hhd := head_of hl0
        rw [hhd] at hcell hsl
        rw [Addr.add_zero'] at hcell
        obtain ⟨x, hx⟩ : ∃ x, x = L.headD [] := ⟨_, rfl⟩
        rw [← hx] at hcell hsl
        have HX := hide hx
        have hnm := number_any ⟨x.toArray⟩ w2 (by rw [mk_size]; omega)
        rw [mk_list] at hnm
        obtain ⟨s0, hs0⟩ : ∃ s0 : ByteArray, s0 = ⟨x.toArray⟩ := ⟨_, rfl⟩
        rw [← hs0] at hcell hnm
        obtain ⟨nv, hnv⟩ : ∃ nv, nv = (numL x).1 := ⟨_, rfl⟩
        rw [← hnv] at hnm
        have HN := hide hnv
        clear hs0 hhd hsl hx r1 r2 hnv
        rcases hcase : (numL x).2 with _ | _
        · rw [hcase] at hnm
          have HC := hide hcase
          clear hcase
          go_wp2_with fail
          refine hnm.mono ?_
          rintro e w3 ⟨rfl, b3⟩
          have hsz2 : w.heap.size < w2.heap.size := World.block_lt_of_cell? w2 _ k20
          have k30 := (b3.cell (p := ⟨w.heap.size, 0, none⟩) hsz2).trans k20
          have k31 := (b3.cell (p := ⟨w.heap.size, 1, none⟩) hsz2).trans k21
          have f30 : w3.frozen? ⟨w.heap.size, 0, none⟩ = false := by rw [World.frozen?_of_block (a := ⟨w.heap.size, 0, none⟩) (b3.block w.heap.size hsz2)]; exact f20
          have f31 : w3.frozen? ⟨w.heap.size, 1, none⟩ = false := by rw [World.frozen?_of_block (a := ⟨w.heap.size, 1, none⟩) (b3.block w.heap.size hsz2)]; exact f21
          have t3 := t2.trans (b3.mono t2.size)
          clear b3 t2 k20 k21 f20 f21
          go_wp2
          refine bodyPost_ret (v := frV (0, 0, 2)) (results_fr Tryz.results141 _ w3 _ _ _ _ _ _ k30 k31 rfl rfl) rfl ?_
          exact ⟨by rw [HV.out, if_neg (by omega), if_pos (by omega), if_neg (by rw [← HX.out, HC.out]; simp)] <;> rfl, (t3.setCell (Nat.le_refl _) _).setCell (Nat.le_refl _) _⟩
        · rw [hcase] at hnm
          have HC := hide hcase
          clear hcase
          go_wp2_with fail
          refine hnm.mono ?_
          rintro e w3 ⟨rfl, b3⟩
          have hsz2 : w.heap.size < w2.heap.size := World.block_lt_of_cell? w2 _ k20
          have k30 := (b3.cell (p := ⟨w.heap.size, 0, none⟩) hsz2).trans k20
          have k31 := (b3.cell (p := ⟨w.heap.size, 1, none⟩) hsz2).trans k21
          have f30 : w3.frozen? ⟨w.heap.size, 0, none⟩ = false := by rw [World.frozen?_of_block (a := ⟨w.heap.size, 0, none⟩) (b3.block w.heap.size hsz2)]; exact f20
          have f31 : w3.frozen? ⟨w.heap.size, 1, none⟩ = false := by rw [World.frozen?_of_block (a := ⟨w.heap.size, 1, none⟩) (b3.block w.heap.size hsz2)]; exact f21
          have t3 := t2.trans (b3.mono t2.size)
          clear b3 t2 k20 k21 f20 f21
          go_wp2
          refine bodyPost_ret (v := frV (1, nv, 0)) (results_fr Tryz.results141 _ w3 _ _ _ _ _ _ k30 k31 rfl rfl) rfl ?_
          exact ⟨by rw [HV.out, if_neg (by omega), if_pos (by omega), if_pos (by refine ⟨?_, ?_⟩ <;> first | trivial | rw [← HX.out, HC.out]), HN.out, HX.out] <;> rfl, (t3.setCell (Nat.le_refl _) _).setCell (Nat.le_refl _) _⟩
      · have hL2 : 1 < nL := by omega
        clear r1 r2 hL1 hl0
        go_wp2
        refine bodyPost_ret (v := frV (0, 0, 2)) (results_fr Tryz.results141 _ w2 _ _ _ _ _ _ k20 k21 rfl rfl) rfl ?_
        exact ⟨by rw [HV.out, if_neg (by omega), if_pos hL0, if_neg (by omega)] <;> rfl, (t2.setCell (Nat.le_refl _) _).setCell (Nat.le_refl _) _⟩
    · obtain rfl : nL = 0 := by omega
      clear r1 r2
      go_wp2
      refine bodyPost_ret (v := frV (o, 0, 0)) (results_fr Tryz.results141 _ w2 _ _ _ _ _ _ k20 k21 rfl rfl) rfl ?_
      exact ⟨by rw [HV.out, if_neg (by omega), if_neg (by omega)] <;> rfl, (t2.setCell (Nat.le_refl _) _).setCell (Nat.le_refl _) _⟩

set_option maxRecDepth 100000 in
set_option maxHeartbeats 3200000 in
theorem framing_any (A : Option Addr) (n c B : Nat) (fs : List (List UInt8 × List UInt8)) (minor : Int) (o : Nat) (w : World) (h : Rd w B 2 A n (fcells fs)) (hB : B ≤ w.heap.size) (hn : n ≤ 1000000) (hok : fsOk fs) :
    Calls Tryz.prog 41 #[.slice A n c, .int .i64 minor, .int .i64 o] w fun e w' => e = .returned (frV (toldL (getL fs nameTE) (getL fs nameCL) minor o)) ∧ Below w.heap.size w w' := by
  have q1 := fun (W : World) (b : Below w.heap.size w W) => refget_any A n c B fs ⟨#[116, 114, 97, 110, 115, 102, 101, 114, 45, 101, 110, 99, 111, 100, 105, 110, 103]⟩ W (h.below (b.mono hB)) (Nat.le_trans hB b.size) hn hok (by decide)
  have q2 := fun (W : World) (b : Below w.heap.size w W) => refget_any A n c B fs ⟨#[99, 111, 110, 116, 101, 110, 116, 45, 108, 101, 110, 103, 116, 104]⟩ W (h.below (b.mono hB)) (Nat.le_trans hB b.size) hn hok (by decide)
  have e1 : getL fs (⟨#[116, 114, 97, 110, 115, 102, 101, 114, 45, 101, 110, 99, 111, 100, 105, 110, 103]⟩ : ByteArray).data.toList = getL fs nameTE := rfl
  have e2 : getL fs (⟨#[99, 111, 110, 116, 101, 110, 116, 45, 108, 101, 110, 103, 116, 104]⟩ : ByteArray).data.toList = getL fs nameCL := rfl
  rw [e1] at q1
  rw [e2] at q2
  have hmT : ∀ v ∈ getL fs nameTE, v.length ≤ 1000000 := by intro v hv; obtain ⟨f, hf, rfl⟩ := List.mem_map.1 hv; exact (hok f (List.mem_filter.1 hf).1).2
  have hmL : ∀ v ∈ getL fs nameCL, v.length ≤ 1000000 := by intro v hv; obtain ⟨f, hf, rfl⟩ := List.mem_map.1 hv; exact (hok f (List.mem_filter.1 hf).1).2
  obtain ⟨T, hT⟩ : ∃ T, T = getL fs nameTE := ⟨_, rfl⟩
  obtain ⟨L, hL⟩ : ∃ L, L = getL fs nameCL := ⟨_, rfl⟩
  rw [← hT, ← hL]
  rw [← hT] at q1 hmT
  rw [← hL] at q2 hmL
  obtain ⟨nT, hnT⟩ : ∃ m, T.length = m := ⟨_, rfl⟩
  obtain ⟨nL, hnL⟩ : ∃ m, L.length = m := ⟨_, rfl⟩
  have hv : toldL T L minor o = if 0 < nT then (if nT = 1 ∧ sameL (T.headD []) chunkedL = true ∧ minor ≠ 0 ∧ nL = 0 then (2, 0, 0) else (0, 0, 2))
    else if 0 < nL then (if nL = 1 ∧ (numL (L.headD [])).2 = true then (1, (numL (L.headD [])).1, 0) else (0, 0, 2)) else (o, 0, 0) := by rw [← hnT, ← hnL]; rfl
  rw [hnT] at q1
  rw [hnL] at q2
  obtain ⟨r, hr⟩ : ∃ r, r = toldL T L minor o := ⟨_, rfl⟩
  rw [← hr] at hv ⊢
  have HV := hide hv
  have HNT := hide hnT
  have HNL := hide hnL
  have HMT := hide hmT
  have HML := hide hmL
  clear hr hv hnT hnL e1 e2 hmT hmL hT hL
  go_enter Tryz.func41, Tryz.ntmps41
  go_wp2_with fail
  refine (q1 _ ((Below.refl _ _).alloc (Nat.le_refl _) _)).mono ?_
  rintro e w1 ⟨A1, c1, rfl, o1, hc1, b1⟩
  have t1 : Below w.heap.size w w1 := ((Below.refl _ _).alloc (Nat.le_refl _) _).trans (b1.mono (by simp))
  have k10 : w1.cell? ⟨w.heap.size, 0, none⟩ = some (.int .i64 0) := new_kept (i := 0) b1 (by simp) rfl
  have k11 : w1.cell? ⟨w.heap.size, 1, none⟩ = some (.int .i64 0) := new_kept (i := 1) b1 (by simp) rfl
  have f10 := new_free (i := 0) b1 (by simp)
  have f11 := new_free (i := 1) b1 (by simp)
  go_wp2_with fail
  refine (q2 _ t1).mono ?_
  rintro e w2 ⟨A2, c2, rfl, o2, hc2, b2⟩
  have hsz1 : w.heap.size < w1.heap.size := World.block_lt_of_cell? w1 _ k10
  have k20 := (b2.cell (p := ⟨w.heap.size, 0, none⟩) hsz1).trans k10
  have k21 := (b2.cell (p := ⟨w.heap.size, 1, none⟩) hsz1).trans k11
  have r1 := (Rd.of_own o1).below b2
  have r2 := Rd.of_own o2
  have t2 := t1.trans (b2.mono t1.size)
  have f20 : w2.frozen? ⟨w.heap.size, 0, none⟩ = false := by rw [World.frozen?_of_block (a := ⟨w.heap.size, 0, none⟩) (b2.block w.heap.size hsz1)]; exact f10
  have f21 : w2.frozen? ⟨w.heap.size, 1, none⟩ = false := by rw [World.frozen?_of_block (a := ⟨w.heap.size, 1, none⟩) (b2.block w.heap.size hsz1)]; exact f11
  clear k10 k11 f10 f11 b1 b2 t1 q1 q2 o1 o2 h hok
  by_cases hT0 : 0 < nT
  · by_cases hT1 : nT = 1
    · have hl0 : 0 < T.length := by have := HNT.out; omega
      obtain ⟨a, rfl, -, hcell⟩ := r1.text (k := 0) hT0 hl0
      have hsl := HMT.out _ (List.getElem_mem hl0)
      have hhd := head_of hl0
      rw [hhd] at hcell hsl
      rw [Addr.add_zero'] at hcell
      obtain ⟨x, hx⟩ : ∃ x, x = T.headD [] := ⟨_, rfl⟩
      rw [← hx] at hcell hsl
      have HX := hide hx
      have hsm := reflower_any ⟨x.toArray⟩ w2 (by rw [mk_size]; omega)
      rw [mk_list] at hsm
      have hle : ((⟨(lowL x).toArray⟩ : ByteArray).toList == [99, 104, 117, 110, 107, 101, 100]) = sameL x chunkedL := by rw [ByteArray.toList_eq]; rfl
      obtain ⟨l1, hl1⟩ : ∃ l1 : ByteArray, l1 = ⟨(lowL x).toArray⟩ := ⟨_, rfl⟩
      rw [← hl1] at hsm hle
      clear hl1
      obtain ⟨s0, hs0⟩ : ∃ s0 : ByteArray, s0 = ⟨x.toArray⟩ := ⟨_, rfl⟩
      rw [← hs0] at hcell hsm
      clear hs0 hhd hsl hx r1 r2
      subst hT1
      rcases hcase : sameL x chunkedL with _ | _
      · rw [hcase] at hle
        have HC := hide hcase
        clear hcase
        go_wp2_with fail
        refine hsm.mono ?_
        rintro e w3 ⟨rfl, b3⟩
        have hsz2 : w.heap.size < w2.heap.size := World.block_lt_of_cell? w2 _ k20
        have k30 := (b3.cell (p := ⟨w.heap.size, 0, none⟩) hsz2).trans k20
        have k31 := (b3.cell (p := ⟨w.heap.size, 1, none⟩) hsz2).trans k21
        have f30 : w3.frozen? ⟨w.heap.size, 0, none⟩ = false := by rw [World.frozen?_of_block (a := ⟨w.heap.size, 0, none⟩) (b3.block w.heap.size hsz2)]; exact f20
        have f31 : w3.frozen? ⟨w.heap.size, 1, none⟩ = false := by rw [World.frozen?_of_block (a := ⟨w.heap.size, 1, none⟩) (b3.block w.heap.size hsz2)]; exact f21
        have t3 := t2.trans (b3.mono t2.size)
        clear b3 t2 k20 k21 f20 f21
        go_wp2
        refine bodyPost_ret (v := frV (0, 0, 2)) (results_fr Tryz.results41 _ w3 _ _ _ _ _ _ k30 k31 rfl rfl) rfl ?_
        exact ⟨by rw [HV.out, if_pos hT0, if_neg (by rw [← HX.out, HC.out]; simp)] <;> rfl, (t3.setCell (Nat.le_refl _) _).setCell (Nat.le_refl _) _⟩
      · rw [hcase] at hle
        have HC := hide hcase
        clear hcase
        go_wp2_with fail
        refine hsm.mono ?_
        rintro e w3 ⟨rfl, b3⟩
        have hsz2 : w.heap.size < w2.heap.size := World.block_lt_of_cell? w2 _ k20
        have k30 := (b3.cell (p := ⟨w.heap.size, 0, none⟩) hsz2).trans k20
        have k31 := (b3.cell (p := ⟨w.heap.size, 1, none⟩) hsz2).trans k21
        have f30 : w3.frozen? ⟨w.heap.size, 0, none⟩ = false := by rw [World.frozen?_of_block (a := ⟨w.heap.size, 0, none⟩) (b3.block w.heap.size hsz2)]; exact f20
        have f31 : w3.frozen? ⟨w.heap.size, 1, none⟩ = false := by rw [World.frozen?_of_block (a := ⟨w.heap.size, 1, none⟩) (b3.block w.heap.size hsz2)]; exact f21
        have t3 := t2.trans (b3.mono t2.size)
        clear b3 t2 k20 k21 f20 f21
        by_cases hm : minor = 0
        · subst hm
          go_wp2
          refine bodyPost_ret (v := frV (0, 0, 2)) (results_fr Tryz.results41 _ w3 _ _ _ _ _ _ k30 k31 rfl rfl) rfl ?_
          exact ⟨by rw [HV.out, if_pos hT0, if_neg (by simp)] <;> rfl, (t3.setCell (Nat.le_refl _) _).setCell (Nat.le_refl _) _⟩
        · have hm' : (minor == 0) = false := by simpa using hm
          by_cases hL : 0 < nL
          · have HM := hide hm
            clear hm
            go_wp2
            refine bodyPost_ret (v := frV (0, 0, 2)) (results_fr Tryz.results41 _ w3 _ _ _ _ _ _ k30 k31 rfl rfl) rfl ?_
            exact ⟨by rw [HV.out, if_pos hT0, if_neg (by omega)] <;> rfl, (t3.setCell (Nat.le_refl _) _).setCell (Nat.le_refl _) _⟩
          · obtain rfl : nL = 0 := by omega
            have HM := hide hm
            clear hm
            go_wp2
            refine bodyPost_ret (v := frV (2, 0, 0)) (results_fr Tryz.results41 _ w3 _ _ _ _ _ _ k30 k31 rfl rfl) rfl ?_
            exact ⟨by rw [HV.out, if_pos hT0, if_pos (by refine ⟨?_, ?_, ?_, ?_⟩ <;> first | trivial | exact HM.out | rw [← HX.out, HC.out])] <;> rfl, (t3.setCell (Nat.le_refl _) _).setCell (Nat.le_refl _) _⟩
    · have hT2 : ((nT : Int) != 1) = true := by simp; omega
      have HT1 := hide hT1
      clear r1 r2 hT1
      go_wp2
      refine bodyPost_ret (v := frV (0, 0, 2)) (results_fr Tryz.results41 _ w2 _ _ _ _ _ _ k20 k21 rfl rfl) rfl ?_
      exact ⟨by rw [HV.out, if_pos hT0, if_neg (fun h => HT1.out h.1)] <;> rfl, (t2.setCell (Nat.le_refl _) _).setCell (Nat.le_refl _) _⟩
  · obtain rfl : nT = 0 := by omega
    by_cases hL0 : 0 < nL
    · have hl0 : 0 < L.length := by have := HNL.out; omega
      obtain ⟨a, rfl, -, hcell⟩ := r2.text (k := 0) hL0 hl0
      have hsl := HML.out _ (List.getElem_mem hl0)
      have hhd := head_of hl0
      rw [hhd] at hcell hsl
      rw [Addr.add_zero'] at hcell
      obtain ⟨x, hx⟩ : ∃ x, x = L.headD [] := ⟨_, rfl⟩
      rw [← hx] at hcell hsl
      have HX := hide hx
      have hnm := reflength_any ⟨x.toArray⟩ w2
      rw [mk_list] at hnm
      obtain ⟨s0, hs0⟩ : ∃ s0 : ByteArray, s0 = ⟨x.toArray⟩ := ⟨_, rfl⟩
      rw [← hs0] at hcell hnm
      obtain ⟨nv, hnv⟩ : ∃ nv, nv = (numL x).1 := ⟨_, rfl⟩
      rw [← hnv] at hnm
      have HN := hide hnv
      clear hs0 hhd hsl hx r1 r2 hnv
      by_cases hL1 : nL = 1
      · subst hL1
        rcases hcase : (numL x).2 with _ | _
        · rw [hcase] at hnm
          have HC := hide hcase
          clear hcase
          go_wp2_with fail
          refine hnm.mono ?_
          rintro e w3 ⟨rfl, rfl⟩
          go_wp2
          refine bodyPost_ret (v := frV (0, 0, 2)) (results_fr Tryz.results41 _ w2 _ _ _ _ _ _ k20 k21 rfl rfl) rfl ?_
          exact ⟨by rw [HV.out, if_neg (by omega), if_pos (by omega), if_neg (by rw [← HX.out, HC.out]; simp)] <;> rfl, (t2.setCell (Nat.le_refl _) _).setCell (Nat.le_refl _) _⟩
        · rw [hcase] at hnm
          have HC := hide hcase
          clear hcase
          go_wp2_with fail
          refine hnm.mono ?_
          rintro e w3 ⟨rfl, rfl⟩
          go_wp2
          refine bodyPost_ret (v := frV (1, nv, 0)) (results_fr Tryz.results41 _ w2 _ _ _ _ _ _ k20 k21 rfl rfl) rfl ?_
          exact ⟨by rw [HV.out, if_neg (by omega), if_pos (by omega), if_pos (by refine ⟨?_, ?_⟩ <;> first | trivial | rw [← HX.out, HC.out]), HN.out, HX.out] <;> rfl, (t2.setCell (Nat.le_refl _) _).setCell (Nat.le_refl _) _⟩
      · have hL2 : 1 < nL := by omega
        clear hL1 hl0
        go_wp2_with fail
        refine hnm.mono ?_
        rintro e w3 ⟨rfl, rfl⟩
        go_wp2
        refine bodyPost_ret (v := frV (0, 0, 2)) (results_fr Tryz.results41 _ w2 _ _ _ _ _ _ k20 k21 rfl rfl) rfl ?_
        exact ⟨by rw [HV.out, if_neg (by omega), if_pos hL0, if_neg (by omega)] <;> rfl, (t2.setCell (Nat.le_refl _) _).setCell (Nat.le_refl _) _⟩
    · obtain rfl : nL = 0 := by omega
      clear r1 r2
      go_wp2
      refine bodyPost_ret (v := frV (o, 0, 0)) (results_fr Tryz.results41 _ w2 _ _ _ _ _ _ k20 k21 rfl rfl) rfl ?_
      exact ⟨by rw [HV.out, if_neg (by omega), if_neg (by omega)] <;> rfl, (t2.setCell (Nat.le_refl _) _).setCell (Nat.le_refl _) _⟩
end Go.Proofs.YtijlaclngibekaaGreatDoor

/- frame.OfRequest, OfResponse, Empty and the reference's; concertinalaw19.answers. -/
namespace Go.Proofs.YtijlaclngibekaaGreatDoor
open Go.RowKit

def frOf (fs : List (List UInt8 × List UInt8)) (minor : Int) (o : Nat) : Nat × Nat × Nat := toldL (getL fs nameTE) (getL fs nameCL) minor o
theorem World.free_below {B : Nat} {w w' : World} (b : Below B w w') {a : Addr} (ha : a.block < B) : w'.frozen? a = w.frozen? a := World.frozen?_of_block (b.block a.block ha)

theorem new2_kept {w w2 : World} {o1 : Obj} {cs : Array Value} {t : TypeId} {n i : Nat} {v : Value} (h : Below n ((w.alloc o1).alloc (.cells cs t)) w2) (hn : n = w.heap.size + 2) (hi : cs[i]? = some v) : w2.cell? ⟨w.heap.size + 1, i, none⟩ = some v := by
  have hs : (w.alloc o1).heap.size = w.heap.size + 1 := by simp
  have := new_kept (w := w.alloc o1) h (by rw [hs]; exact hn) hi
  rwa [hs] at this
theorem new2_free {w w2 : World} {o1 : Obj} {cs : Array Value} {t : TypeId} {n i : Nat} (h : Below n ((w.alloc o1).alloc (.cells cs t)) w2) (hn : n = w.heap.size + 2) : w2.frozen? ⟨w.heap.size + 1, i, none⟩ = false := by
  have hs : (w.alloc o1).heap.size = w.heap.size + 1 := by simp
  have := new_free (w := w.alloc o1) (i := i) h (by rw [hs]; exact hn)
  rwa [hs] at this
theorem below_alloc2 (w : World) (o1 o2 : Obj) : Below w.heap.size w ((w.alloc o1).alloc o2) := ((Below.refl _ w).alloc (Nat.le_refl _) o1).alloc (by simp) o2
theorem old2 {w w2 : World} {o1 o2 : Obj} {n : Nat} {a : Addr} {v : Value} (h : Below n ((w.alloc o1).alloc o2) w2) (hn : n = w.heap.size + 2) (ha : a.block < w.heap.size) (hc : w.cell? a = some v) : w2.cell? a = some v := by
  rw [h.cell (p := a) (by omega), (below_alloc2 w o1 o2).cell ha]; exact hc

set_option maxRecDepth 100000 in
set_option maxHeartbeats 3200000 in
theorem ofreq_any (m t : ByteArray) (minor : Int) (A : Option Addr) (n c B : Nat) (fs : List (List UInt8 × List UInt8)) (w : World) (h : Rd w B 2 A n (fcells fs)) (hB : B ≤ w.heap.size) (hn : n ≤ 1000000) (hok : fsOk fs) :
    Calls Tryz.prog 105 #[.agg #[.string m, .string t, .int .i64 minor, .slice A n c]] w fun e w' => e = .returned (frV (frOf fs minor 0)) ∧ Below w.heap.size w w' := by
  have q := fun (W : World) (b : Below w.heap.size w W) => told_any A n c B fs minor 0 W (h.below (b.mono hB)) (Nat.le_trans hB b.size) hn hok
  obtain ⟨r, hr⟩ : ∃ r, r = frOf fs minor 0 := ⟨_, rfl⟩
  rw [← hr]
  change ∀ W, _ → Calls _ _ _ _ (fun e w' => e = .returned (frV (frOf fs minor 0)) ∧ _) at q
  rw [← hr] at q
  obtain ⟨x, y, z⟩ := r
  simp only [frV] at q ⊢
  clear h hok hr
  go_enter Tryz.func105, Tryz.ntmps105
  go_wp2_with fail
  refine (q _ (below_alloc2 _ _ _)).mono ?_
  rintro e w3 ⟨rfl, b3⟩
  have k0 : w3.cell? ⟨w.heap.size + 1, 0, none⟩ = some (.int .i64 0) := new2_kept b3 (by simp) rfl
  have k1 : w3.cell? ⟨w.heap.size + 1, 1, none⟩ = some (.int .i64 0) := new2_kept b3 (by simp) rfl
  have f0 : w3.frozen? ⟨w.heap.size + 1, 0, none⟩ = false := new2_free b3 (by simp)
  have f1 : w3.frozen? ⟨w.heap.size + 1, 1, none⟩ = false := new2_free b3 (by simp)
  have t3 := (below_alloc2 _ _ _).trans (b3.mono (by simp; omega))
  clear b3
  go_wp2
  refine bodyPost_ret (v := frV (x, y, z)) (results_fr Tryz.results105 _ w3 _ _ _ _ _ _ k0 k1 rfl rfl) rfl ?_
  exact ⟨rfl, (t3.setCell (by simp) _).setCell (by simp) _⟩

/-- Has a response to a method never a body? -/
def emptyB (m : ByteArray) (status : Int) : Bool := (m.toList == [72, 69, 65, 68]) || decide (status < 200) || status == 204 || status == 304
set_option maxRecDepth 100000 in
theorem empty_any (m : ByteArray) (status : Int) (w : World) : Calls Tryz.prog 197 #[.string m, .int .i64 status] w fun e w' => e = .returned (.bool (emptyB m status)) ∧ w = w' := by
  obtain ⟨r, hr⟩ : ∃ r, r = emptyB m status := ⟨_, rfl⟩
  rw [← hr]
  rcases h1 : (m.toList == [72, 69, 65, 68]) with _ | _
  · by_cases h2 : status < 200
    · have HV := hide (show r = true by rw [hr]; unfold emptyB; rw [h1]; simp [h2])
      clear hr
      go_enter Tryz.func197, Tryz.ntmps197
      go_wp2
      go_ret
      exact ⟨ret_bool (by rw [HV.out]), rfl⟩
    · by_cases h3 : status = 204
      · subst h3
        have HV := hide (show r = true by rw [hr]; unfold emptyB; rw [h1]; simp)
        clear hr
        go_enter Tryz.func197, Tryz.ntmps197
        go_wp2
        go_ret
        exact ⟨ret_bool (by rw [HV.out]), rfl⟩
      · by_cases h4 : status = 304
        · subst h4
          have HV := hide (show r = true by rw [hr]; unfold emptyB; rw [h1]; simp)
          clear hr
          go_enter Tryz.func197, Tryz.ntmps197
          go_wp2
          go_ret
          exact ⟨ret_bool (by rw [HV.out]), rfl⟩
        · have HV := hide (show r = false by rw [hr]; unfold emptyB; rw [h1]; simp [h2, h3, h4])
          have h3' : (status == 204) = false := by simpa using h3
          have h4' : (status == 304) = false := by simpa using h4
          clear hr h3 h4
          go_enter Tryz.func197, Tryz.ntmps197
          go_wp2
          go_ret
          exact ⟨ret_bool (by rw [HV.out]), rfl⟩
  · have HV := hide (show r = true by rw [hr]; unfold emptyB; rw [h1]; simp)
    clear hr
    go_enter Tryz.func197, Tryz.ntmps197
    go_wp2
    go_ret
    exact ⟨ret_bool (by rw [HV.out]), rfl⟩
set_option maxRecDepth 100000 in
theorem refempty_any (m : ByteArray) (status : Int) (w : World) : Calls Tryz.prog 22 #[.string m, .int .i64 status] w fun e w' => e = .returned (.bool (emptyB m status)) ∧ w = w' := by
  obtain ⟨r, hr⟩ : ∃ r, r = emptyB m status := ⟨_, rfl⟩
  rw [← hr]
  rcases h1 : (m.toList == [72, 69, 65, 68]) with _ | _
  · by_cases h2 : status < 200
    · have HV := hide (show r = true by rw [hr]; unfold emptyB; rw [h1]; simp [h2])
      clear hr
      go_enter Tryz.func22, Tryz.ntmps22
      go_wp2
      go_ret
      exact ⟨ret_bool (by rw [HV.out]), rfl⟩
    · by_cases h3 : status = 204
      · subst h3
        have HV := hide (show r = true by rw [hr]; unfold emptyB; rw [h1]; simp)
        clear hr
        go_enter Tryz.func22, Tryz.ntmps22
        go_wp2
        go_ret
        exact ⟨ret_bool (by rw [HV.out]), rfl⟩
      · by_cases h4 : status = 304
        · subst h4
          have HV := hide (show r = true by rw [hr]; unfold emptyB; rw [h1]; simp)
          clear hr
          go_enter Tryz.func22, Tryz.ntmps22
          go_wp2
          go_ret
          exact ⟨ret_bool (by rw [HV.out]), rfl⟩
        · have HV := hide (show r = false by rw [hr]; unfold emptyB; rw [h1]; simp [h2, h3, h4])
          have h3' : (status == 204) = false := by simpa using h3
          have h4' : (status == 304) = false := by simpa using h4
          clear hr h3 h4
          go_enter Tryz.func22, Tryz.ntmps22
          go_wp2
          go_ret
          exact ⟨ret_bool (by rw [HV.out]), rfl⟩
  · have HV := hide (show r = true by rw [hr]; unfold emptyB; rw [h1]; simp)
    clear hr
    go_enter Tryz.func22, Tryz.ntmps22
    go_wp2
    go_ret
    exact ⟨ret_bool (by rw [HV.out]), rfl⟩

def frResp (m : ByteArray) (fs : List (List UInt8 × List UInt8)) (minor status : Int) : Nat × Nat × Nat := if emptyB m status then (0, 0, 0) else frOf fs minor 3
set_option maxRecDepth 100000 in
set_option maxHeartbeats 3200000 in
theorem ofresp_any (m s : ByteArray) (minor status : Int) (A : Option Addr) (n c B : Nat) (fs : List (List UInt8 × List UInt8)) (w : World) (h : Rd w B 2 A n (fcells fs)) (hB : B ≤ w.heap.size) (hn : n ≤ 1000000) (hok : fsOk fs) :
    Calls Tryz.prog 158 #[.string m, .agg #[.int .i64 minor, .int .i64 status, .string s, .slice A n c]] w fun e w' => e = .returned (frV (frResp m fs minor status)) ∧ Below w.heap.size w w' := by
  have q := fun (W : World) (b : Below w.heap.size w W) => told_any A n c B fs minor 3 W (h.below (b.mono hB)) (Nat.le_trans hB b.size) hn hok
  have qe := fun (W : World) => empty_any m status W
  unfold frResp
  obtain ⟨r, hr⟩ : ∃ r, r = frOf fs minor 3 := ⟨_, rfl⟩
  rw [← hr]
  change ∀ W, _ → Calls _ _ _ _ (fun e w' => e = .returned (frV (frOf fs minor 3)) ∧ _) at q
  rw [← hr] at q
  obtain ⟨x, y, z⟩ := r
  simp only [frV] at q
  clear h hok hr
  rcases hE : emptyB m status with _ | _
  · rw [if_neg (by simp)]
    rw [hE] at qe
    clear hE
    go_enter Tryz.func158, Tryz.ntmps158
    go_wp2_with fail
    refine (qe _).mono ?_
    rintro e w2 ⟨rfl, rfl⟩
    clear qe
    go_wp2_with fail
    refine (q _ (below_alloc2 _ _ _)).mono ?_
    rintro e w3 ⟨rfl, b3⟩
    have k0 : w3.cell? ⟨w.heap.size + 1, 0, none⟩ = some (.int .i64 0) := new2_kept b3 (by simp) rfl
    have k1 : w3.cell? ⟨w.heap.size + 1, 1, none⟩ = some (.int .i64 0) := new2_kept b3 (by simp) rfl
    have f0 : w3.frozen? ⟨w.heap.size + 1, 0, none⟩ = false := new2_free b3 (by simp)
    have f1 : w3.frozen? ⟨w.heap.size + 1, 1, none⟩ = false := new2_free b3 (by simp)
    have t3 := (below_alloc2 _ _ _).trans (b3.mono (by simp; omega))
    clear b3
    go_wp2
    refine bodyPost_ret (v := frV (x, y, z)) (results_fr Tryz.results158 _ w3 _ _ _ _ _ _ k0 k1 rfl rfl) rfl ?_
    exact ⟨rfl, (t3.setCell (by simp) _).setCell (by simp) _⟩
  · rw [if_pos rfl]
    rw [hE] at qe
    clear hE
    go_enter Tryz.func158, Tryz.ntmps158
    go_wp2_with fail
    refine (qe _).mono ?_
    rintro e w2 ⟨rfl, hw2⟩
    have b3 : Below ((w.alloc (.cells #[.int .i64 minor, .int .i64 status, .string s, .slice A n c] 46)).alloc (.cells #[.int .i64 0, .int .i64 0] 67)).heap.size ((w.alloc (.cells #[.int .i64 minor, .int .i64 status, .string s, .slice A n c] 46)).alloc (.cells #[.int .i64 0, .int .i64 0] 67)) w2 := by rw [← hw2]; exact Below.refl _ _
    have k0 : w2.cell? ⟨w.heap.size + 1, 0, none⟩ = some (.int .i64 0) := new2_kept b3 (by simp) rfl
    have k1 : w2.cell? ⟨w.heap.size + 1, 1, none⟩ = some (.int .i64 0) := new2_kept b3 (by simp) rfl
    have f0 : w2.frozen? ⟨w.heap.size + 1, 0, none⟩ = false := new2_free b3 (by simp)
    have f1 : w2.frozen? ⟨w.heap.size + 1, 1, none⟩ = false := new2_free b3 (by simp)
    have t3 := (below_alloc2 _ _ _).trans (b3.mono (by simp; omega))
    clear b3 hw2 q qe
    go_wp2
    refine bodyPost_ret (v := frV (0, 0, 0)) (results_fr Tryz.results158 _ w2 _ _ _ _ _ _ k0 k1 rfl rfl) rfl ?_
    exact ⟨rfl, (t3.setCell (by simp) _).setCell (by simp) _⟩

set_option maxRecDepth 100000 in
set_option maxHeartbeats 3200000 in
theorem refresp_any (m s : ByteArray) (minor status : Int) (A : Option Addr) (n c B : Nat) (fs : List (List UInt8 × List UInt8)) (w : World) (h : Rd w B 2 A n (fcells fs)) (hB : B ≤ w.heap.size) (hn : n ≤ 1000000) (hok : fsOk fs) :
    Calls Tryz.prog 20 #[.string m, .agg #[.int .i64 minor, .int .i64 status, .string s, .slice A n c]] w fun e w' => e = .returned (frV (frResp m fs minor status)) ∧ Below w.heap.size w w' := by
  have q := fun (W : World) (b : Below w.heap.size w W) => framing_any A n c B fs minor 3 W (h.below (b.mono hB)) (Nat.le_trans hB b.size) hn hok
  have qe := fun (W : World) => refempty_any m status W
  unfold frResp
  obtain ⟨r, hr⟩ : ∃ r, r = frOf fs minor 3 := ⟨_, rfl⟩
  rw [← hr]
  change ∀ W, _ → Calls _ _ _ _ (fun e w' => e = .returned (frV (frOf fs minor 3)) ∧ _) at q
  rw [← hr] at q
  obtain ⟨x, y, z⟩ := r
  simp only [frV] at q
  clear h hok hr
  rcases hE : emptyB m status with _ | _
  · rw [if_neg (by simp)]
    rw [hE] at qe
    clear hE
    go_enter Tryz.func20, Tryz.ntmps20
    go_wp2_with fail
    refine (qe _).mono ?_
    rintro e w2 ⟨rfl, rfl⟩
    clear qe
    go_wp2_with fail
    refine (q _ (below_alloc2 _ _ _)).mono ?_
    rintro e w3 ⟨rfl, b3⟩
    have k0 : w3.cell? ⟨w.heap.size + 1, 0, none⟩ = some (.int .i64 0) := new2_kept b3 (by simp) rfl
    have k1 : w3.cell? ⟨w.heap.size + 1, 1, none⟩ = some (.int .i64 0) := new2_kept b3 (by simp) rfl
    have f0 : w3.frozen? ⟨w.heap.size + 1, 0, none⟩ = false := new2_free b3 (by simp)
    have f1 : w3.frozen? ⟨w.heap.size + 1, 1, none⟩ = false := new2_free b3 (by simp)
    have t3 := (below_alloc2 _ _ _).trans (b3.mono (by simp; omega))
    clear b3
    go_wp2
    refine bodyPost_ret (v := frV (x, y, z)) (results_fr Tryz.results20 _ w3 _ _ _ _ _ _ k0 k1 rfl rfl) rfl ?_
    exact ⟨rfl, (t3.setCell (by simp) _).setCell (by simp) _⟩
  · rw [if_pos rfl]
    rw [hE] at qe
    clear hE
    go_enter Tryz.func20, Tryz.ntmps20
    go_wp2_with fail
    refine (qe _).mono ?_
    rintro e w2 ⟨rfl, hw2⟩
    have b3 : Below ((w.alloc (.cells #[.int .i64 minor, .int .i64 status, .string s, .slice A n c] 46)).alloc (.cells #[.int .i64 0, .int .i64 0] 67)).heap.size ((w.alloc (.cells #[.int .i64 minor, .int .i64 status, .string s, .slice A n c] 46)).alloc (.cells #[.int .i64 0, .int .i64 0] 67)) w2 := by rw [← hw2]; exact Below.refl _ _
    have k0 : w2.cell? ⟨w.heap.size + 1, 0, none⟩ = some (.int .i64 0) := new2_kept b3 (by simp) rfl
    have k1 : w2.cell? ⟨w.heap.size + 1, 1, none⟩ = some (.int .i64 0) := new2_kept b3 (by simp) rfl
    have f0 : w2.frozen? ⟨w.heap.size + 1, 0, none⟩ = false := new2_free b3 (by simp)
    have f1 : w2.frozen? ⟨w.heap.size + 1, 1, none⟩ = false := new2_free b3 (by simp)
    have t3 := (below_alloc2 _ _ _).trans (b3.mono (by simp; omega))
    clear b3 hw2 q qe
    go_wp2
    refine bodyPost_ret (v := frV (0, 0, 0)) (results_fr Tryz.results20 _ w2 _ _ _ _ _ _ k0 k1 rfl rfl) rfl ?_
    exact ⟨rfl, (t3.setCell (by simp) _).setCell (by simp) _⟩
end Go.Proofs.YtijlaclngibekaaGreatDoor

/- concertinalaw19.answers returns true. -/
namespace Go.Proofs.YtijlaclngibekaaGreatDoor
open Go.RowKit

theorem frOf_one (nm v : List UInt8) (minor : Int) (o : Nat) (h1 : sameL nm nameTE = false) (h2 : sameL nm nameCL = true) : frOf [(nm, v)] minor o = if (numL v).2 = true then (1, (numL v).1, 0) else (0, 0, 2) := by
  unfold frOf getL
  simp [h1, h2, toldL]
theorem num_5 : numL [53] = (5, true) := by decide
theorem nm_1 : sameL nameCL nameTE = false := by decide
theorem nm_2 : sameL nameCL nameCL = true := by decide
theorem fr_ans : frOf [(nameCL, [53])] 1 0 = (1, 5, 0) := by rw [frOf_one _ _ _ _ nm_1 nm_2, num_5]; rfl
end Go.Proofs.YtijlaclngibekaaGreatDoor
/- strings.Cut at one byte. -/
namespace Go.Proofs.YtijlaclngibekaaGreatDoor
open Go.RowKit

/-- Ahead of the first such byte, behind it, and whether there is one. -/
def cutHead (b : UInt8) (l : List UInt8) : List UInt8 := l.takeWhile fun c => !(c == b)
def cutTail (b : UInt8) (l : List UInt8) : List UInt8 := l.drop ((cutHead b l).length + 1)
def cutHas (b : UInt8) (l : List UInt8) : Bool := decide ((cutHead b l).length < l.length)
theorem cutHead_le (b : UInt8) (l : List UInt8) : (cutHead b l).length ≤ l.length := (List.takeWhile_prefix _).length_le
theorem cutHead_take (b : UInt8) (l : List UInt8) : l.take (cutHead b l).length = cutHead b l := (List.prefix_iff_eq_take.1 (List.takeWhile_prefix _)).symm
theorem cutHead_cons (b c : UInt8) (l : List UInt8) : cutHead b (c :: l) = if c == b then [] else c :: cutHead b l := by
  unfold cutHead
  by_cases h : (c == b) = true
  · rw [List.takeWhile_cons_of_neg (by simp [h]), if_pos h]
  · rw [List.takeWhile_cons_of_pos (by simpa using h), if_neg h]
theorem index_cut (b : UInt8) : ∀ l : List UInt8, Lib.indexByte l b = if cutHas b l then ((cutHead b l).length : Int) else -1
  | [] => rfl
  | c :: l => by
    have ih := index_cut b l
    unfold Lib.indexByte cutHas
    rw [cutHead_cons]
    by_cases h : (c == b) = true
    · rw [if_pos h, if_pos h]; simp
    · rw [if_neg h, if_neg h, ih]
      unfold cutHas
      by_cases h2 : (cutHead b l).length < l.length
      · simp [h2]
        try omega
      · simp [h2]

set_option maxRecDepth 100000 in
set_option maxHeartbeats 1600000 in
theorem index_any1 (s : ByteArray) (b : UInt8) (w : World) (hs : s.size ≤ 9223372036854775807) :
    Calls Tryz.prog 269 #[.string s, .string ⟨#[b]⟩] w fun e w' => e = .returned (.int .i64 (if cutHas b s.data.toList then ((cutHead b s.data.toList).length : Int) else -1)) ∧ w = w' := by
  have hib := fun w => Tryz.stringslite_IndexByte s b.toNat w
  have hbb : ((b.toNat : Int).toNat.toUInt8) = b := by simp
  simp only [hbb, index_cut] at hib
  by_cases heq : (⟨#[b]⟩ : ByteArray) = s
  · subst heq
    have hz : cutHas b [b] = true ∧ cutHead b [b] = [] := by unfold cutHas; rw [cutHead_cons]; simp
    have hl : (⟨#[b]⟩ : ByteArray).data.toList = [b] := rfl
    rw [hl, hz.1, hz.2]
    clear hib hbb hz hl
    go_enter Tryz.func269, Tryz.ntmps269
    go_wp2
    go_ret
    exact ⟨rfl, rfl⟩
  · have hne : (([b] : List UInt8) == s.toList) = false := by
      rw [ByteArray.toList_eq]
      simp only [beq_eq_false_iff_ne]
      intro h
      exact heq (bytes_ext (by simpa using h))
    obtain ⟨r, hr⟩ : ∃ r : Int, r = if cutHas b s.data.toList then ((cutHead b s.data.toList).length : Int) else -1 := ⟨_, rfl⟩
    rw [← hr] at hib ⊢
    clear hbb hr heq
    go_enter Tryz.func269, Tryz.ntmps269
    go_wp2_with fail
    refine (hib _).mono ?_
    rintro e w2 ⟨rfl, rfl⟩
    go_wp2
    go_ret
    exact ⟨rfl, rfl⟩

set_option maxRecDepth 100000 in
set_option maxHeartbeats 3200000 in
theorem slcut_any (s : ByteArray) (b : UInt8) (w : World) (hs : s.size ≤ 9223372036854775807) :
    Calls Tryz.prog 266 #[.string s, .string ⟨#[b]⟩] w fun e w' => e = .returned (.tuple #[.string ⟨(cutHead b s.data.toList).toArray⟩, .string ⟨(cutTail b s.data.toList).toArray⟩, .bool (cutHas b s.data.toList)]) ∧ Below w.heap.size w w' := by
  have hix := fun w => index_any1 s b w hs
  have hle := cutHead_le b s.data.toList
  have hsz := size_of s
  have htk := cutHead_take b s.data.toList
  rcases hb : cutHas b s.data.toList with _ | _
  · simp only [hb, Bool.false_eq_true, if_false] at hix
    have hlen : (cutHead b s.data.toList).length = s.data.toList.length := by
      unfold cutHas at hb; simp at hb; omega
    have h1 : (⟨(cutHead b s.data.toList).toArray⟩ : ByteArray) = s := bytes_ext (by rw [mk_list, ← htk, hlen, List.take_length])
    have h2 : (⟨(cutTail b s.data.toList).toArray⟩ : ByteArray) = ⟨#[]⟩ := bytes_ext (by rw [mk_list]; unfold cutTail; rw [hlen]; simp)
    rw [h1, h2]
    clear h1 h2 hlen hb htk hsz hle
    go_enter Tryz.func266, Tryz.ntmps266
    go_wp2_with fail
    refine (hix _).mono ?_
    rintro e w2 ⟨rfl, rfl⟩
    go_wp2
    go_ret3
    exact ⟨rfl, Below.refl _ _⟩
  · simp only [hb, if_true] at hix
    have hlt : (cutHead b s.data.toList).length < s.size := by
      unfold cutHas at hb; simp at hb; omega
    obtain ⟨k, hk⟩ : ∃ k, (cutHead b s.data.toList).length = k := ⟨_, rfl⟩
    have h1 : s.extract 0 k = ⟨(cutHead b s.data.toList).toArray⟩ := bytes_ext (by rw [mk_list, extract_list, List.drop_zero, ← hk]; exact htk)
    have h2 : s.extract (k + 1) s.size = ⟨(cutTail b s.data.toList).toArray⟩ := bytes_ext (by
      rw [mk_list, extract_list]; unfold cutTail; rw [hk, List.take_of_length_le (by omega)])
    rw [← h1, ← h2]
    rw [hk] at hix hlt
    have i0 : (0 : Int) ≤ (k : Int) := by omega
    have i1 : (k : Int) ≤ (s.size : Int) := by omega
    have i2 : (k : Int) + 1 ≤ (s.size : Int) := by omega
    have i3 : IntKind.i64.wrap ((k : Int) + 1) = (k : Int) + 1 := by simp [IntKind.wrap, IntKind.bits, IntKind.signed]; omega
    have i4 : (0 : Int) ≤ (k : Int) + 1 := by omega
    have i5 : ((k : Int) + 1).toNat = k + 1 := by omega
    clear h1 h2 hb htk hsz hle hk
    go_enter Tryz.func266, Tryz.ntmps266
    go_wp2_with fail
    refine (hix _).mono ?_
    rintro e w2 ⟨rfl, rfl⟩
    go_wp2
    go_quiet (fail)
    go_wp2
    go_ret3
    exact ⟨rfl, below_drewN (Below.refl _ _)⟩

set_option maxRecDepth 100000 in
theorem strcut_any (s : ByteArray) (b : UInt8) (w : World) (hs : s.size ≤ 9223372036854775807) :
    Calls Tryz.prog 228 #[.string s, .string ⟨#[b]⟩] w fun e w' => e = .returned (.tuple #[.string ⟨(cutHead b s.data.toList).toArray⟩, .string ⟨(cutTail b s.data.toList).toArray⟩, .bool (cutHas b s.data.toList)]) ∧ Below w.heap.size w w' := by
  have hc := slcut_any s b w hs
  obtain ⟨h, hh⟩ : ∃ h : ByteArray, h = ⟨(cutHead b s.data.toList).toArray⟩ := ⟨_, rfl⟩
  obtain ⟨t, ht⟩ : ∃ h : ByteArray, h = ⟨(cutTail b s.data.toList).toArray⟩ := ⟨_, rfl⟩
  obtain ⟨r, hr⟩ : ∃ h, h = cutHas b s.data.toList := ⟨_, rfl⟩
  rw [← hh, ← ht, ← hr] at hc ⊢
  clear hh ht hr
  go_enter Tryz.func228, Tryz.ntmps228
  go_wp2_with fail
  refine hc.mono ?_
  rintro e w2 ⟨rfl, b2⟩
  go_wp2
  go_ret3
  exact ⟨rfl, b2⟩
end Go.Proofs.YtijlaclngibekaaGreatDoor
/- Heads as plain lists: lines, fields, first lines. No program here. -/
namespace Go.Proofs.YtijlaclngibekaaGreatDoor
open Go.RowKit

/-! ### Heads -/
def linesL (s : List UInt8) : List (List UInt8) := Lib.split s crlfL
/-- A field of a line. -/
def lineOk (l : List UInt8) : Bool := cutHas 58 l && (goodNameL (cutHead 58 l) && goodValueL (trimL (cutTail 58 l)))
def lineF (l : List UInt8) : List UInt8 × List UInt8 := (cutHead 58 l, trimL (cutTail 58 l))
def slashB (c : UInt8) : Bool := decide (33 ≤ c.toNat ∧ c.toNat ≤ 126)
def slashOk (l : List UInt8) : Bool := l.all slashB
def targetL (l : List UInt8) : Bool := slashOk l && (Lib.hasPrefix l [47] && decide (l.length ≤ 2048))
def verL : List UInt8 := [72, 84, 84, 80, 47, 49, 46]
def minorOk (l : List UInt8) : Bool := Lib.hasPrefix l verL && (Lib.trimPrefix l verL == [48] || Lib.trimPrefix l verL == [49])
def minorN (l : List UInt8) : Nat := ((Lib.trimPrefix l verL).headD 48).toNat - 48
/-- The error of the lines ahead of the words, 0 for none. -/
def parseE (b : List UInt8) : Nat :=
  if 16384 < b.length then 6 else if Lib.hasSuffix b endL = false then 2 else
  if 65 < (linesL (Lib.trimSuffix b endL)).length then 6 else if (linesL (Lib.trimSuffix b endL)).tail.all lineOk then 0 else 2
def lineoneL (b : List UInt8) : List UInt8 := (linesL (Lib.trimSuffix b endL)).headD []
def fieldsL (b : List UInt8) : List (List UInt8 × List UInt8) := (linesL (Lib.trimSuffix b endL)).tail.map lineF
def reqWords (b : List UInt8) : List (List UInt8) := Lib.split (lineoneL b) [32]
def reqOk (ws : List (List UInt8)) : Bool :=
  decide (ws.length = 3) && (goodNameL (ws.getD 0 []) && (targetL (ws.getD 1 []) && minorOk (ws.getD 2 [])))
def reqE (b : List UInt8) : Nat := if parseE b = 0 then (if reqOk (reqWords b) then 0 else 2) else parseE b

end Go.Proofs.YtijlaclngibekaaGreatDoor

/- Law 17's strict heads: what each of its texts is as a head. No program here. -/
namespace Go.Proofs.YtijlaclngibekaaGreatDoor
open Go.RowKit

theorem no13_name {l : List UInt8} (h : goodNameL l = true) {c : UInt8} (hc : nameB c = false) : c ∉ l := fun hm => by
  unfold goodNameL at h
  simp only [Bool.and_eq_true] at h
  have := List.all_eq_true.1 h.1.1 c hm
  rw [hc] at this; cases this
theorem no13_value {l : List UInt8} (h : goodValueL l = true) {c : UInt8} (hc : valueB c = false) : c ∉ l := fun hm => by
  unfold goodValueL at h
  simp only [Bool.and_eq_true] at h
  have := List.all_eq_true.1 h.1.1 c hm
  rw [hc] at this; cases this
theorem lines_one {a : List UInt8} (h : (13 : UInt8) ∉ a) : linesL a = [a] := split_none h
theorem lines_cons {a b : List UInt8} (h : (13 : UInt8) ∉ a) : linesL (a ++ crlfL ++ b) = a :: linesL b := split_hit h
theorem words_one {a : List UInt8} (h : (32 : UInt8) ∉ a) : Lib.split a [32] = [a] := split_none h
theorem words_cons {a b : List UInt8} (h : (32 : UInt8) ∉ a) : Lib.split (a ++ [32] ++ b) [32] = a :: Lib.split b [32] := split_hit h
theorem parse_of (x : List UInt8) (h : x.length ≤ 16380) :
    parseE (x ++ endL) = (if 65 < (linesL x).length then 6 else if (linesL x).tail.all lineOk then 0 else 2) ∧ lineoneL (x ++ endL) = (linesL x).headD [] ∧ fieldsL (x ++ endL) = (linesL x).tail.map lineF := by
  have h1 := (trimSuffix_append x endL).1
  have h2 := (trimSuffix_append x endL).2
  unfold parseE lineoneL fieldsL
  rw [h1, h2, if_neg (by simp [endL]; omega), if_neg (by simp)]
  exact ⟨rfl, rfl, rfl⟩
theorem req_of {x : List UInt8} (h : x.length ≤ 16380) (hn : (linesL x).length ≤ 65) :
    reqE (x ++ endL) = if (linesL x).tail.all lineOk && reqOk (Lib.split ((linesL x).headD []) [32]) then 0 else 2 := by
  obtain ⟨h1, h2, _⟩ := parse_of x h
  unfold reqE reqWords
  rw [h1, h2, if_neg (show ¬ 65 < (linesL x).length by omega)]
  rcases (linesL x).tail.all lineOk with _ | _ <;> rcases reqOk (Lib.split ((linesL x).headD []) [32]) with _ | _ <;> rfl

def get1 : List UInt8 := [71, 69, 84, 32, 47, 32, 72, 84, 84, 80, 47, 49, 46, 49]
theorem get1_no13 : (13 : UInt8) ∉ get1 := by decide
theorem get1_ok : reqOk (Lib.split get1 [32]) = true := by decide
/-- A head of the good first line and one more line. -/
theorem two_lines {b : List UInt8} (hb : (13 : UInt8) ∉ b) : linesL (get1 ++ crlfL ++ b) = [get1, b] := by rw [lines_cons get1_no13, lines_one hb]
theorem req_two {b : List UInt8} (hb : (13 : UInt8) ∉ b) (hl : b.length ≤ 16000) : reqE (get1 ++ crlfL ++ b ++ endL) = if lineOk b then 0 else 2 := by
  have ht := two_lines hb
  rw [req_of (by simp [get1, crlfL]; omega) (by rw [ht]; simp), ht]
  simp [get1_ok]
theorem cutHead_name {a b : List UInt8} (h : (58 : UInt8) ∉ a) : cutHead 58 (a ++ 58 :: b) = a ∧ cutTail 58 (a ++ 58 :: b) = b ∧ cutHas 58 (a ++ 58 :: b) = true := by
  have h1 : cutHead 58 (a ++ 58 :: b) = a := by
    unfold cutHead
    rw [List.takeWhile_append_of_pos (by intro c hc; simp; rintro rfl; exact h hc), List.takeWhile_cons_of_neg (by simp), List.append_nil]
  refine ⟨h1, ?_, ?_⟩
  · unfold cutTail; rw [h1]; simp
  · unfold cutHas; rw [h1]; simp
theorem cutHas_none {a : List UInt8} (h : (58 : UInt8) ∉ a) : cutHas 58 a = false := by
  unfold cutHas cutHead
  rw [show a.takeWhile (fun c => !(c == 58)) = a from by
    have := List.takeWhile_append_of_pos (p := fun c : UInt8 => !(c == 58)) (l₁ := a) (l₂ := []) (by intro c hc; simp; rintro rfl; exact h hc)
    simpa using this]
  simp
theorem line_of {a b : List UInt8} (h : (58 : UInt8) ∉ a) : lineOk (a ++ 58 :: b) = (goodNameL a && goodValueL (trimL b)) ∧ lineF (a ++ 58 :: b) = (a, trimL b) := by
  obtain ⟨h1, h2, h3⟩ := cutHead_name (b := b) h
  unfold lineOk lineF
  rw [h1, h2, h3]
  exact ⟨by simp, rfl⟩

theorem trim_suffix (m suf : List UInt8) (hs : suf.all blankB = true) : trimL (m ++ suf) = trimL m := by
  show Lib.trimLeftS (((m ++ suf).reverse.dropWhile blankB).reverse) [32, 9] = Lib.trimLeftS ((m.reverse.dropWhile blankB).reverse) [32, 9]
  rw [List.reverse_append, dropWhile_all _ _ (by rw [List.all_reverse]; exact hs)]

section
variable {name value : List UInt8}
theorem name_facts (hn : goodNameL name = true) : (13 : UInt8) ∉ name ∧ (58 : UInt8) ∉ name ∧ (32 : UInt8) ∉ name ∧ name.length ≤ 256 ∧ name ≠ [] := by
  refine ⟨no13_name hn (by decide), no13_name hn (by decide), no13_name hn (by decide), ?_, ?_⟩
  · unfold goodNameL at hn; simp only [Bool.and_eq_true, decide_eq_true_eq] at hn; exact hn.2
  · rintro rfl; exact absurd hn (by decide)
theorem strict0 (hn : goodNameL name = true) (hv : goodValueL value = true) (hvl : value.length ≤ 1000) : reqE (get1 ++ crlfL ++ (name ++ [32, 58, 32] ++ value) ++ endL) = 2 := by
  obtain ⟨n1, n2, n3, n4, n5⟩ := name_facts hn
  have v1 : (13 : UInt8) ∉ value := no13_value hv (by decide)
  rw [req_two (by simp; exact ⟨n1, v1⟩) (by simp; omega)]
  have : name ++ [32, 58, 32] ++ value = (name ++ [32]) ++ 58 :: (32 :: value) := by simp
  rw [this, (line_of (by simp; exact n2)).1]
  have : goodNameL (name ++ [32]) = false := by
    unfold goodNameL
    have h32 : nameB 32 = false := by decide
    simp [h32]
  rw [this]; rfl
theorem strict1 (hn : goodNameL name = true) (hv : goodValueL value = true) (hvl : value.length ≤ 1000) : reqE (get1 ++ crlfL ++ (name ++ [58, 32] ++ value) ++ crlfL ++ [32, 109, 111, 114, 101] ++ endL) = 2 := by
  obtain ⟨n1, n2, n3, n4, n5⟩ := name_facts hn
  have v1 : (13 : UInt8) ∉ value := no13_value hv (by decide)
  have hl : linesL (get1 ++ crlfL ++ (name ++ [58, 32] ++ value) ++ crlfL ++ [32, 109, 111, 114, 101]) = [get1, name ++ [58, 32] ++ value, [32, 109, 111, 114, 101]] := by
    rw [show get1 ++ crlfL ++ (name ++ [58, 32] ++ value) ++ crlfL ++ [32, 109, 111, 114, 101] = get1 ++ crlfL ++ ((name ++ [58, 32] ++ value) ++ crlfL ++ [32, 109, 111, 114, 101]) by simp, lines_cons get1_no13, lines_cons (by simp; exact ⟨n1, v1⟩), lines_one (by decide)]
  rw [req_of (by simp [get1, crlfL]; omega) (by rw [hl]; simp), hl]
  have : lineOk [32, 109, 111, 114, 101] = false := by decide
  simp [this]
theorem strict2 (hn : goodNameL name = true) (hv : goodValueL value = true) (hvl : value.length ≤ 1000) : reqE ([71, 69, 84, 32, 47, 32, 72, 84, 84, 80, 47, 49, 46, 49, 10] ++ name ++ [58, 32] ++ value ++ endL) = 2 := by
  obtain ⟨n1, n2, n3, n4, n5⟩ := name_facts hn
  have v1 : (13 : UInt8) ∉ value := no13_value hv (by decide)
  have hl : linesL ([71, 69, 84, 32, 47, 32, 72, 84, 84, 80, 47, 49, 46, 49, 10] ++ name ++ [58, 32] ++ value) = [[71, 69, 84, 32, 47, 32, 72, 84, 84, 80, 47, 49, 46, 49, 10] ++ name ++ [58, 32] ++ value] := lines_one (by simp; exact ⟨n1, v1⟩)
  rw [req_of (by simp; omega) (by rw [hl]; simp), hl]
  have hw : Lib.split ([71, 69, 84, 32, 47, 32, 72, 84, 84, 80, 47, 49, 46, 49, 10] ++ name ++ [58, 32] ++ value) [32] = [71, 69, 84] :: [47] :: ([72, 84, 84, 80, 47, 49, 46, 49, 10] ++ name ++ [58]) :: Lib.split value [32] := by
    rw [show [71, 69, 84, 32, 47, 32, 72, 84, 84, 80, 47, 49, 46, 49, 10] ++ name ++ [58, 32] ++ value = [71, 69, 84] ++ [32] ++ ([47] ++ [32] ++ (([72, 84, 84, 80, 47, 49, 46, 49, 10] ++ name ++ [58]) ++ [32] ++ value)) by simp, words_cons (by decide), words_cons (by decide), words_cons (by simp; exact n3)]
  have hp := split_pos value [32]
  have hr : reqOk (Lib.split ([71, 69, 84, 32, 47, 32, 72, 84, 84, 80, 47, 49, 46, 49, 10] ++ name ++ [58, 32] ++ value) [32]) = false := by
    rw [hw]; unfold reqOk
    rw [decide_eq_false (by simp only [List.length_cons]; omega)]; rfl
  rw [List.headD_cons, hr, Bool.and_false]; rfl
theorem strict7 (hn : goodNameL name = true) : reqE (get1 ++ crlfL ++ name ++ endL) = 2 := by
  obtain ⟨n1, n2, n3, n4, n5⟩ := name_facts hn
  rw [req_two n1 (by omega)]
  unfold lineOk
  rw [cutHas_none n2]; rfl
theorem strict10 (hv : goodValueL value = true) (hvl : value.length ≤ 1000) : reqE (get1 ++ crlfL ++ ([58, 32] ++ value) ++ endL) = 2 := by
  have v1 : (13 : UInt8) ∉ value := no13_value hv (by decide)
  rw [req_two (by simp; exact v1) (by simp; omega)]
  have : ([58, 32] : List UInt8) ++ value = [] ++ 58 :: (32 :: value) := by simp
  rw [this, (line_of (by simp)).1]
  rfl
theorem strict11 (hn : goodNameL name = true) : reqE (get1 ++ crlfL ++ (name ++ [58, 32, 97, 0, 98]) ++ endL) = 2 := by
  obtain ⟨n1, n2, n3, n4, n5⟩ := name_facts hn
  rw [req_two (by simp; exact n1) (by simp; omega)]
  have : name ++ [58, 32, 97, 0, 98] = name ++ 58 :: [32, 97, 0, 98] := by simp
  rw [this, (line_of n2).1]
  have : goodValueL (trimL [32, 97, 0, 98]) = false := by decide
  rw [this, Bool.and_false]; rfl
theorem trim_good (hv : goodValueL value = true) : trimL (value ++ [32, 9]) = value := by
  have ht : trimL value = value := by
    unfold goodValueL at hv; simp only [Bool.and_eq_true, beq_iff_eq] at hv; exact hv.2
  rw [trim_suffix value _ (by decide), ht]
theorem strictOk (hn : goodNameL name = true) (hv : goodValueL value = true) (hvl : value.length ≤ 1000) : reqE (get1 ++ crlfL ++ (name ++ [58] ++ value ++ [32, 9]) ++ endL) = 0 ∧ fieldsL (get1 ++ crlfL ++ (name ++ [58] ++ value ++ [32, 9]) ++ endL) = [(name, value)] := by
  obtain ⟨n1, n2, n3, n4, n5⟩ := name_facts hn
  have v1 : (13 : UInt8) ∉ value := no13_value hv (by decide)
  have hl : (13 : UInt8) ∉ name ++ [58] ++ value ++ [32, 9] := by simp; exact ⟨n1, v1⟩
  have he : name ++ [58] ++ value ++ [32, 9] = name ++ 58 :: (value ++ [32, 9]) := by simp
  have ht := trim_good hv
  constructor
  · rw [req_two hl (by simp; omega), he, (line_of n2).1, ht, hn, hv]; rfl
  · rw [(parse_of _ (by simp [get1, crlfL]; omega)).2.2, two_lines hl, List.tail_cons, List.map_cons, he, (line_of n2).2, ht]; rfl
end
theorem strict3 : reqE ([71, 69, 84, 32, 32, 47, 32, 72, 84, 84, 80, 47, 49, 46, 49] ++ endL) = 2 := by decide
theorem strict4 : reqE ([71, 69, 84, 32, 47, 32, 72, 84, 84, 80, 47, 49, 46, 50] ++ endL) = 2 := by decide
theorem strict5 : reqE ([71, 69, 84, 32, 47, 32, 72, 84, 84, 80, 47, 49, 46, 49, 32] ++ endL) = 2 := by decide
theorem strict6 : reqE ([32, 71, 69, 84, 32, 47, 32, 72, 84, 84, 80, 47, 49, 46, 49] ++ endL) = 2 := by decide
theorem strict8 : reqE ([13, 10] ++ get1 ++ endL) = 2 := by decide
theorem strict9 : reqE ([71, 69, 84, 32, 97, 32, 72, 84, 84, 80, 47, 49, 46, 49] ++ endL) = 2 := by decide
end Go.Proofs.YtijlaclngibekaaGreatDoor

/- Heads printed, as plain lists. No program here. -/
namespace Go.Proofs.YtijlaclngibekaaGreatDoor
open Go.RowKit

theorem app_list (a b : ByteArray) : (a ++ b).data.toList = a.data.toList ++ b.data.toList := by simp
def fldOk (f : List UInt8 × List UInt8) : Bool := goodNameL f.1 && goodValueL f.2
def fldLn (f : List UInt8 × List UInt8) : List UInt8 := f.1 ++ [58, 32] ++ f.2 ++ crlfL
def linesB (fs : List (List UInt8 × List UInt8)) : List UInt8 := fs.flatMap fldLn
def headB (first : List UInt8) (fs : List (List UInt8 × List UInt8)) : List UInt8 := first ++ crlfL ++ linesB fs ++ crlfL
def printE (first : List UInt8) (fs : List (List UInt8 × List UInt8)) : Nat :=
  if 64 < fs.length then 2 else if fs.all fldOk = false then 2 else if 16384 < (headB first fs).length then 6 else 0
def printB (first : List UInt8) (fs : List (List UInt8 × List UInt8)) : List UInt8 := if printE first fs = 0 then headB first fs else []
theorem linesB_snoc (fs : List (List UInt8 × List UInt8)) (f : List UInt8 × List UInt8) : linesB (fs ++ [f]) = linesB fs ++ fldLn f := by simp [linesB]
theorem linesB_len (fs : List (List UInt8 × List UInt8)) (k : Nat) (hok : ∀ f ∈ fs, f.1.length ≤ 1000000 ∧ f.2.length ≤ 1000000) (hk : fs.length ≤ k) : (linesB fs).length ≤ k * 2000004 := by
  induction fs generalizing k with
  | nil => simp [linesB]
  | cons f fs ih =>
    obtain ⟨h1, h2⟩ := hok f (by simp)
    have := ih (k - 1) (fun g hg => hok g (by simp [hg])) (by simp at hk; omega)
    have e : (linesB (f :: fs)).length = (fldLn f).length + (linesB fs).length := by simp [linesB]
    have e2 : (fldLn f).length = f.1.length + 2 + f.2.length + 2 := by simp [fldLn, crlfL]; omega
    simp at hk
    have e3 : k * 2000004 = (k - 1) * 2000004 + 2000004 := by omega
    omega
theorem print_bad {first : List UInt8} {fs : List (List UInt8 × List UInt8)} (h : fs.all fldOk = false) : printE first fs = 2 ∧ printB first fs = [] := by
  have h1 : printE first fs = 2 := by unfold printE; rw [if_pos h]; split <;> rfl
  exact ⟨h1, by unfold printB; rw [h1]; rfl⟩
theorem print_many {first : List UInt8} {fs : List (List UInt8 × List UInt8)} (h : 64 < fs.length) : printE first fs = 2 ∧ printB first fs = [] := by
  have h1 : printE first fs = 2 := by unfold printE; rw [if_pos h]
  exact ⟨h1, by unfold printB; rw [h1]; rfl⟩
theorem print_long {first : List UInt8} {fs : List (List UInt8 × List UInt8)} (hn : ¬ 64 < fs.length) (ha : fs.all fldOk = true) (h : 16384 < (headB first fs).length) : printE first fs = 6 ∧ printB first fs = [] := by
  have h1 : printE first fs = 6 := by unfold printE; rw [if_neg hn, if_neg (by simp [ha]), if_pos h]
  exact ⟨h1, by unfold printB; rw [h1]; rfl⟩
theorem print_ok {first : List UInt8} {fs : List (List UInt8 × List UInt8)} (hn : ¬ 64 < fs.length) (ha : fs.all fldOk = true) (h : ¬ 16384 < (headB first fs).length) : printE first fs = 0 ∧ printB first fs = headB first fs := by
  have h1 : printE first fs = 0 := by unfold printE; rw [if_neg hn, if_neg (by simp [ha]), if_neg h]
  exact ⟨h1, by unfold printB; rw [h1]; rfl⟩
end Go.Proofs.YtijlaclngibekaaGreatDoor

/- A printed head, read again; law 17's full heads. No program here. -/
namespace Go.Proofs.YtijlaclngibekaaGreatDoor
open Go.RowKit

theorem lines_join : ∀ (ls : List (List UInt8)) (first : List UInt8), (13 : UInt8) ∉ first → (∀ x ∈ ls, (13 : UInt8) ∉ x) → linesL (first ++ ls.flatMap (fun x => crlfL ++ x)) = first :: ls
  | [], first, h0, _ => by rw [List.flatMap_nil, List.append_nil]; exact lines_one h0
  | x :: ls, first, h0, h => by
    have ih := lines_join ls x (h x (by simp)) (fun y hy => h y (by simp [hy]))
    rw [List.flatMap_cons, show first ++ (crlfL ++ x ++ ls.flatMap fun x => crlfL ++ x) = first ++ crlfL ++ (x ++ ls.flatMap fun x => crlfL ++ x) by simp, lines_cons h0, ih]
def fldTx (f : List UInt8 × List UInt8) : List UInt8 := f.1 ++ 58 :: 32 :: f.2
theorem fldLn_tx (f : List UInt8 × List UInt8) : fldLn f = fldTx f ++ crlfL := by simp [fldLn, fldTx]
theorem linesB_join : ∀ fs : List (List UInt8 × List UInt8), crlfL ++ linesB fs = (fs.map fldTx).flatMap (fun x => crlfL ++ x) ++ crlfL
  | [] => by simp [linesB]
  | f :: fs => by
    have ih := linesB_join fs
    have e : linesB (f :: fs) = fldLn f ++ linesB fs := by simp [linesB]
    rw [e, fldLn_tx, List.map_cons, List.flatMap_cons, List.append_assoc (fldTx f), ih]
    simp
theorem headB_end (first : List UInt8) (fs : List (List UInt8 × List UInt8)) : headB first fs = (first ++ (fs.map fldTx).flatMap (fun x => crlfL ++ x)) ++ endL := by
  have := linesB_join fs
  unfold headB
  rw [List.append_assoc first, this]
  simp [endL, crlfL]
theorem trim_blank (v : List UInt8) : trimL (32 :: v) = trimL v := by
  show (((32 :: v).reverse.dropWhile blankB).reverse).dropWhile blankB = ((v.reverse.dropWhile blankB).reverse).dropWhile blankB
  rw [List.reverse_cons, List.dropWhile_append]
  rcases h : (List.dropWhile blankB v.reverse).isEmpty with _ | _
  · rw [if_neg (by simp), List.reverse_append]
    rfl
  · rw [if_pos rfl]
    rw [List.isEmpty_iff] at h
    rw [h]
    rfl
theorem tx_facts {f : List UInt8 × List UInt8} (h : fldOk f = true) : (13 : UInt8) ∉ fldTx f ∧ lineOk (fldTx f) = true ∧ lineF (fldTx f) = f := by
  unfold fldOk at h
  simp only [Bool.and_eq_true] at h
  obtain ⟨h1, h2⟩ := h
  have n1 := no13_name h1 (c := 13) (by decide)
  have n2 := no13_name h1 (c := 58) (by decide)
  have v1 := no13_value h2 (c := 13) (by decide)
  have ht : trimL (32 :: f.2) = f.2 := by
    rw [trim_blank]
    unfold goodValueL at h2
    simp only [Bool.and_eq_true, beq_iff_eq] at h2
    exact h2.2
  obtain ⟨l1, l2⟩ := line_of (b := 32 :: f.2) n2
  refine ⟨by simp [fldTx]; exact ⟨n1, v1⟩, ?_, ?_⟩
  · unfold fldTx; rw [l1, ht, h1, h2]; rfl
  · unfold fldTx; rw [l2, ht]
theorem parse_head {first : List UInt8} {fs : List (List UInt8 × List UInt8)} (hf : (13 : UInt8) ∉ first) (hall : fs.all fldOk = true) (hl : (headB first fs).length ≤ 16384) :
    parseE (headB first fs) = (if 64 < fs.length then 6 else 0) ∧ lineoneL (headB first fs) = first ∧ fieldsL (headB first fs) = fs := by
  have hj := lines_join (fs.map fldTx) first hf (fun x hx => by
    obtain ⟨f, hfm, rfl⟩ := List.mem_map.1 hx
    exact (tx_facts (List.all_eq_true.1 hall f hfm)).1)
  have hE := headB_end first fs
  rw [hE] at hl ⊢
  obtain ⟨p1, p2, p3⟩ := parse_of (first ++ (fs.map fldTx).flatMap (fun x => crlfL ++ x)) (by rw [List.length_append] at hl; simp only [endL, List.length_cons, List.length_nil] at hl; omega)
  rw [hj] at p1 p2 p3
  have hok : (fs.map fldTx).all lineOk = true := by
    rw [List.all_map, List.all_eq_true]
    intro f hfm
    exact (tx_facts (List.all_eq_true.1 hall f hfm)).2.1
  refine ⟨?_, p2, ?_⟩
  · rw [p1, List.tail_cons, hok, List.length_cons, List.length_map]
    by_cases h : 64 < fs.length
    · rw [if_pos (by omega), if_pos h]
    · rw [if_neg (by omega), if_neg h]; rfl
  · rw [p3, List.tail_cons, List.map_map]
    conv => rhs; rw [← List.map_id fs]
    exact List.map_congr_left fun f hfm => (tx_facts (List.all_eq_true.1 hall f hfm)).2.2

theorem udig_digits (n : Nat) : ∀ c ∈ udig n, nameB c = true := by
  have hd : ∀ k : Nat, k < 10 → nameB (48 + UInt8.ofNat k) = true := by decide
  induction n using udig.induct with
  | case1 n h => rw [udig, dif_pos h]; intro c hc; simp only [List.mem_singleton] at hc; subst hc; exact hd _ (Nat.mod_lt _ (by decide))
  | case2 n h ih =>
    rw [udig, dif_neg h]; intro c hc
    rcases List.mem_append.1 hc with h1 | h1
    · exact ih c h1
    · simp only [List.mem_singleton] at h1; subst h1; exact hd _ (Nat.mod_lt _ (by decide))
/-- The fields "a0: b" and so on. -/
def fullF (i : Nat) : List UInt8 × List UInt8 := (97 :: udig i, [98])
def fullL (k : Nat) : List (List UInt8 × List UInt8) := (List.range k).map fullF
theorem fullL_succ (k : Nat) : fullL (k + 1) = fullL k ++ [fullF k] := by simp [fullL, List.range_succ]
theorem fullL_len (k : Nat) : (fullL k).length = k := by simp [fullL]
theorem full_good (i : Nat) (hi : i < 70) : fldOk (fullF i) = true := by
  have hl := udig_length i
  have ha : (97 :: udig i).all nameB = true := by
    rw [List.all_cons, List.all_eq_true.2 (udig_digits i)]; rfl
  unfold fldOk fullF goodNameL
  simp only [ha, Bool.true_and]
  rw [decide_eq_true (by simp), decide_eq_true (by simp only [List.length_cons]; omega)]
  decide
theorem full_all (k : Nat) (hk : k ≤ 70) : (fullL k).all fldOk = true := by
  rw [List.all_eq_true]
  intro f hf
  obtain ⟨i, hi, rfl⟩ := List.mem_map.1 hf
  exact full_good i (by have := List.mem_range.1 hi; omega)
theorem full_len (k : Nat) (hk : k ≤ 70) : (linesB (fullL k)).length ≤ k * 16 := by
  induction k with
  | zero => simp [fullL, linesB]
  | succ k ih =>
    have := ih (by omega)
    have hl := udig_length k
    rw [fullL_succ, linesB_snoc, List.length_append]
    have : (fldLn (fullF k)).length = (udig k).length + 6 := by simp [fldLn, fullF, crlfL]
    omega
theorem full_head (k : Nat) (hk : k < 70) : (headB get1 (fullL k)).length ≤ 2000 := by
  have := full_len k (by omega)
  unfold headB
  simp only [List.length_append, get1, crlfL, List.length_cons, List.length_nil]
  omega
theorem full_parse (k : Nat) (hk : k < 70) : reqE (headB get1 (fullL k)) = (if 64 < k then 6 else 0) ∧ fieldsL (headB get1 (fullL k)) = fullL k := by
  have hl := full_head k hk
  obtain ⟨h1, h2, h3⟩ := parse_head get1_no13 (full_all k (by omega)) (show (headB get1 (fullL k)).length ≤ 16384 by omega)
  refine ⟨?_, h3⟩
  unfold reqE reqWords
  rw [h1, h2, fullL_len, get1_ok]
  by_cases h : 64 < k
  · rw [if_pos h]; rfl
  · rw [if_neg h]; rfl
theorem full_print (k : Nat) (hk : k < 70) : printE get1 (fullL k) = if 64 < k then 2 else 0 := by
  have hl := full_head k hk
  by_cases h : 64 < k
  · rw [if_pos h, (print_many (by rw [fullL_len]; exact h)).1]
  · rw [if_neg h, (print_ok (by rw [fullL_len]; exact h) (full_all k (by omega)) (by omega)).1]
theorem full_value (u : Nat) (hu : u < 4200) : reqE (get1 ++ crlfL ++ ([97, 58, 32] ++ List.replicate u 118) ++ endL) = if u ≤ 4096 then 0 else 2 := by
  have hb : (13 : UInt8) ∉ ([97, 58, 32] ++ List.replicate u 118 : List UInt8) := by
    intro h
    rcases List.mem_append.1 h with h | h
    · revert h; decide
    · have := List.eq_of_mem_replicate h; revert this; decide
  have ht : trimL (List.replicate u 118) = List.replicate u (118 : UInt8) := by
    have := trim_mid [] (List.replicate u 118) [] rfl rfl (by
      rcases u with _ | u
      · exact .inl rfl
      · exact .inr ⟨118, rfl, by decide⟩) (by
      rcases u with _ | u
      · exact .inl rfl
      · exact .inr ⟨118, by rw [List.getLast?_replicate]; rfl, by decide⟩)
    simpa using this
  have ha : (List.replicate u (118 : UInt8)).all valueB = true := by
    rw [List.all_eq_true]; intro c hc; rw [List.eq_of_mem_replicate hc]; decide
  rw [req_two hb (by simp; omega), show ([97, 58, 32] ++ List.replicate u 118 : List UInt8) = [97] ++ 58 :: (32 :: List.replicate u 118) by simp, (line_of (a := [97]) (by decide)).1, trim_blank, ht]
  unfold goodValueL
  rw [ha, ht, List.length_replicate]
  by_cases h : u ≤ 4096
  · rw [decide_eq_true h, if_pos h]; simp; decide
  · rw [decide_eq_false h, if_neg h]; simp
end Go.Proofs.YtijlaclngibekaaGreatDoor

/- Printed heads read again: where they end, and as which request or response. No program here. -/
namespace Go.Proofs.YtijlaclngibekaaGreatDoor
open Go.RowKit

theorem occ_drop (a b sub : List UInt8) (j : Nat) : Lib.occAt (a ++ b) sub (a.length + j) = Lib.occAt b sub j := by
  unfold Lib.occAt
  rw [← List.drop_drop, List.drop_left]
theorem no_end_before : ∀ (ls : List (List UInt8)) (first more : List UInt8), (13 : UInt8) ∉ first → (∀ x ∈ ls, (13 : UInt8) ∉ x ∧ x ≠ []) →
    ∀ j, j < (first ++ ls.flatMap (fun x => crlfL ++ x)).length → Lib.occAt ((first ++ ls.flatMap (fun x => crlfL ++ x)) ++ (endL ++ more)) endL j = false
  | [], first, more, h0, _, j, hj => by
    rw [List.flatMap_nil, List.append_nil] at hj ⊢
    exact noc_at h0 hj
  | x :: ls, first, more, h0, h, j, hj => by
    have hx := h x (by simp)
    have ih := no_end_before ls x more hx.1 (fun y hy => h y (by simp [hy]))
    have e : (first ++ (x :: ls).flatMap (fun x => crlfL ++ x)) ++ (endL ++ more) = first ++ (crlfL ++ ((x ++ ls.flatMap (fun x => crlfL ++ x)) ++ (endL ++ more))) := by simp
    have el : (first ++ (x :: ls).flatMap (fun x => crlfL ++ x)).length = first.length + (2 + (x ++ ls.flatMap (fun x => crlfL ++ x)).length) := by simp [crlfL]; omega
    rw [el] at hj
    rw [e]
    generalize hy : (x ++ ls.flatMap (fun x => crlfL ++ x)) = y at ih hj ⊢
    by_cases h1 : j < first.length
    · exact noc_at h0 h1
    · obtain ⟨k, rfl⟩ : ∃ k, j = first.length + k := ⟨j - first.length, by omega⟩
      rw [occ_drop]
      obtain ⟨c, x', rfl⟩ : ∃ c x', x = c :: x' := by
        cases x with
        | nil => exact absurd rfl hx.2
        | cons c x' => exact ⟨c, x', rfl⟩
      have hc : c ≠ 13 := fun e => hx.1 (by simp [e])
      match k, hj with
      | 0, _ =>
        subst hy
        simp [Lib.occAt, crlfL, endL, List.isPrefixOf]
        intro e; exact absurd e.symm hc
      | 1, _ => simp [Lib.occAt, crlfL, endL, List.isPrefixOf]
      | k + 2, hj =>
        have := ih k (by omega)
        rw [show k + 2 = crlfL.length + k by simp [crlfL]; omega, occ_drop]
        exact this
theorem take_app (a b : List UInt8) (n : Nat) (h : a.length ≤ n) : (a ++ b).take n = a ++ b.take (n - a.length) := by
  rw [List.take_append, List.take_of_length_le h]
theorem head_end {first : List UInt8} {fs : List (List UInt8 × List UInt8)} (hf : (13 : UInt8) ∉ first) (hall : fs.all fldOk = true) (hl : (headB first fs).length ≤ 16384) (more : List UInt8) :
    endE (headB first fs ++ more) = 0 ∧ endN (headB first fs ++ more) = (headB first fs).length := by
  have hno := no_end_before (fs.map fldTx) first (more.take (16384 - (headB first fs).length)) hf (fun x hx => by
    obtain ⟨f, hfm, rfl⟩ := List.mem_map.1 hx
    exact ⟨(tx_facts (List.all_eq_true.1 hall f hfm)).1, by simp [fldTx]⟩)
  have hE := headB_end first fs
  generalize hx : (first ++ (fs.map fldTx).flatMap (fun x => crlfL ++ x)) = X at hno hE
  have hlen : (headB first fs).length = X.length + 4 := by rw [hE]; simp [endL]
  have hi : endI (headB first fs ++ more) = (X.length : Int) := by
    unfold endI
    rw [take_app _ _ _ hl]
    generalize more.take (16384 - (headB first fs).length) = m at hno ⊢
    rw [hE, List.append_assoc]
    refine Lib.index_first (by simp) ?_ hno
    unfold Lib.occAt
    rw [List.drop_left, List.isPrefixOf_iff_prefix]
    exact List.prefix_append _ _
  obtain ⟨e1, e2⟩ := end_hit hi
  exact ⟨e1, by rw [e2, hlen]⟩
end Go.Proofs.YtijlaclngibekaaGreatDoor
