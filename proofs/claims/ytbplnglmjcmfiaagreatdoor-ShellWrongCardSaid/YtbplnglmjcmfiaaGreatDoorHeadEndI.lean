/- Separators in plain lists. No program here. -/
import Derived.Test.YtbplnglmjcmfiaaGreatDoorOwn
import Derived.Lib.Split
import Derived.Lib.IndexMore
import Derived.Test.YtbplnglmjcmfiaaGreatDoorShelf3
import Derived.Lib.SlBytesConst
namespace Go.Proofs.YtbplnglmjcmfiaaGreatDoor
open Go.RowKit

/-! ### Cutting at a separator whose first byte stands nowhere else -/
theorem noc_at {c : UInt8} {t a b : List UInt8} (h : c ∉ a) {j : Nat} (hj : j < a.length) : Lib.occAt (a ++ b) (c :: t) j = false := by
  rcases hb : Lib.occAt (a ++ b) (c :: t) j with _ | _
  · rfl
  · exfalso
    have := Lib.occAt_head rfl hb
    rw [List.getElem?_append_left hj] at this
    exact h (List.mem_of_getElem? this)
theorem index_hit {c : UInt8} {t a b : List UInt8} (h : c ∉ a) : Lib.index (a ++ (c :: t) ++ b) (c :: t) = a.length := by
  refine Lib.index_first (by simp) ?_ fun j hj => by rw [List.append_assoc]; exact noc_at h hj
  unfold Lib.occAt
  rw [List.append_assoc, List.drop_left, List.isPrefixOf_iff_prefix]
  exact List.prefix_append _ _
theorem index_miss {c : UInt8} {t a : List UInt8} (h : c ∉ a) : Lib.index a (c :: t) = -1 := by
  refine Lib.index_none fun j hj => ?_
  rcases Nat.lt_or_ge j a.length with hl | hl
  · have := noc_at (b := []) (t := t) h hl
    rwa [List.append_nil] at this
  · unfold Lib.occAt
    rw [List.drop_eq_nil_of_le hl]; rfl
theorem splitK_none {c : UInt8} {t a : List UInt8} (h : c ∉ a) : ∀ k, Lib.splitK (c :: t) 0 k a = [a]
  | 0 => rfl
  | k + 1 => by unfold Lib.splitK; rw [index_miss h]; rfl
theorem splitK_hit {c : UInt8} {t a b : List UInt8} (h : c ∉ a) (k : Nat) : Lib.splitK (c :: t) 0 (k + 1) (a ++ (c :: t) ++ b) = a :: Lib.splitK (c :: t) 0 k b := by
  have hi := index_hit (t := t) (b := b) h
  conv => lhs; unfold Lib.splitK
  rw [hi, if_neg (by simp)]
  simp only [Int.toNat_natCast, Nat.add_zero]
  rw [List.append_assoc, List.take_left, ← List.append_assoc, show a.length + (c :: t).length = (a ++ (c :: t)).length by simp, List.drop_left]
theorem split_none {c : UInt8} {t a : List UInt8} (h : c ∉ a) : Lib.split a (c :: t) = [a] := splitK_none h _
theorem split_hit {c : UInt8} {t a b : List UInt8} (h : c ∉ a) : Lib.split (a ++ (c :: t) ++ b) (c :: t) = a :: Lib.split b (c :: t) := by
  unfold Lib.split
  rw [Lib.count_hit (by simp) (index_hit (b := b) h), show a.length + (c :: t).length = (a ++ (c :: t)).length by simp, List.drop_left, Nat.add_comm 1, splitK_hit h]
theorem splitK_ne : ∀ (k : Nat) (sep : List UInt8) (sv : Nat) (s : List UInt8), Lib.splitK sep sv k s ≠ []
  | 0, _, _, _ => by simp [Lib.splitK]
  | k + 1, sep, sv, s => by unfold Lib.splitK; split <;> simp
theorem split_pos (s sep : List UInt8) : 1 ≤ (Lib.split s sep).length := by
  rcases h : Lib.split s sep with _ | ⟨x, l⟩
  · exact absurd h (splitK_ne _ _ _ _)
  · simp
theorem splitK_mem : ∀ (k : Nat) (sep : List UInt8) (s x : List UInt8), x ∈ Lib.splitK sep 0 k s → x.length ≤ s.length
  | 0, _, s, x, h => by simp [Lib.splitK] at h; subst h; exact Nat.le_refl _
  | k + 1, sep, s, x, h => by
    unfold Lib.splitK at h
    split at h
    · simp at h; subst h; exact Nat.le_refl _
    · rcases List.mem_cons.1 h with rfl | h
      · simp; omega
      · have := splitK_mem k sep _ x h
        simp at this; omega
theorem splitK_len : ∀ (k : Nat) (sep : List UInt8) (s : List UInt8), (Lib.splitK sep 0 k s).length ≤ k + 1
  | 0, _, _ => by simp [Lib.splitK]
  | k + 1, sep, s => by
    unfold Lib.splitK
    split
    · simp
    · have := splitK_len k sep (s.drop ((Lib.index s sep).toNat + sep.length))
      simp only [List.length_cons]; omega

def crlfL : List UInt8 := [13, 10]
def endL : List UInt8 := [13, 10, 13, 10]
theorem trimSuffix_append (a b : List UInt8) : Lib.hasSuffix (a ++ b) b = true ∧ Lib.trimSuffix (a ++ b) b = a := by
  have h : Lib.hasSuffix (a ++ b) b = true := by unfold Lib.hasSuffix; rw [List.isSuffixOf_iff_suffix]; exact List.suffix_append _ _
  refine ⟨h, ?_⟩
  unfold Lib.trimSuffix
  rw [if_pos h]; simp
end Go.Proofs.YtbplnglmjcmfiaaGreatDoor

/- Where a head ends, as plain lists. No program here. -/
namespace Go.Proofs.YtbplnglmjcmfiaaGreatDoor
open Go.RowKit

def endI (b : List UInt8) : Int := Lib.index (b.take 16384) endL
def endE (b : List UInt8) : Nat := if 0 ≤ endI b then 0 else if 16384 ≤ b.length then 6 else 5
def endN (b : List UInt8) : Nat := if 0 ≤ endI b then (endI b).toNat + 4 else 0
theorem occ_take (l sub : List UInt8) (N j : Nat) : Lib.occAt (l.take N) sub j = true ↔ Lib.occAt l sub j = true ∧ (sub.length ≤ N - j) := by
  unfold Lib.occAt
  rw [List.isPrefixOf_iff_prefix, List.isPrefixOf_iff_prefix, List.drop_take, List.prefix_take_iff]
theorem occ_two (l : List UInt8) (i : Nat) : Lib.occAt l endL i = (Lib.occAt l crlfL i && Lib.occAt l crlfL (i + 2)) := by
  unfold Lib.occAt
  rw [← List.drop_drop]
  generalize l.drop i = m
  match m with
  | [] => rfl
  | [a] => simp [endL, crlfL, List.isPrefixOf]
  | a :: b :: m => simp [endL, crlfL, List.isPrefixOf, Bool.and_assoc]
theorem endI_hit {b : List UInt8} {k : Nat} (h4 : k + 4 ≤ 16384) (h : Lib.occAt b endL k = true) (hn : ∀ j, j < k → Lib.occAt b endL j = false) : endI b = k := by
  have hr := Lib.occAt_room h
  have hl : k + 4 ≤ b.length := by
    rcases hr with h | h
    · exact h
    · cases h
  refine Lib.index_first (by rw [List.length_take]; omega) ((occ_take _ _ _ _).2 ⟨h, by simp [endL]; omega⟩) fun j hj => ?_
  rcases hb : Lib.occAt (b.take 16384) endL j with _ | _
  · rfl
  · have := ((occ_take _ _ _ _).1 hb).1
    rw [hn j hj] at this; cases this
theorem endI_miss {b : List UInt8} {k : Nat} (hk : b.length < k + 4 ∨ 16384 < k + 4) (hn : ∀ j, j < k → Lib.occAt b endL j = false) : endI b = -1 := by
  refine Lib.index_none fun j hj => ?_
  rcases hb : Lib.occAt (b.take 16384) endL j with _ | _
  · rfl
  · obtain ⟨h1, h2⟩ := (occ_take _ _ _ _).1 hb
    rcases Lib.occAt_room h1 with h3 | h3
    · have h4 : endL.length = 4 := rfl
      rw [h4] at h2 h3
      rw [hn j (by omega)] at h1; cases h1
    · cases h3
theorem end_hit {b : List UInt8} {k : Nat} (h : endI b = k) : endE b = 0 ∧ endN b = k + 4 := by
  unfold endE endN
  rw [h, if_pos (by omega), if_pos (by omega)]
  exact ⟨rfl, by simp⟩
theorem end_miss {b : List UInt8} (h : endI b = -1) : endE b = (if 16384 ≤ b.length then 6 else 5) ∧ endN b = 0 := by
  unfold endE endN
  rw [h]
  exact ⟨if_neg (by decide), if_neg (by decide)⟩
theorem occ_step {l : List UInt8} {i : Nat} (h : i + 1 < l.length) : Lib.occAt l crlfL i = ((l[i]'(by omega)) == 13 && l[i + 1] == 10) := by
  unfold Lib.occAt
  rw [List.drop_eq_getElem_cons (show i < l.length by omega), List.drop_eq_getElem_cons h]
  generalize l[i] = x
  generalize l[i + 1] = y
  show ((13 == x) && ((10 == y) && true)) = _
  rw [Bool.and_true, Bool.beq_comm (a := (13 : UInt8)), Bool.beq_comm (a := (10 : UInt8))]
theorem occ_short {l : List UInt8} {i : Nat} (h : ¬ i + 1 < l.length) : Lib.occAt l crlfL i = false := by
  rcases hb : Lib.occAt l crlfL i with _ | _
  · rfl
  · rcases Lib.occAt_room hb with h3 | h3
    · exact absurd (show i + 1 < l.length from h3) h
    · cases h3
end Go.Proofs.YtbplnglmjcmfiaaGreatDoor

/- head.End. -/
namespace Go.Proofs.YtbplnglmjcmfiaaGreatDoor
open Go.RowKit

theorem bytesOf_nums (l : List UInt8) : Lib.bytesOf (l.map fun b => (b.toNat : Int)) = l := by
  unfold Lib.bytesOf
  rw [List.map_map]
  conv => rhs; rw [← List.map_id l]
  refine List.map_congr_left fun b _ => ?_
  simp
set_option maxRecDepth 100000 in
set_option maxHeartbeats 3200000 in
theorem headend_any (A : Option Addr) (n c B : Nat) (bs : List UInt8) (mx : Int) (w : World) (h : Rd w B 1 A n (bcells bs)) (hB : B ≤ w.heap.size) (hn : n ≤ 100000) (hnc : n ≤ c) (hA : A = none → c = 0) (hm : w.cell? ⟨0, 0, none⟩ = some (.int .i64 mx)) :
    Calls Tryz.prog 170 #[.slice A n c] w fun e w' => e = .returned (.tuple #[.int .i64 (endN bs), .int .i64 (endE bs)]) ∧ Below w.heap.size w w' := by
  have hlen : bs.length = n := by have := h.1; rw [bcells_length] at this; omega
  have hmb : 0 < w.heap.size := World.block_lt_of_cell? w _ hm
  have kc := fun (w : World) (C : Array Value) (n c : Nat) => Lib.run_convert_bytes_const (P := Tryz.prog) w 22 5 C n c Tryz.underlying22 Tryz.underlying5
  obtain ⟨w2, hw2⟩ : ∃ x, x = w.alloc (.cells #[.int .u8 13, .int .u8 10, .int .u8 13, .int .u8 10] 5 (4, 5)) := ⟨_, rfl⟩
  have b2 : Below w.heap.size w w2 := by rw [hw2]; exact (Below.refl _ _).alloc (Nat.le_refl _) _
  have hm2 : w2.cell? ⟨0, 0, none⟩ = some (.int .i64 mx) := (b2.cell (p := ⟨0, 0, none⟩) hmb).trans hm
  have hcy : ∀ i, i < 4 → w2.cell? ((⟨w.heap.size, 0, none⟩ : Addr).add i) = some (.int .u8 (([13, 10, 13, 10] : List Int).getD i 0)) := fun i hi => by
    rw [Addr.add_lit, hw2, cell_of_row _ w.heap.size _ _ _ (4, 5) (heap_alloc_new w _)]
    match i, hi with
    | 0, _ => rfl
    | 1, _ => rfl
    | 2, _ => rfl
    | 3, _ => rfl
  obtain ⟨m, hmn⟩ : ∃ m, m = min n 16384 := ⟨_, rfl⟩
  have hidx : ∃ r : Int, r = endI bs ∧ (Calls Tryz.prog 233 #[.slice A m c, .slice (some ⟨w.heap.size, 0, none⟩) 4 4] w2 fun e w' => e = .returned (.int .i64 r) ∧ Below w2.heap.size w2 w') := by
    rcases A with _ | a
    · have h0 : n = 0 := by
        rcases h.2 with h0 | ⟨_, h0, _⟩
        · exact h0
        · cases h0
      subst h0
      obtain rfl : c = 0 := hA rfl
      obtain rfl : m = 0 := by omega
      obtain rfl : bs = [] := List.eq_nil_of_length_eq_zero hlen
      refine ⟨_, rfl, (Tryz.bytes_Index_nil (some ⟨w.heap.size, 0, none⟩) 4 4 w2 (by omega) (by omega)).mono ?_⟩
      rintro e w' ⟨rfl, rfl⟩
      exact ⟨rfl, Below.refl _ _⟩
    · have hx := (Tryz.bytes_Index_at a ⟨w.heap.size, 0, none⟩ m c 4 4 ((bs.take m).map fun b => (b.toNat : Int)) [13, 10, 13, 10] mx w2 (by simp; omega) rfl (by intro x hx; obtain ⟨b, _, rfl⟩ := List.mem_map.1 hx; have := b.toNat_lt; omega) (by decide)
        (fun i hi => by
          obtain ⟨a', ha, hab, hc⟩ := h.at_ (k := i) (by omega)
          cases ha
          have hbi : i < bs.length := by omega
          have hbt : i < (bs.take m).length := by rw [List.length_take]; omega
          have := hc i _ (bcells_get bs i hbi)
          rw [b2.cell (by rw [addr_add_block]; omega), this, List.getD_eq_getElem?_getD, List.getElem?_map, List.getElem?_eq_getElem hbt, List.getElem_take]
          rfl) hcy (by omega) (by omega) (by omega) hm2)
      rw [bytesOf_nums] at hx
      refine ⟨_, rfl, hx.mono ?_⟩
      rintro e w' ⟨rfl, q, rfl⟩
      refine ⟨?_, below_drewN (Below.refl _ _)⟩
      have : bs.take m = bs.take 16384 := by
        rw [hmn, ← hlen]
        rcases Nat.le_total bs.length 16384 with h1 | h1
        · rw [Nat.min_eq_left h1, List.take_length, List.take_of_length_le h1]
        · rw [Nat.min_eq_right h1]
      rw [this]
      rfl
  obtain ⟨r, hr, hq⟩ := hidx
  have hm1 : min (n : Int) 16384 = (m : Int) := by omega
  have hmle : m ≤ n := by omega
  have hmc : m ≤ c := by omega
  obtain ⟨rN, hrN⟩ : ∃ x, x = endN bs := ⟨_, rfl⟩
  obtain ⟨rE, hrE⟩ : ∃ x, x = endE bs := ⟨_, rfl⟩
  rw [← hrN, ← hrE]
  have t : ∀ w', Below w2.heap.size w2 w' → Below w.heap.size w w' := fun w' bb => b2.trans (bb.mono b2.size)
  have kcw := kc w #[.int .u8 13, .int .u8 10, .int .u8 13, .int .u8 10] 4 4
  change (convert 22 22 _).run Tryz.prog _ = .ok _ (w.alloc (.cells #[.int .u8 13, .int .u8 10, .int .u8 13, .int .u8 10] 5 (4, 5))) at kcw
  rw [← hw2] at kcw
  have HW2 := hide hw2
  rcases Lib.index_spec (bs.take 16384) endL with ⟨hi, _⟩ | ⟨k, hi, hkl, hocc, _⟩
  · change endI bs = -1 at hi
    obtain ⟨e1, e2⟩ := end_miss hi
    rw [hi] at hr
    rw [← hrE, hlen] at e1
    rw [← hrN] at e2
    subst hr
    by_cases h16 : 16384 ≤ n
    · rw [if_pos h16] at e1
      subst e1 e2
      have i3 : (16384 : Int) ≤ (n : Int) := by omega
      clear hmn hw2 hcy hm2 hm hi h hlen hrN hrE kc
      go_enter Tryz.func170, Tryz.ntmps170
      go_wp2_with fail
      refine hq.mono ?_
      rintro e w3 ⟨rfl, b3⟩
      go_wp2_with fail
      go_ret2
      exact ⟨rfl, t _ b3⟩
    · rw [if_neg h16] at e1
      subst e1 e2
      have i3 : ¬ (16384 : Int) ≤ (n : Int) := by omega
      clear hmn hw2 hcy hm2 hm hi h hlen hrN hrE kc
      go_enter Tryz.func170, Tryz.ntmps170
      go_wp2_with fail
      refine hq.mono ?_
      rintro e w3 ⟨rfl, b3⟩
      go_wp2_with fail
      go_ret2
      exact ⟨rfl, t _ b3⟩
  · change endI bs = k at hi
    obtain ⟨e1, e2⟩ := end_hit hi
    rw [hi] at hr
    rw [← hrE] at e1
    rw [← hrN] at e2
    subst hr e1 e2
    have hk16 : (k : Int) ≤ 100000 := by
      have h1 : (bs.take 16384).length ≤ 16384 := by rw [List.length_take]; omega
      omega
    have i4 : (0 : Int) ≤ (k : Int) := by omega
    clear hkl
    clear hmn hw2 hcy hm2 hm hi h hlen hrN hrE kc hocc
    go_enter Tryz.func170, Tryz.ntmps170
    go_wp2_with fail
    refine hq.mono ?_
    rintro e w3 ⟨rfl, b3⟩
    go_wp2_with fail
    go_ret2
    exact ⟨by simp, t _ b3⟩
end Go.Proofs.YtbplnglmjcmfiaaGreatDoor
