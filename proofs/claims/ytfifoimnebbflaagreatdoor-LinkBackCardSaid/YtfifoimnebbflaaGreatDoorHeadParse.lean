/- head.parse: the lines of a head as a first line and fields. -/
import Derived.Test.YtfifoimnebbflaaGreatDoorHeadLine
import Derived.Test.YtfifoimnebbflaaGreatDoorSplit
import Derived.Test.YtfifoimnebbflaaGreatDoorSets
namespace Go.Proofs.YtfifoimnebbflaaGreatDoor
open Go.RowKit

theorem splitB_scells (sep s : ByteArray) (k : Nat) : (Lib.splitB sep 0 k s).map Value.string = scells (Lib.splitK sep.data.toList 0 k s.data.toList) := by
  rw [← Lib.splitB_data]
  unfold scells
  rw [List.map_map]
  refine List.map_congr_left fun x _ => ?_
  show Value.string x = Value.string ⟨x.data.toList.toArray⟩
  rw [bytes_of]
theorem split_len (s sep : ByteArray) (h1 : 1 ≤ sep.size) : (Lib.split s.data.toList sep.data.toList).length = Lib.countB s sep + 1 := by
  have := Lib.splitB_all sep h1 0 _ s rfl
  rw [← this, ← List.length_map (f := Value.string), splitB_scells, scells_length]; rfl
theorem strsplit_any (s sep : ByteArray) (mx : Int) (w : World) (hs : s.size ≤ 1000000) (hm : w.cell? ⟨0, 0, none⟩ = some (.int .i64 mx)) (h1 : 1 ≤ sep.size) :
    Calls Tryz.prog 49 #[.string s, .string sep] w fun e w' => e = .returned (.slice (some ⟨w.heap.size, 0, none⟩) (Lib.split s.data.toList sep.data.toList).length (Lib.split s.data.toList sep.data.toList).length) ∧
      Rd w' (w.heap.size + 1) 1 (some ⟨w.heap.size, 0, none⟩) (Lib.split s.data.toList sep.data.toList).length (scells (Lib.split s.data.toList sep.data.toList)) ∧ Below w.heap.size w w' := by
  refine (Tryz.strings_Split s sep mx w (by omega) hm h1).mono ?_
  rintro e w' ⟨rfl, rfl⟩
  have hl := split_len s sep h1
  refine ⟨by rw [hl], ?_, (Below.refl _ _).alloc (Nat.le_refl _) _⟩
  refine ⟨by rw [scells_length, Nat.mul_one], .inr ⟨_, rfl, Nat.lt_succ_self _, fun j u hu => ?_⟩⟩
  rw [Addr.add_lit, cell_of_row _ w.heap.size _ _ _ (0, 0) (heap_alloc_new w _), splitB_scells]
  simpa [Lib.split] using hu

def pFirst (b : List UInt8) : List UInt8 := if parseE b = 0 then firstL b else []
def pFs (b : List UInt8) : List (List UInt8 × List UInt8) := if parseE b = 0 then fieldsL b else []
set_option maxRecDepth 100000 in
set_option maxHeartbeats 3200000 in
theorem parse_any (A : Option Addr) (n c B : Nat) (bs : List UInt8) (mx : Int) (w : World) (h : Rd w B 1 A n (bcells bs)) (hB : B ≤ w.heap.size) (hn : n ≤ 100000) (hm : w.cell? ⟨0, 0, none⟩ = some (.int .i64 mx)) :
    Calls Tryz.prog 48 #[.slice A n c] w fun e w' => ∃ A' c', e = .returned (.tuple #[.string ⟨(pFirst bs).toArray⟩, .slice A' (pFs bs).length c', .int .i64 (parseE bs)]) ∧
      w'.ownsRow w.heap.size 68 2 (.slice A' (pFs bs).length c') (pFs bs).length (fcells (pFs bs)) ∧ Below w.heap.size w w' := by
  have hlen : bs.length = n := by have := h.1; rw [bcells_length] at this; omega
  by_cases hbig : 16384 < n
  · have hE : parseE bs = 6 := by unfold parseE; rw [hlen, if_pos hbig]
    have h1 : pFirst bs = [] := by unfold pFirst; rw [hE]; rfl
    have h2 : pFs bs = [] := by unfold pFs; rw [hE]; rfl
    rw [hE, h1, h2]
    clear hE h1 h2 hlen
    go_enter Tryz.func48, Tryz.ntmps48
    go_wp2_with fail
    go_ret3
    exact ⟨none, 0, rfl, World.ownsRow_nil _ _ _ _, Below.refl _ _⟩
  have hcv := run_string_of (P := Tryz.prog) 24 9 5 Tryz.underlying24 Tryz.underlying5 Tryz.underlying9 w B n c A bs h
  have hcs := fun w => Tryz.strings_CutSuffix ⟨bs.toArray⟩ ⟨#[13, 10, 13, 10]⟩ w (by rw [mk_size]; omega)
  change ∀ w, Calls Tryz.prog 75 _ w (fun e w' => e = .returned (.tuple #[.string ⟨(Lib.trimSuffix bs endL).toArray⟩, .bool (Lib.hasSuffix bs endL)]) ∧ w' = w) at hcs
  by_cases hsf : Lib.hasSuffix bs endL = false
  · have hE : parseE bs = 2 := by unfold parseE; rw [hlen, if_neg hbig, if_pos hsf]
    have h1 : pFirst bs = [] := by unfold pFirst; rw [hE]; rfl
    have h2 : pFs bs = [] := by unfold pFs; rw [hE]; rfl
    rw [hE, h1, h2]
    rw [hsf] at hcs
    obtain ⟨t, ht⟩ : ∃ t : ByteArray, t = ⟨(Lib.trimSuffix bs endL).toArray⟩ := ⟨_, rfl⟩
    obtain ⟨s, hs⟩ : ∃ t : ByteArray, t = ⟨bs.toArray⟩ := ⟨_, rfl⟩
    simp only [← ht, ← hs] at hcs hcv
    clear hE h1 h2 hlen hsf ht hs
    go_enter Tryz.func48, Tryz.ntmps48
    go_wp2_with fail
    refine (hcs _).mono ?_
    rintro e w1 ⟨rfl, rfl⟩
    go_wp2_with fail
    go_ret3
    exact ⟨none, 0, rfl, World.ownsRow_nil _ _ _ _, Below.refl _ _⟩
  have hsf' : Lib.hasSuffix bs endL = true := by simpa using hsf
  rw [hsf'] at hcs
  have htl : (Lib.trimSuffix bs endL).length ≤ bs.length := Lib.trimSuffix_le _ _
  have hE : parseE bs = if 65 < (linesL (Lib.trimSuffix bs endL)).length then 6 else if (linesL (Lib.trimSuffix bs endL)).tail.all lineOk then 0 else 2 := by unfold parseE; rw [hlen, if_neg hbig, if_neg hsf]
  have hF : firstL bs = (linesL (Lib.trimSuffix bs endL)).headD [] := rfl
  have hG : fieldsL bs = (linesL (Lib.trimSuffix bs endL)).tail.map lineF := rfl
  unfold pFirst pFs
  rw [hE, hF, hG]
  have hsp := fun w hm => strsplit_any ⟨(Lib.trimSuffix bs endL).toArray⟩ ⟨#[13, 10]⟩ mx w (by rw [mk_size]; omega) hm (by decide)
  have hmem : ∀ x ∈ linesL (Lib.trimSuffix bs endL), x.length ≤ 100000 := fun x hx => by
    have := splitK_mem _ _ _ _ hx; omega
  rw [show (⟨#[13, 10]⟩ : ByteArray).data.toList = crlfL from rfl, show (⟨(Lib.trimSuffix bs endL).toArray⟩ : ByteArray).data.toList = Lib.trimSuffix bs endL from rfl] at hsp
  have hpos := split_pos (Lib.trimSuffix bs endL) crlfL
  have hll := splitK_len (Lib.count (Lib.trimSuffix bs endL) crlfL) crlfL (Lib.trimSuffix bs endL)
  change ∀ w hm, Calls _ _ _ w (fun e w' => e = .returned (.slice (some ⟨w.heap.size, 0, none⟩) (linesL (Lib.trimSuffix bs endL)).length (linesL (Lib.trimSuffix bs endL)).length) ∧ Rd w' (w.heap.size + 1) 1 (some ⟨w.heap.size, 0, none⟩) (linesL (Lib.trimSuffix bs endL)).length (scells (linesL (Lib.trimSuffix bs endL))) ∧ Below w.heap.size w w') at hsp
  obtain ⟨L, hL⟩ : ∃ L, L = linesL (Lib.trimSuffix bs endL) := ⟨_, rfl⟩
  rw [← hL]
  change 1 ≤ (linesL (Lib.trimSuffix bs endL)).length at hpos
  have hlb : (linesL (Lib.trimSuffix bs endL)).length ≤ 200000 := by
    have h1 := Lib.count_le (Lib.trimSuffix bs endL) crlfL
    unfold linesL Lib.split; omega
  simp only [← hL] at hsp hmem hpos hlb
  obtain ⟨m, hmL⟩ : ∃ m, L.length = m := ⟨_, rfl⟩
  rw [hmL]
  simp only [hmL] at hsp hpos hlb
  obtain ⟨t, ht⟩ : ∃ t : ByteArray, t = ⟨(Lib.trimSuffix bs endL).toArray⟩ := ⟨_, rfl⟩
  obtain ⟨s, hs⟩ : ∃ t : ByteArray, t = ⟨bs.toArray⟩ := ⟨_, rfl⟩
  simp only [← ht] at hsp
  simp only [← ht, ← hs] at hcs
  simp only [← hs] at hcv
  have HM := hide hmL
  have HMEM := hide hmem
  have hbig' : n ≤ 16384 := by omega
  clear hE hF hG hlen hsf hsf' ht hs hL hmL hmem hll htl hbig
  by_cases h65 : 65 < m
  · rw [if_pos h65, if_neg (by decide), if_neg (by decide)]
    go_enter Tryz.func48, Tryz.ntmps48
    go_wp2_with fail
    refine (hcs _).mono ?_
    rintro e w1 ⟨rfl, rfl⟩
    go_wp2_with fail
    refine (hsp _ hm).mono ?_
    rintro e w1 ⟨rfl, r1, b1⟩
    go_wp2_with fail
    go_ret3
    exact ⟨none, 0, rfl, World.ownsRow_nil _ _ _ _, b1⟩
  rw [if_neg h65]
  by_cases hm1 : m = 1
  · subst hm1
    have hL1 : L.tail = [] := List.eq_nil_of_length_eq_zero (by rw [List.length_tail, HM.out])
    rw [hL1]
    have hl0 : 0 < L.length := by rw [HM.out]; decide
    have hx0 : L.headD [] = L[0] := (head_of hl0).symm
    rw [hx0]
    go_enter Tryz.func48, Tryz.ntmps48
    go_wp2_with fail
    refine (hcs _).mono ?_
    rintro e w1 ⟨rfl, hw1⟩
    rw [hw1]
    go_wp2_with fail
    refine (hsp _ hm).mono ?_
    rintro e w2 ⟨rfl, r1, b1⟩
    obtain ⟨a, ha, -, hcell⟩ := r1.text (k := 0) (by decide) hl0
    cases ha
    rw [Addr.add_zero'] at hcell
    clear hw1 hL1 hx0
    go_wp2_with fail
    go_loopw [8, 33] (fun o i wr => o = .slice none 0 0 ∧ i = .int .i64 0 ∧ wr = w2) (fun _ _ _ => 0)
    case atStart => exact ⟨rfl, rfl, rfl⟩
    case round =>
      obtain ⟨rfl, rfl, rfl⟩ := hrel
      go_wp2_with fail
      go_ret3
      exact ⟨none, 0, rfl, World.ownsRow_nil _ _ _ _, b1⟩
  obtain ⟨x0, T, hLT⟩ : ∃ x0 T, L = x0 :: T := by
    rcases L with _ | ⟨x0, T⟩
    · have := HM.out; simp at this; omega
    · exact ⟨x0, T, rfl⟩
  subst hLT
  have hTm : T.length = m - 1 := by have := HM.out; simp at this; omega
  have HTM := hide hTm
  have hr1' : ∀ w2 : World, Rd w2 (w.heap.size + 1) 1 (some ⟨w.heap.size, 0, none⟩) m (scells (x0 :: T)) → w2.cell? ⟨w.heap.size, 0, none⟩ = some (.string ⟨x0.toArray⟩) ∧ ∀ (k : Nat) (hk : k < T.length), w2.cell? ⟨w.heap.size, 1 + k, none⟩ = some (.string ⟨T[k].toArray⟩) := by
    intro w2 r
    have ht := fun k (hk : k < m) => r.text (k := k) hk (by rw [HM.out]; exact hk)
    constructor
    · obtain ⟨a, ha, -, hc⟩ := ht 0 (by omega)
      cases ha
      rw [Addr.add_zero'] at hc
      exact hc
    · intro k hk
      obtain ⟨a, ha, -, hc⟩ := ht (k + 1) (by omega)
      cases ha
      rw [Addr.add_lit] at hc
      rw [show 1 + k = 0 + (k + 1) by omega]
      exact hc
  rw [List.tail_cons, List.headD_cons]
  obtain ⟨r, hr⟩ : ∃ r : Nat, r = if T.all lineOk then 0 else 2 := ⟨_, rfl⟩
  rw [← hr]
  have HR := hide hr
  clear hr hTm
  go_enter Tryz.func48, Tryz.ntmps48
  go_wp2_with fail
  refine (hcs _).mono ?_
  rintro e w1 ⟨rfl, hw1⟩
  rw [hw1]
  go_wp2_with fail
  refine (hsp _ hm).mono ?_
  rintro e w2 ⟨rfl, r1, b1⟩
  obtain ⟨c0, ck⟩ := hr1' w2 r1
  clear hw1 hr1' r1 hcs hsp hcv
  go_wp2_with fail
  obtain ⟨i0, hi0, hz0, hz1, hz2⟩ := info_parts infoFld
  have hm63 : m - 1 ≤ 64 := by omega
  have hwz : w.heap.size < w2.heap.size := World.block_lt_of_cell? w2 _ c0
  go_loopw [8, 33] (fun o i wr => ∃ k : Nat, k ≤ m - 1 ∧ i = .int .i64 k ∧ (T.take k).all lineOk = true ∧ wr.ownsRow w2.heap.size 68 2 o k (fcells ((T.take k).map lineF)) ∧ Below w2.heap.size w2 wr) (fun _ i _ => m - (intOf i).toNat)
  case atStart => exact ⟨0, Nat.zero_le _, rfl, rfl, World.ownsRow_nil _ _ _ _, Below.refl _ _⟩
  case round =>
    obtain ⟨k, hk, rfl, ha, ho, hb⟩ := hrel
    have hbz := hb.size
    have HA := hide ha
    clear ha
    by_cases hlt : k < m - 1
    · have hkT : k < T.length := by rw [HTM.out]; exact hlt
      have e0 := (hb.cell (p := ⟨w.heap.size, 1 + k, none⟩) hwz).trans (ck k hkT)
      have hsnoc := list_take_snoc T k hkT
      have hxl := HMEM.out T[k] (List.mem_cons_of_mem _ (List.getElem_mem hkT))
      have hxT : T[k] ∈ T := List.getElem_mem hkT
      obtain ⟨x, hx⟩ : ∃ x, x = T[k] := ⟨_, rfl⟩
      rw [← hx] at e0 hsnoc hxl hxT
      have ql := fun w => line_any ⟨x.toArray⟩ w (by rw [mk_size]; exact hxl)
      rw [mk_list] at ql
      have hnA : (lineF x).1 = (⟨(lineF x).1.toArray⟩ : ByteArray).data.toList := rfl
      have hnB : (lineF x).2 = (⟨(lineF x).2.toArray⟩ : ByteArray).data.toList := rfl
      obtain ⟨sx, esx⟩ : ∃ b : ByteArray, b = ⟨x.toArray⟩ := ⟨_, rfl⟩
      obtain ⟨sa, esa⟩ : ∃ b : ByteArray, b = ⟨(lineF x).1.toArray⟩ := ⟨_, rfl⟩
      obtain ⟨sb, esb⟩ : ∃ b : ByteArray, b = ⟨(lineF x).2.toArray⟩ := ⟨_, rfl⟩
      rw [← esx] at e0 ql
      rw [← esa] at ql hnA
      rw [← esb] at ql hnB
      have HNA := hide hnA.symm
      have HNB := hide hnB.symm
      have HS := hide hsnoc
      have HXT := hide hxT
      clear hsnoc hx hxl esx esa esb hnA hnB hxT
      have kz : (1 : Int) + (k : Int) = ((1 + k : Nat) : Int) := by omega
      rcases hcase : lineOk x with _ | _
      · rw [hcase] at ql
        have hr2 : r = 2 := by
          rw [HR.out, if_neg]
          intro hall
          have := List.all_eq_true.1 hall x HXT.out
          rw [hcase] at this; cases this
        subst hr2
        go_wp2_with fail
        refine (ql _).mono ?_
        rintro e w3 ⟨rfl, b3⟩
        go_wp2_with fail
        go_ret3
        exact ⟨none, 0, rfl, World.ownsRow_nil _ _ _ _, (b1.trans (hb.mono (by omega))).trans ((b3.mono (by omega)).alloc (by have := b3.size; omega) _)⟩
      · rw [hcase] at ql
        have HC := hide hcase
        clear hcase
        go_wp2_with fail
        refine (ql _).mono ?_
        rintro e w3 ⟨rfl, b3⟩
        go_upto_region 16 with (fail)
        have hb35 : Below wr.heap.size wr (w3.alloc (.cells #[.string sa, .string sb] 68)) := b3.alloc (b3.size) _
        have c50 := cell_of_row (w3.alloc (.cells #[.string sa, .string sb] 68)) w3.heap.size 0 #[.string sa, .string sb] 68 (0, 0) (heap_alloc_new w3 _)
        have c51 := cell_of_row (w3.alloc (.cells #[.string sa, .string sb] 68)) w3.heap.size 1 #[.string sa, .string sb] 68 (0, 0) (heap_alloc_new w3 _)
        obtain ⟨g, hg⟩ : ∃ g, w3.heap.size = g := ⟨_, rfl⟩
        rw [hg] at c50 c51
        have hw5 : ∃ w5, w3.alloc (.cells #[.string sa, .string sb] 68) = w5 := ⟨_, rfl⟩
        obtain ⟨w5, hw5⟩ := hw5
        rw [hw5] at c50 c51 hb35
        rw [hw5, hg]
        simp at c50 c51
        have ho5 := own_below ho hb35
        have hb5 := hb.trans (hb35.mono hbz)
        have hb5z := hb5.size
        clear hw5 hg b3 hb35
        go_wp2_with (at_builtin; refine wpl_push rfl _ _ _ rfl w2.heap.size i0 _ 2 32 Tryz.underlying29 hi0 hz0 hz1 hz2 rfl (by omega) _ _ _ rfl _ rfl ho5 rfl (by simp [Value.oneCell']) (by unfold maxLen; omega) (by omega) hb5z ?_; intro v1 w6 hown1 hbel1 _)
        go_roundw
        case rel =>
          refine ⟨k + 1, by omega, by go_num, by rw [HS.out, List.all_append, HA.out]; simp [HC.out], ?_, hb5.trans hbel1⟩
          rw [HS.out, List.map_append]
          exact own_snoc_fld hown1 HNA.out HNB.out
        case measure => simp [intOf]; omega
    · have hkm : k = m - 1 := by omega
      have htk : T.take k = T := List.take_of_length_le (by rw [HTM.out]; omega)
      have hall : T.all lineOk = true := by rw [← htk]; exact HA.out
      have hr0 : r = 0 := by rw [HR.out, if_pos hall]
      subst hr0
      rw [htk] at ho
      subst hkm
      have e0 := (hb.cell (p := ⟨w.heap.size, 0, none⟩) hwz).trans c0
      clear htk
      go_wp2_with fail
      go_ret3
      obtain ⟨A', c', rfl, hc', -⟩ := own_shape ho
      rw [HTM.out]
      exact ⟨A', c', rfl, own_base ho (by omega), b1.trans (hb.mono (by omega))⟩
end Go.Proofs.YtfifoimnebbflaaGreatDoor
