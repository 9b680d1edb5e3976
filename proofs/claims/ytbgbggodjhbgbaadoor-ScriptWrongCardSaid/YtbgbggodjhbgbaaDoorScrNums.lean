/- script.printer: numbers and bytes. -/
import Derived.Test.YtbgbggodjhbgbaaDoorScrPr
import Derived.Test.YtbgbggodjhbgbaaDoorCalm
namespace Go.Proofs.YtbgbggodjhbgbaaDoor
open Go.RowKit
set_option linter.unusedVariables false
set_option linter.unusedSimpArgs false

theorem PrStep.rd {w w' : World} {p : Nat} {r r' : Option Nat} (h : PrStep w w' p r r') {B size n : Nat} {A : Option Addr} {xs : List Value} (hr : Rd w B size A n xs) (hB : B ≤ w.heap.size) (hf : ∀ a, A = some a → a.block ≠ p ∧ r ≠ some a.block) : Rd w' B size A n xs := by
  refine ⟨hr.1, hr.2.imp id ?_⟩
  rintro ⟨a, rfl, hb, hc⟩
  obtain ⟨h1, h2⟩ := hf a rfl
  refine ⟨a, rfl, hb, fun j u hu => ?_⟩
  have hbk : w'.heap[(a.add j).block]? = w.heap[(a.add j).block]? := by rw [addr_add_block]; exact h.block (Nat.lt_of_lt_of_le hb hB) h1 h2
  rw [World.cell?_of_block hbk]
  exact hc j u hu
theorem PrStep.far {w w' : World} {p : Nat} {r r' : Option Nat} (h : PrStep w w' p r r') {k : Nat} (hk : k < w.heap.size) (h2 : r ≠ some k) : r' ≠ some k := by
  rcases h.2 with e | e
  · rw [e]; exact h2
  · intro e2; have := e k e2; omega
theorem IsPr.setBad {w : World} {p : Nat} {u : Bool} {row : Option Nat} {bs : List UInt8} {bad : Bool} (h : IsPr w p u row bs bad) (b2 : Bool) : IsPr (w.setCell ⟨p, 2, none⟩ (.bool b2)) p u row bs b2 ∧ PrStep w (w.setCell ⟨p, 2, none⟩ (.bool b2)) p row row := by
  obtain ⟨v, h1, h2, h3⟩ := h
  refine ⟨⟨v, by simp [World.setCell, Array.getElem?_modify, h1], ?_, h3⟩, ⟨⟨rfl, rfl, rfl, by simp [World.setCell], fun k _ hp _ => Below.heap_setCell _ _ _ _ (by simpa using hp)⟩, .inl rfl⟩⟩
  refine ⟨h2.1, h2.2.imp id ?_⟩
  rintro ⟨g', cap, cur, hv, hbg, hbl, hrest⟩
  exact ⟨g', cap, cur, hv, hbg, by rw [Below.heap_setCell _ _ _ _ (by simp only; omega)]; exact hbl, hrest⟩
theorem IsPr.cell2 {w : World} {p : Nat} {u : Bool} {row : Option Nat} {bs : List UInt8} {bad : Bool} (h : IsPr w p u row bs bad) : w.cell? ⟨p, 2, none⟩ = some (.bool bad) ∧ w.frozen? ⟨p, 2, none⟩ = false := by
  obtain ⟨v, h1, -⟩ := h
  exact ⟨by simp [World.cell?, h1], by simp [World.frozen?, h1]⟩
/-- What a printing method leaves. -/
def PrPost (w : World) (p : Nat) (row : Option Nat) (bs : List UInt8) (w' : World) : Prop := ∃ u' row', IsPr w' p u' row' bs false ∧ PrStep w w' p row row'
def icells (l : List Nat) : List Value := l.map fun k => .int .i64 (k : Nat)
def numsT (l : List Nat) : List UInt8 := l.flatMap fun k => 32 :: Scr.dec k
theorem numsT_snoc (l : List Nat) (k : Nat) : numsT (l ++ [k]) = numsT l ++ 32 :: Scr.dec k := by simp [numsT]
theorem dec_len : ∀ (k n : Nat), n < 10 ^ (k + 1) → (Scr.dec n).length ≤ k + 1
  | 0, n, h => by unfold Scr.dec; rw [Lib.decDigits, dif_pos (by simpa using h)]; simp
  | k + 1, n, h => by
    unfold Scr.dec
    rw [Lib.decDigits]
    split
    · simp
    · have := dec_len k (n / 10) (by rw [Nat.pow_succ] at h; omega)
      unfold Scr.dec at this
      rw [List.length_append, List.length_singleton]; omega
theorem dec_len20 {n : Nat} (h : n ≤ Scr.maxI) : (Scr.dec n).length ≤ 20 := dec_len 19 n (by unfold Scr.maxI at h; omega)
theorem numsT_len (l : List Nat) (h : ∀ k ∈ l, k ≤ Scr.maxI) : (numsT l).length ≤ 21 * l.length := by
  induction l with
  | nil => simp [numsT]
  | cons k l ih =>
    have h1 := ih fun x hx => h x (by simp [hx])
    have h2 := dec_len20 (h k (by simp))
    unfold numsT at h1 ⊢
    rw [List.flatMap_cons, List.length_append]
    simp only [List.length_cons]; omega
set_option maxRecDepth 100000 in
set_option maxHeartbeats 3200000 in
theorem scrnums_any (p : Nat) (u : Bool) (row : Option Nat) (bs : List UInt8) (l : List Nat) (A : Option Addr) (n c : Nat) (w : World) (h : IsPr w p u row bs false) (hl : Rd w w.heap.size 1 A n (icells l))
    (hf : ∀ a, A = some a → a.block ≠ p ∧ row ≠ some a.block) (hm : ∀ k ∈ l, k ≤ Scr.maxI) (hG : ∀ W, Below p w W → Glo W) (hb : bs.length ≤ 50000000) (hn5 : l.length ≤ 5) :
    Calls Tryd.prog 16 #[.pointer (some ⟨p, 0, none⟩), .slice A n c] w fun e w' => e = .returned (.tuple #[]) ∧ PrPost w p row (bs ++ numsT l) w' := by
  have hln : l.length = n := by have := hl.1; simpa [icells] using this
  have hplt := h.lt
  have hrow := h.row_lt
  have HG := hide hG
  have HLN := hide hln
  have hn5' : n ≤ 5 := by omega
  clear hG hln hn5
  go_enter Tryd.func16, Tryd.ntmps16
  go_wp2_with fail
  go_loopw [8] (fun i wr => ∃ (k : Nat) (u' : Bool) (row' : Option Nat), k ≤ n ∧ i = .int .i64 k ∧ IsPr wr p u' row' (bs ++ numsT (l.take k)) false ∧ PrStep w wr p row row') (fun i _ => n - (intOf i).toNat)
  case atStart => exact ⟨0, u, row, Nat.zero_le _, rfl, by simpa [numsT] using h, PrStep.refl _ _ _⟩
  case round =>
    obtain ⟨k, u', row', hk, rfl, hpr, hst⟩ := hrel
    by_cases hlt : k < n
    · have hlt' : (k : Int) < (n : Int) := by omega
      have hkl : k < l.length := by rw [HLN.out]; exact hlt
      have hrd := hst.rd hl (Nat.le_refl _) hf
      obtain ⟨a, hAa, hab, hc⟩ := hrd.at_ (k := 0) (by omega)
      have hx := hc k (.int .i64 (l[k] : Nat)) (by simp [icells, hkl])
      obtain ⟨x, hxx⟩ : ∃ x, x = l[k] := ⟨_, rfl⟩
      rw [← hxx] at hx
      have hxm : x ≤ Scr.maxI := by rw [hxx]; exact hm _ (List.getElem_mem hkl)
      have hx0 : ¬ ((x : Int) < 0) := by omega
      have htk : l.take (k + 1) = l.take k ++ [x] := by rw [hxx]; exact list_take_snoc l k hkl
      have hlen0 := numsT_len (l.take k) (fun y hy => hm y (List.mem_of_mem_take hy))
      rw [List.length_take] at hlen0
      subst hAa
      obtain ⟨z2, y2⟩ := hpr.cell2
      obtain ⟨hpr2, hst2⟩ := hpr.setBad false
      have HTK := hide htk
      have HXX := hide hxx
      clear hrd hc htk hxx
      go_upto_region 4 with (fail)
      generalize wr.setCell ⟨p, 2, none⟩ (.bool false) = w4 at hpr2 hst2 ⊢
      have hst4 := hst.trans hst2
      have hb4 : Below p w w4 := hst4.below hplt (fun g hg => (hrow g hg).1)
      have it := itoaG_any x (by unfold Scr.maxI at hxm; exact hxm) w4.drew (HG.out w4.drew ((show Below p w w4 from hb4).trans (below_drewN (k := 1) (Below.refl _ _)))).pow
      obtain ⟨y, hy⟩ : ∃ y : ByteArray, y = ⟨(Lib.itoa (x : Int)).toArray⟩ := ⟨_, rfl⟩
      have hyd : y.data.toList = Scr.dec x := by rw [hy]; exact Lib.itoa_nonneg x
      have hys : y.size ≤ 20 := by
        have e : y.size = y.data.toList.length := by rw [Array.length_toList]; rfl
        rw [e, hyd]; exact dec_len20 hxm
      rw [← hy] at it
      have hcat : ¬ (9223372036854775807 < 1 + y.size) := by omega
      have HYD := hide hyd
      clear hpr hst hst2 z2 y2 hy hyd
      refine CalmP.hideN (fun K0 hQ => ?_)
      refine wp_region_held_drew (S := (fun W : World => True)) (by kernel_rfl) trivial (fun hHeld => ?_)
      refine wpAnyH_take (i := 0) (v := ?_) rfl (by kernel_rfl) (by kernel_rfl) (by kernel_rfl) CalmP.onlyN_panic (Or.inl ⟨by kernel_rfl, ?_⟩) (by assumption) ?_
      rotate_left
      · (intro w_ hSw; go_simp; try with_reducible rfl)
      try simp only [List.getElem_toArray, List.getElem_cons_succ, List.getElem_cons_zero, Act.put, List.setIfInBounds_toArray, List.set_cons_zero, List.set_cons_succ]
      refine wpAnyH_take (i := 1) (v := ?_) rfl (by kernel_rfl) (by kernel_rfl) (by kernel_rfl) CalmP.onlyN_panic (Or.inl ⟨by kernel_rfl, ?_⟩) (by assumption) ?_
      rotate_left
      · (intro w_ hSw; go_simp; try with_reducible rfl)
      try simp only [List.getElem_toArray, List.getElem_cons_succ, List.getElem_cons_zero, Act.put, List.setIfInBounds_toArray, List.set_cons_zero, List.set_cons_succ]
      refine wpAnyH_take (i := 2) (v := ?_) rfl (by kernel_rfl) (by kernel_rfl) (by kernel_rfl) CalmP.onlyN_panic (Or.inl ⟨by kernel_rfl, ?_⟩) (by assumption) ?_
      rotate_left
      · (intro w_ hSw; go_simp; try with_reducible rfl)
      try simp only [List.getElem_toArray, List.getElem_cons_succ, List.getElem_cons_zero, Act.put, List.setIfInBounds_toArray, List.set_cons_zero, List.set_cons_succ]
      refine wpAnyH_take (i := 3) (v := ?_) rfl (by kernel_rfl) (by kernel_rfl) (by kernel_rfl) CalmP.onlyN_panic (Or.inl ⟨by kernel_rfl, ?_⟩) (by assumption) ?_
      rotate_left
      · (intro w_ hSw; go_simp; try with_reducible rfl)
      try simp only [List.getElem_toArray, List.getElem_cons_succ, List.getElem_cons_zero, Act.put, List.setIfInBounds_toArray, List.set_cons_zero, List.set_cons_succ]
      refine wpAnyH_ready (rs := [4]) (by kernel_rfl) (by simp) ?_
      refine AllReadyH.cons rfl (fun K_ hK => ?_) AllReadyH.nil
      go_simp
      refine it.mono ?_
      rintro e w5 ⟨rfl, b45⟩
      have b45' : Below w4.heap.size w4 w5 := (show Below w4.heap.size w4 w4.drew from below_drewN (k := 1) (Below.refl _ _)).trans b45
      have hpr5 := hpr2.below b45'
      have hst5 := hst4.trans (PrStep.of_below (p := p) (r := row') b45')
      refine hK.out _ _ trivial (fun hHeld => ?_)
      clear hK K_ it
      try simp only [List.getElem_toArray, List.getElem_cons_succ, List.getElem_cons_zero, Act.put, List.setIfInBounds_toArray, List.set_cons_zero, List.set_cons_succ]
      refine wpAnyH_take (i := 5) (v := ?_) rfl (by kernel_rfl) (by kernel_rfl) (by kernel_rfl) CalmP.onlyN_panic (Or.inl ⟨by kernel_rfl, ?_⟩) (by assumption) ?_
      rotate_left
      · (intro w_ hSw; go_simp; try with_reducible rfl)
      try simp only [List.getElem_toArray, List.getElem_cons_succ, List.getElem_cons_zero, Act.put, List.setIfInBounds_toArray, List.set_cons_zero, List.set_cons_succ]
      have ws := pr_str p u' row' (bs ++ numsT (l.take k)) false (⟨#[32]⟩ ++ y) w5 hpr5 (by rw [List.length_append, ByteArray.size_append]; have : (⟨#[32]⟩ : ByteArray).size = 1 := rfl; omega)
      refine wpAnyH_ready (rs := [6]) (by kernel_rfl) (by simp) ?_
      refine AllReadyH.cons rfl (fun K_ hK => ?_) AllReadyH.nil
      go_simp
      refine ws.mono ?_
      rintro e w6 ⟨⟨kk, rfl⟩, row6, hpr6, hst6⟩
      refine hK.out _ _ trivial (fun hHeld => ?_)
      clear hK K_ ws
      try simp only [List.getElem_toArray, List.getElem_cons_succ, List.getElem_cons_zero, Act.put, List.setIfInBounds_toArray, List.set_cons_zero, List.set_cons_succ]
      refine wpAnyH_done (by kernel_rfl) ?_ _
      refine CalmP.onlyN_here (hQ.out _ _ ?_)
      clear hQ K0
      have hpr7 : IsPr w6 p true row6 (bs ++ numsT (l.take (k + 1))) false := by
        have e : (⟨#[32]⟩ ++ y : ByteArray).data.toList = 32 :: Scr.dec x := by rw [ByteArray.data_append, Array.toList_append, HYD.out]; rfl
        rw [e] at hpr6
        rw [HTK.out, numsT_snoc, ← List.append_assoc]; exact hpr6
      clear hpr6 hpr5 hpr2 hcat
      go_wp2_with fail
      go_roundw
      case rel => exact ⟨k + 1, true, row6, by omega, by go_num, hpr7, hst5.trans hst6⟩
      case measure => simp [intOf]; omega
    · have hlt' : ¬ (k : Int) < (n : Int) := by omega
      have hkn : k = n := by omega
      have hall : l.take k = l := List.take_of_length_le (by rw [HLN.out]; omega)
      rw [hall] at hpr
      clear hkn hall
      go_wp2_with fail
      go_end0
      exact ⟨rfl, _, _, hpr, hst⟩
/-- A byte's two digits, as the code finds them. -/
theorem hexS_at0 : ∀ d : Fin 16, ((#[48, 49, 50, 51, 52, 53, 54, 55, 56, 57, 97, 98, 99, 100, 101, 102] : Array UInt8)[d.val]'d.isLt) = Scr.hexD d.val := by decide +kernel
theorem hexS_at (d : Nat) (h : d < (⟨#[48, 49, 50, 51, 52, 53, 54, 55, 56, 57, 97, 98, 99, 100, 101, 102]⟩ : ByteArray).size) : (⟨#[48, 49, 50, 51, 52, 53, 54, 55, 56, 57, 97, 98, 99, 100, 101, 102]⟩ : ByteArray)[d]'h = Scr.hexD d := hexS_at0 ⟨d, h⟩
theorem and15 : ∀ x : Fin 256, bits BinOp.and IntKind.u8 (x.val : Int) 15 = ((x.val % 16 : Nat) : Int) := by decide +kernel
theorem hexB_snoc (l : List UInt8) (x : UInt8) : Scr.hexB (l ++ [x]) = Scr.hexB l ++ [Scr.hexD (x.toNat / 16)] ++ [Scr.hexD (x.toNat % 16)] := by
  induction l with
  | nil => simp [Scr.hexB]
  | cons y l ih => simp [Scr.hexB, ih]
theorem hexB_len (l : List UInt8) : (Scr.hexB l).length = 2 * l.length := by
  induction l with
  | nil => rfl
  | cons y l ih => simp only [Scr.hexB, List.length_cons, ih]; omega
set_option maxRecDepth 100000 in
set_option maxHeartbeats 3200000 in
theorem scrhex_any (p : Nat) (u : Bool) (row : Option Nat) (bs : List UInt8) (l : List UInt8) (A : Option Addr) (n c : Nat) (w : World) (h : IsPr w p u row bs false) (hl : Rd w w.heap.size 1 A n (bcells l))
    (hf : 0 < n → ∀ a, A = some a → a.block ≠ p ∧ row ≠ some a.block) (hb : bs.length ≤ 50000000) (hn5 : l.length ≤ 10000000) :
    Calls Tryd.prog 18 #[.pointer (some ⟨p, 0, none⟩), .slice A n c] w fun e w' => e = .returned (.tuple #[]) ∧ PrPost w p row (bs ++ 32 :: Scr.hexL l) w' := by
  have hln : l.length = n := by have := hl.1; simpa [bcells] using this
  have hplt := h.lt
  have HLN := hide hln
  have hn5' : n ≤ 10000000 := by omega
  have ws := pr_str p u row bs false ⟨#[32, 120]⟩ w h (by have : (⟨#[32, 120]⟩ : ByteArray).size = 2 := rfl; omega)
  clear hln hn5
  go_enter Tryd.func18, Tryd.ntmps18
  go_wp2_with fail
  refine ws.mono ?_
  rintro e w1 ⟨⟨kk, rfl⟩, row1, hpr1, hst1⟩
  have hpr1 : IsPr w1 p true row1 (bs ++ [32, 120]) false := hpr1
  clear ws
  go_wp2_with fail
  go_loopw [12] (fun i wr => ∃ (k : Nat) (u' : Bool) (row' : Option Nat), k ≤ n ∧ i = .int .i64 k ∧ IsPr wr p u' row' (bs ++ [32, 120] ++ Scr.hexB (l.take k)) false ∧ PrStep w wr p row row') (fun i _ => n - (intOf i).toNat)
  case atStart => exact ⟨0, true, row1, Nat.zero_le _, rfl, by simpa [Scr.hexB] using hpr1, hst1⟩
  case round =>
    obtain ⟨k, u', row', hk, rfl, hpr, hst⟩ := hrel
    clear hpr1 hst1
    by_cases hlt : k < n
    · have hlt' : (k : Int) < (n : Int) := by omega
      have hkl : k < l.length := by rw [HLN.out]; exact hlt
      have hrd := hst.rd hl (Nat.le_refl _) (hf (by omega))
      obtain ⟨a, hAa, hab, hc⟩ := hrd.at_ (k := 0) (by omega)
      have hx := hc k (.int .u8 (l[k].toNat : Int)) (by simp [bcells, hkl])
      obtain ⟨x, hxx⟩ : ∃ x, x = l[k] := ⟨_, rfl⟩
      rw [← hxx] at hx
      have htk : l.take (k + 1) = l.take k ++ [x] := by rw [hxx]; exact list_take_snoc l k hkl
      subst hAa
      have hx256 : x.toNat < 256 := UInt8.toNat_lt x
      have HTK := hide htk
      clear hrd hc htk hxx
      obtain ⟨xn, hxn⟩ : ∃ m : Nat, m = x.toNat := ⟨_, rfl⟩
      rw [← hxn] at hx hx256
      have HXN := hide hxn
      have h1d : (xn : Int) / 16 = ((xn / 16 : Nat) : Int) := by omega
      obtain ⟨d1, hd1⟩ : ∃ d, d = xn / 16 := ⟨_, rfl⟩
      obtain ⟨d2, hd2⟩ : ∃ d, d = xn % 16 := ⟨_, rfl⟩
      rw [← hd1] at h1d
      have hd16 : d1 < 16 := by omega
      have hd26 : d2 < 16 := by omega
      have HD1 := hide hd1
      have HD2 := hide hd2
      clear hxn hd1 hd2
      go_upto_region 4 with (fail)
      refine CalmP.hideN (fun K0 hQ => ?_)
      refine wp_region_held_drew (S := (fun W : World => True)) (by kernel_rfl) trivial (fun hHeld => ?_)
      refine wpAnyH_take (i := 0) (v := ?_) rfl (by kernel_rfl) (by kernel_rfl) (by kernel_rfl) CalmP.onlyN_panic (Or.inl ⟨by kernel_rfl, ?_⟩) (by assumption) ?_
      rotate_left
      · (intro w_ hSw; go_simp; try with_reducible rfl)
      try simp only [List.getElem_toArray, List.getElem_cons_succ, List.getElem_cons_zero, Act.put, List.setIfInBounds_toArray, List.set_cons_zero, List.set_cons_succ]
      refine wpAnyH_take (i := 1) (v := ?_) rfl (by kernel_rfl) (by kernel_rfl) (by kernel_rfl) CalmP.onlyN_panic (Or.inl ⟨by kernel_rfl, ?_⟩) (by assumption) ?_
      rotate_left
      · (intro w_ hSw; go_simp; try with_reducible rfl)
      try simp only [List.getElem_toArray, List.getElem_cons_succ, List.getElem_cons_zero, Act.put, List.setIfInBounds_toArray, List.set_cons_zero, List.set_cons_succ]
      refine wpAnyH_take (i := 2) (v := ?_) rfl (by kernel_rfl) (by kernel_rfl) (by kernel_rfl) CalmP.onlyN_panic (Or.inl ⟨by kernel_rfl, ?_⟩) (by assumption) ?_
      rotate_left
      · (intro w_ hSw; go_simp; try with_reducible rfl)
      try simp only [List.getElem_toArray, List.getElem_cons_succ, List.getElem_cons_zero, Act.put, List.setIfInBounds_toArray, List.set_cons_zero, List.set_cons_succ]
      refine wpAnyH_take (i := 3) (v := ?_) rfl (by kernel_rfl) (by kernel_rfl) (by kernel_rfl) CalmP.onlyN_panic (Or.inl ⟨by kernel_rfl, ?_⟩) (by assumption) ?_
      rotate_left
      · (intro w_ hSw; go_simp; try with_reducible rfl)
      try simp only [List.getElem_toArray, List.getElem_cons_succ, List.getElem_cons_zero, Act.put, List.setIfInBounds_toArray, List.set_cons_zero, List.set_cons_succ]
      refine wpAnyH_take (i := 4) (v := ?_) rfl (by kernel_rfl) (by kernel_rfl) (by kernel_rfl) CalmP.onlyN_panic (Or.inl ⟨by kernel_rfl, ?_⟩) (by assumption) ?_
      rotate_left
      · (intro w_ hSw; go_simp; try with_reducible rfl)
      try simp only [List.getElem_toArray, List.getElem_cons_succ, List.getElem_cons_zero, Act.put, List.setIfInBounds_toArray, List.set_cons_zero, List.set_cons_succ]
      refine wpAnyH_take (i := 5) (v := .int .u8 ((Scr.hexD d1).toNat : Int)) rfl (by kernel_rfl) (by kernel_rfl) (by kernel_rfl) CalmP.onlyN_panic (Or.inl ⟨by kernel_rfl, ?_⟩) (by assumption) ?_
      · intro w_ hSw
        go_simp
        rw [dif_pos (show (d1 : Int) < 16 by omega), hexS_at]
        rfl
      try simp only [List.getElem_toArray, List.getElem_cons_succ, List.getElem_cons_zero, Act.put, List.setIfInBounds_toArray, List.set_cons_zero, List.set_cons_succ]
      have wb := pr_byte p u' row' (bs ++ [32, 120] ++ Scr.hexB (l.take k)) false (Scr.hexD d1) wr.drew hpr (by simp only [List.length_append, List.length_cons, List.length_nil, hexB_len, List.length_take]; omega)
      refine wpAnyH_ready (rs := [6]) (by kernel_rfl) (by simp) ?_
      refine AllReadyH.cons rfl (fun K_ hK => ?_) AllReadyH.nil
      go_simp
      refine wb.mono ?_
      rintro e w5 ⟨rfl, row5, pr_w5, st_w5⟩
      refine hK.out _ _ trivial (fun hHeld => ?_)
      clear hK K_ wb
      try simp only [List.getElem_toArray, List.getElem_cons_succ, List.getElem_cons_zero, Act.put, List.setIfInBounds_toArray, List.set_cons_zero, List.set_cons_succ]
      refine wpAnyH_done (by kernel_rfl) ?_ _
      refine CalmP.onlyN_here (hQ.out _ _ ?_)
      clear hQ K0
      have hand : bits BinOp.and IntKind.u8 (xn : Int) 15 = (d2 : Int) := by rw [HD2.out]; exact and15 ⟨xn, hx256⟩
      go_upto_region 5 with (fail)
      refine CalmP.hideN (fun K0 hQ => ?_)
      refine wp_region_held_drew (S := (fun W : World => True)) (by kernel_rfl) trivial (fun hHeld => ?_)
      refine wpAnyH_take (i := 0) (v := ?_) rfl (by kernel_rfl) (by kernel_rfl) (by kernel_rfl) CalmP.onlyN_panic (Or.inl ⟨by kernel_rfl, ?_⟩) (by assumption) ?_
      rotate_left
      · (intro w_ hSw; go_simp; try with_reducible rfl)
      try simp only [List.getElem_toArray, List.getElem_cons_succ, List.getElem_cons_zero, Act.put, List.setIfInBounds_toArray, List.set_cons_zero, List.set_cons_succ]
      refine wpAnyH_take (i := 1) (v := ?_) rfl (by kernel_rfl) (by kernel_rfl) (by kernel_rfl) CalmP.onlyN_panic (Or.inl ⟨by kernel_rfl, ?_⟩) (by assumption) ?_
      rotate_left
      · (intro w_ hSw; go_simp; try with_reducible rfl)
      try simp only [List.getElem_toArray, List.getElem_cons_succ, List.getElem_cons_zero, Act.put, List.setIfInBounds_toArray, List.set_cons_zero, List.set_cons_succ]
      refine wpAnyH_take (i := 2) (v := ?_) rfl (by kernel_rfl) (by kernel_rfl) (by kernel_rfl) CalmP.onlyN_panic (Or.inl ⟨by kernel_rfl, ?_⟩) (by assumption) ?_
      rotate_left
      · (intro w_ hSw; go_simp; try with_reducible rfl)
      try simp only [List.getElem_toArray, List.getElem_cons_succ, List.getElem_cons_zero, Act.put, List.setIfInBounds_toArray, List.set_cons_zero, List.set_cons_succ]
      refine wpAnyH_take (i := 3) (v := ?_) rfl (by kernel_rfl) (by kernel_rfl) (by kernel_rfl) CalmP.onlyN_panic (Or.inl ⟨by kernel_rfl, ?_⟩) (by assumption) ?_
      rotate_left
      · (intro w_ hSw; go_simp; try with_reducible rfl)
      try simp only [List.getElem_toArray, List.getElem_cons_succ, List.getElem_cons_zero, Act.put, List.setIfInBounds_toArray, List.set_cons_zero, List.set_cons_succ]
      refine wpAnyH_take (i := 4) (v := ?_) rfl (by kernel_rfl) (by kernel_rfl) (by kernel_rfl) CalmP.onlyN_panic (Or.inl ⟨by kernel_rfl, ?_⟩) (by assumption) ?_
      rotate_left
      · (intro w_ hSw; go_simp; try with_reducible rfl)
      try simp only [List.getElem_toArray, List.getElem_cons_succ, List.getElem_cons_zero, Act.put, List.setIfInBounds_toArray, List.set_cons_zero, List.set_cons_succ]
      refine wpAnyH_take (i := 5) (v := .int .u8 ((Scr.hexD d2).toNat : Int)) rfl (by kernel_rfl) (by kernel_rfl) (by kernel_rfl) CalmP.onlyN_panic (Or.inl ⟨by kernel_rfl, ?_⟩) (by assumption) ?_
      · intro w_ hSw
        go_simp
        rw [dif_pos (show (d2 : Int) < 16 by omega), hexS_at]
        rfl
      try simp only [List.getElem_toArray, List.getElem_cons_succ, List.getElem_cons_zero, Act.put, List.setIfInBounds_toArray, List.set_cons_zero, List.set_cons_succ]
      have wb := pr_byte p true row5 (bs ++ [32, 120] ++ Scr.hexB (l.take k) ++ [Scr.hexD d1]) false (Scr.hexD d2) w5.drew pr_w5 (by simp only [List.length_append, List.length_cons, List.length_nil, hexB_len, List.length_take]; omega)
      refine wpAnyH_ready (rs := [6]) (by kernel_rfl) (by simp) ?_
      refine AllReadyH.cons rfl (fun K_ hK => ?_) AllReadyH.nil
      go_simp
      refine wb.mono ?_
      rintro e w6 ⟨rfl, row6, pr_w6, st_w6⟩
      refine hK.out _ _ trivial (fun hHeld => ?_)
      clear hK K_ wb
      try simp only [List.getElem_toArray, List.getElem_cons_succ, List.getElem_cons_zero, Act.put, List.setIfInBounds_toArray, List.set_cons_zero, List.set_cons_succ]
      refine wpAnyH_done (by kernel_rfl) ?_ _
      refine CalmP.onlyN_here (hQ.out _ _ ?_)
      clear hQ K0
      have pr7 : IsPr w6 p true row6 (bs ++ [32, 120] ++ Scr.hexB (l.take (k + 1))) false := by
        rw [HTK.out, hexB_snoc, ← HXN.out, ← HD1.out, ← HD2.out]
        simpa [List.append_assoc] using pr_w6
      have st7 : PrStep w w6 p row row6 := (hst.trans (show PrStep wr w5 p row' row5 from (PrStep.of_below (show Below wr.heap.size wr wr.drew from below_drewN (k := 1) (Below.refl _ _))).trans st_w5)).trans ((PrStep.of_below (show Below w5.heap.size w5 w5.drew from below_drewN (k := 1) (Below.refl _ _))).trans st_w6)
      clear pr_w6 pr_w5 hpr hand h1d
      go_wp2_with fail
      go_roundw
      case rel => exact ⟨k + 1, true, row6, by omega, by go_num, pr7, st7⟩
      case measure => simp [intOf]; omega
    · have hlt' : ¬ (k : Int) < (n : Int) := by omega
      have hall : l.take k = l := List.take_of_length_le (by rw [HLN.out]; omega)
      rw [hall] at hpr
      clear hall
      go_wp2_with fail
      go_end0
      have e : bs ++ 32 :: Scr.hexL l = bs ++ [32, 120] ++ Scr.hexB l := by simp [Scr.hexL]
      exact ⟨rfl, _, _, by rw [e]; exact hpr, hst⟩
end Go.Proofs.YtbgbggodjhbgbaaDoor
