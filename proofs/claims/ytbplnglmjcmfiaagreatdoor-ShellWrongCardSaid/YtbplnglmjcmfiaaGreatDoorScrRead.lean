/- script.reader: next, number and bytes. -/
import Derived.Test.YtbplnglmjcmfiaaGreatDoorShelf
import Derived.Test.YtbplnglmjcmfiaaGreatDoorBoxA
import Derived.Test.YtbplnglmjcmfiaaGreatDoorTexts
import Derived.Test.YtbplnglmjcmfiaaGreatDoorScriptLines
import Derived.Lib.AppendIntMem
import Derived.Lib.AtoiErrMem
namespace Go.Proofs.YtbplnglmjcmfiaaGreatDoor
open Go.RowKit
set_option linter.unusedVariables false
set_option linter.unusedSimpArgs false

/-- A reader: the words that are left, and whether one was bad. -/
def IsRd (w : World) (B r : Nat) (p : List (List UInt8) × Bool) : Prop :=
  ∃ A c, Box w r [.slice A p.1.length c, .bool p.2] ∧ p.1.length ≤ c ∧ c ≤ maxLen ∧ Rd w r 1 A p.1.length (scells p.1) ∧ ∀ a, A = some a → B ≤ a.block
theorem IsRd.lt {w : World} {B r : Nat} {p : List (List UInt8) × Bool} (h : IsRd w B r p) : r < w.heap.size := by obtain ⟨A, c, b, _⟩ := h; exact b.1
theorem IsRd.below {w w' : World} {B r : Nat} {p : List (List UInt8) × Bool} (h : IsRd w B r p) (hb : Below w.heap.size w w') : IsRd w' B r p := by
  obtain ⟨A, c, b, h1, h2, h3, h4⟩ := h
  exact ⟨A, c, b.below hb, h1, h2, h3.below (hb.mono (Nat.le_of_lt b.1)), h4⟩
set_option maxRecDepth 100000 in
set_option maxHeartbeats 1600000 in
theorem scrnext_any (B r : Nat) (p : List (List UInt8) × Bool) (w : World) (h : IsRd w B r p) :
    Calls Tryz.prog 163 #[.pointer (some ⟨r, 0, none⟩)] w fun e w' => e = .returned (.string ⟨(p.1.headD []).toArray⟩) ∧ IsRd w' B r (p.1.tail, p.2 || p.1.isEmpty) ∧ w.grownBy w' (some r) := by
  obtain ⟨ws, bd⟩ := p
  obtain ⟨A, c, bx, hnc, hcm, rd, hA⟩ := h
  simp only at bx hnc rd ⊢
  obtain ⟨k0, k1⟩ := bx.two
  obtain ⟨f0, f1⟩ := bx.free2
  have hr := bx.1
  cases ws with
  | nil =>
    have bx2 := bx.set (k := 1) (x := .bool true) (by simp)
    simp only [List.set_cons_succ, List.set_cons_zero] at bx2
    simp only [List.length_nil] at k0 hnc rd bx2
    go_enter Tryz.func163, Tryz.ntmps163
    go_wp2_with fail
    go_ret
    exact ⟨rfl, ⟨A, c, by simpa using bx2, hnc, hcm, rd.far (Nat.le_refl _), hA⟩, grown_set (World.grownBy.refl w (some r)) _ _⟩
  | cons s rest =>
    have hpos : 0 < (s :: rest).length := by simp
    obtain ⟨a, rfl, hb, hc⟩ := rd.text (k := 0) hpos hpos
    have hlen : (s :: rest).length = rest.length + 1 := by simp
    have rdc := rd.cut (k := 1) (m := (s :: rest).length) (cap := c) (by omega) (Nat.le_refl _) hnc
    simp only [List.getElem_cons_zero] at hc
    have e0 : a.add 0 = a := by cases a; rfl
    rw [e0] at hc
    have e1 : List.take (((s :: rest).length - 1) * 1) (List.drop (1 * 1) (scells (s :: rest))) = scells rest := by
      rw [Nat.mul_one, Nat.mul_one, hlen, Nat.add_sub_cancel]
      show List.take rest.length (scells rest) = scells rest
      exact List.take_of_length_le (by simp [scells])
    rw [e1] at rdc
    obtain ⟨n, hn⟩ : ∃ n, rest.length = n := ⟨_, rfl⟩
    rw [hlen, hn, Nat.add_sub_cancel] at rdc
    rw [hlen, hn] at k0 hnc
    obtain ⟨bs, hbs⟩ : ∃ bs : ByteArray, bs = ⟨s.toArray⟩ := ⟨_, rfl⟩
    rw [← hbs] at hc
    have HN := hide hn
    have HBS := hide hbs
    clear hn hbs hlen e1 hpos
    have fin : Hid (∀ (A' : Option Addr) (c' : Nat), Rd w r 1 A' n (scells rest) → n ≤ c' → c' ≤ maxLen → (∀ a, A' = some a → B ≤ a.block) → IsRd (w.setCell ⟨r, 0, none⟩ (.slice A' n c')) B r (rest, bd || false) ∧ w.grownBy (w.setCell ⟨r, 0, none⟩ (.slice A' n c')) (some r)) := hide fun A' c' h1 h2 h3 h4 => by
      have bx2 := bx.set (k := 0) (x := .slice A' n c') (by simp)
      simp only [List.set_cons_zero] at bx2
      rw [← HN.out] at bx2 h1 h2 ⊢
      exact ⟨⟨A', c', by simpa using bx2, h2, h3, h1.far (Nat.le_refl _), h4⟩, grown_set (World.grownBy.refl w (some r)) _ _⟩
    by_cases hc1 : c = 1
    · subst hc1
      obtain rfl : n = 0 := by omega
      rw [if_pos rfl] at rdc
      go_enter Tryz.func163, Tryz.ntmps163
      go_wp2_with fail
      go_ret
      exact ⟨by rw [HBS.out]; rfl, fin.out _ _ rdc (by omega) (by unfold maxLen; omega) hA⟩
    · rw [if_neg hc1] at rdc
      simp only [Option.map_some, Nat.mul_one] at rdc
      have c1 : 1 ≤ c := by omega
      go_enter Tryz.func163, Tryz.ntmps163
      go_wp2_with fail
      go_ret
      exact ⟨by rw [HBS.out]; rfl, fin.out _ _ rdc (by omega) (by omega) (fun x e => by cases e; exact hA a rfl)⟩

theorem below_gr {w w' : World} {r : Nat} (hr : r < w.heap.size) (h : w.grownBy w' (some r)) : Below r w w' := (Below.refl r w).grown h (Nat.le_of_lt hr) (fun k e => by cases e; exact Nat.le_refl _)
/-- What the library's functions read of the package variables. -/
structure Glo (w : World) : Prop where
  max : ∃ m, w.cell? ⟨0, 0, none⟩ = some (.int .i64 m)
  syn : ∃ te pe, w.cell? ⟨2, 0, none⟩ = some (.iface te pe)
  rng : ∃ te pe, w.cell? ⟨3, 0, none⟩ = some (.iface te pe)
  pow : Lib.TabIs Tryz.prog w "internal/strconv.uint64pow10" .u64 Lib.pow10Tab
theorem rdNum_eq (p : List (List UInt8) × Bool) : Scr.rdNum p = match Scr.numOf (p.1.headD []) with
    | some n => (n, p.1.tail, p.2 || p.1.isEmpty)
    | none => (0, p.1.tail, true) := by
  obtain ⟨ws, b⟩ := p
  cases ws with
  | nil => simp [Scr.rdNum, Scr.numOf, Lib.atoiAll]
  | cons s r => simp only [Scr.rdNum, List.headD_cons, List.tail_cons, List.isEmpty_cons, Bool.or_false]; rfl
theorem IsRd.two {w : World} {B r : Nat} {p : List (List UInt8) × Bool} (h : IsRd w B r p) : ∃ v, w.cell? ⟨r, 0, none⟩ = some v ∧ w.cell? ⟨r, 1, none⟩ = some (.bool p.2) ∧ w.frozen? ⟨r, 1, none⟩ = false := by
  obtain ⟨A, c, b, _⟩ := h
  exact ⟨_, b.two.1, b.two.2, b.free2.2⟩
theorem IsRd.setBad {w : World} {B r : Nat} {p : List (List UInt8) × Bool} (h : IsRd w B r p) : IsRd (w.setCell ⟨r, 1, none⟩ (.bool true)) B r (p.1, true) := by
  obtain ⟨A, c, b, h1, h2, h3, h4⟩ := h
  have b2 := b.set (k := 1) (x := .bool true) (by simp)
  simp only [List.set_cons_succ, List.set_cons_zero] at b2
  exact ⟨A, c, b2, h1, h2, h3.far (Nat.le_refl _), h4⟩
theorem itoaG_any (n : Nat) (h : n ≤ 9223372036854775807) (w : World) (ht : Lib.TabIs Tryz.prog w "internal/strconv.uint64pow10" .u64 Lib.pow10Tab) : Calls Tryz.prog 66 #[.int .i64 n] w fun e w' => e = .returned (.string ⟨(Lib.itoa (n : Int)).toArray⟩) ∧ Below w.heap.size w w' := by
  refine (Tryz.strconv_Itoa n (by omega) (by omega) w ht).mono ?_
  rintro e w' ⟨rfl, q, os, rfl⟩
  exact ⟨rfl, Lib.below_grow _ _ (Nat.le_refl _) _ _⟩
set_option maxRecDepth 100000 in
set_option maxHeartbeats 1600000 in
theorem scrnum_any (B r : Nat) (p : List (List UInt8) × Bool) (w : World) (h : IsRd w B r p) (hsz : ∀ s ∈ p.1, s.length ≤ 281474976710656) (hG : ∀ W, Below r w W → Glo W) :
    Calls Tryz.prog 162 #[.pointer (some ⟨r, 0, none⟩)] w fun e w' => e = .returned (.int .i64 ((Scr.rdNum p).1 : Nat)) ∧ IsRd w' B r (Scr.rdNum p).2 ∧ w.grownBy w' (some r) := by
  have nx := scrnext_any B r p w h
  obtain ⟨s, hs⟩ : ∃ s, s = p.1.headD [] := ⟨_, rfl⟩
  have hsl : s.length ≤ 281474976710656 := by
    rw [hs]; rcases hp : p.1 with _ | ⟨x, xs⟩
    · simp
    · exact hsz x (by rw [hp]; simp)
  obtain ⟨bs, hbs⟩ : ∃ bs : ByteArray, bs = ⟨s.toArray⟩ := ⟨_, rfl⟩
  have hbl : bs.data.toList = s := by rw [hbs]
  have hsize : bs.size ≤ 281474976710656 := by rw [hbs]; simpa [ByteArray.size] using hsl
  rw [← hs, ← hbs] at nx
  have hrd := rdNum_eq p
  rw [← hs] at hrd
  have hlt := h.lt
  have HS := hide hs
  have HB := hide hbs
  clear hs hbs
  have fin : Hid (Scr.numOf s = none → ∀ W, IsRd W B r (p.1.tail, p.2 || p.1.isEmpty) → w.grownBy W (some r) → IsRd (W.setCell ⟨r, 1, none⟩ (.bool true)) B r (Scr.rdNum p).2 ∧ w.grownBy (W.setCell ⟨r, 1, none⟩ (.bool true)) (some r) ∧ (Scr.rdNum p).1 = 0) := hide fun hn W h1 h2 => by
    rw [hrd, hn]
    exact ⟨h1.setBad, grown_set h2 _ _, rfl⟩
  have fin2 : Hid (∀ n, Scr.numOf s = some n → ∀ W, IsRd W B r (p.1.tail, p.2 || p.1.isEmpty) → IsRd W B r (Scr.rdNum p).2 ∧ (Scr.rdNum p).1 = n) := hide fun n hn W h1 => by
    rw [hrd, hn]
    exact ⟨h1, rfl⟩
  have num : Hid (Scr.numOf s = match Lib.atoiAll s with
    | .ok n => if n < 0 then none else if Lib.itoa n = s then some n.toNat else none
    | _ => none) := hide rfl
  obtain ⟨N, hN⟩ : ∃ N, N = (Scr.rdNum p).1 := ⟨_, rfl⟩
  obtain ⟨P2, hP2⟩ : ∃ P2, P2 = (Scr.rdNum p).2 := ⟨_, rfl⟩
  rw [← hN, ← hP2] at fin fin2 ⊢
  clear hrd hN hP2
  have hG' := hide hG
  clear hG
  have bad : Hid (Scr.numOf s = none → ∀ W, IsRd W B r (p.1.tail, p.2 || p.1.isEmpty) → w.grownBy W (some r) → ∀ K, K = (0 : Int) → Value.int .i64 K = .int .i64 (N : Nat) ∧ IsRd (W.setCell ⟨r, 1, none⟩ (.bool true)) B r P2 ∧ w.grownBy (W.setCell ⟨r, 1, none⟩ (.bool true)) (some r)) := hide fun hn W h1 h2 K hK => by
    obtain ⟨x1, x2, x3⟩ := fin.out hn W h1 h2
    exact ⟨by rw [x3, hK]; rfl, x1, x2⟩
  rcases hat : Lib.atoiAll s with v | _ | _
  · have hb := Lib.atoiAll_bounds hat
    have at_ : ∀ w, _ := fun w => Tryz.strconv_Atoi_ok bs (by omega) v (by rw [hbl]; exact hat) w
    rw [hat] at num
    replace num : Hid (Scr.numOf s = if v < 0 then none else if Lib.itoa v = s then some v.toNat else none) := hide num.out
    clear hat hsl hsize
    by_cases hv : v < 0
    · have hn : Scr.numOf s = none := by rw [num.out, if_pos hv]
      have HN := hide hn
      clear hn num fin fin2
      go_enter Tryz.func162, Tryz.ntmps162
      go_wp2_with fail
      refine nx.mono ?_
      rintro e w1 ⟨rfl, i1, b1⟩
      have at1 := at_ w1
      clear nx at_
      go_wp2_with fail
      refine at1.mono ?_
      rintro e w2 ⟨rfl, hw2⟩
      have b12 : Below w1.heap.size w1 w2 := by
        rcases hw2 with rfl | ⟨t, rfl⟩
        · exact Below.refl _ _
        · exact Lib.bytesWorld_below _ _ _
      have i2 := i1.below b12
      have b2 := grown_trans b1 (grown_of_below b12)
      obtain ⟨v0, k0, k1, f1⟩ := i2.two
      clear at1 hw2
      go_wp2_with fail
      go_ret
      obtain ⟨x1, x2, x3⟩ := bad.out HN.out w2 i2 b2 0 rfl
      exact ⟨congrArg Ending.returned x1, x2, x3⟩
    · have hv0 : 0 ≤ v := by omega
      obtain ⟨k, hk⟩ : ∃ k : Nat, v = k := ⟨v.toNat, by omega⟩
      subst hk
      have hk63 : k ≤ 9223372036854775807 := by omega
      by_cases he : Lib.itoa (k : Int) = s
      · have hn : Scr.numOf s = some k := by rw [num.out, if_neg hv, if_pos he]; rfl
        have hbe : (⟨(Lib.itoa (k : Int)).toArray⟩ : ByteArray) = bs := by rw [HB.out, he]
        have HN := hide hn
        clear hn num fin he
        go_enter Tryz.func162, Tryz.ntmps162
        go_wp2_with fail
        refine nx.mono ?_
        rintro e w1 ⟨rfl, i1, b1⟩
        have at1 := at_ w1
        clear nx at_
        go_wp2_with fail
        refine at1.mono ?_
        rintro e w2 ⟨rfl, hw2⟩
        have b12 : Below w1.heap.size w1 w2 := by
          rcases hw2 with rfl | ⟨t, rfl⟩
          · exact Below.refl _ _
          · exact Lib.bytesWorld_below _ _ _
        have i2 := i1.below b12
        have b2 := grown_trans b1 (grown_of_below b12)
        obtain ⟨v0, k0, k1, f1⟩ := i2.two
        have it := itoaG_any k hk63 w2 (hG'.out w2 (below_gr hlt b2)).pow
        rw [hbe] at it
        clear at1 hw2 hbe
        go_wp2_with fail
        refine it.mono ?_
        rintro e w3 ⟨rfl, b23⟩
        have i3 := i2.below b23
        have b3 := grown_trans b2 (grown_of_below b23)
        obtain ⟨x1, x2⟩ := fin2.out k HN.out w3 i3
        have HX := hide x2
        clear it x2 k0 k1 f1
        go_wp2_with fail
        go_ret
        exact ⟨by rw [HX.out]; rfl, x1, b3⟩
      · have hn : Scr.numOf s = none := by rw [num.out, if_neg hv, if_neg he]
        have hbe : ((⟨(Lib.itoa (k : Int)).toArray⟩ : ByteArray).toList == bs.toList) = false := by
          rw [ByteArray.toList_eq, ByteArray.toList_eq, hbl]; simpa using he
        obtain ⟨y, hy⟩ : ∃ y : ByteArray, y = ⟨(Lib.itoa (k : Int)).toArray⟩ := ⟨_, rfl⟩
        have HN := hide hn
        rw [← hy] at hbe
        have HY := hide hy
        clear hn num fin fin2 he hy
        go_enter Tryz.func162, Tryz.ntmps162
        go_wp2_with fail
        refine nx.mono ?_
        rintro e w1 ⟨rfl, i1, b1⟩
        have at1 := at_ w1
        clear nx at_
        go_wp2_with fail
        refine at1.mono ?_
        rintro e w2 ⟨rfl, hw2⟩
        have b12 : Below w1.heap.size w1 w2 := by
          rcases hw2 with rfl | ⟨t, rfl⟩
          · exact Below.refl _ _
          · exact Lib.bytesWorld_below _ _ _
        have i2 := i1.below b12
        have b2 := grown_trans b1 (grown_of_below b12)
        obtain ⟨v0, k0, k1, f1⟩ := i2.two
        have it := itoaG_any k hk63 w2 (hG'.out w2 (below_gr hlt b2)).pow
        rw [← HY.out] at it
        clear at1 hw2 k0 k1 f1
        go_wp2_with fail
        refine it.mono ?_
        rintro e w3 ⟨rfl, b23⟩
        have i3 := i2.below b23
        have b3 := grown_trans b2 (grown_of_below b23)
        obtain ⟨v0, k0, k1, f1⟩ := i3.two
        clear it
        go_wp2_with fail
        go_ret
        obtain ⟨x1, x2, x3⟩ := bad.out HN.out w3 i3 b3 0 rfl
        exact ⟨congrArg Ending.returned x1, x2, x3⟩
  · have hn : Scr.numOf s = none := by rw [num.out, hat]
    have HN := hide hn
    clear hn num fin fin2
    go_enter Tryz.func162, Tryz.ntmps162
    go_wp2_with fail
    refine nx.mono ?_
    rintro e w1 ⟨rfl, i1, b1⟩
    obtain ⟨te, pe, hv⟩ := (hG'.out w1 (below_gr hlt b1)).syn
    have at1 := Tryz.strconv_Atoi_not bs hsize (by intro v; rw [hbl, hat]; intro h; cases h) (by rw [hbl, hat]; intro h; cases h) _ w1 hv (.inr ⟨te, pe, rfl⟩)
    clear nx hat hsize hsl hv
    go_wp2_with fail
    refine at1.mono ?_
    rintro e w2 ⟨M, rfl, -, -, b12⟩
    have i2 := i1.below b12
    have b2 := grown_trans b1 (grown_of_below b12)
    obtain ⟨v0, k0, k1, f1⟩ := i2.two
    clear at1
    go_wp2_with fail
    go_ret
    obtain ⟨x1, x2, x3⟩ := bad.out HN.out w2 i2 b2 0 rfl
    exact ⟨congrArg Ending.returned x1, x2, x3⟩
  · have hn : Scr.numOf s = none := by rw [num.out, hat]
    have HN := hide hn
    clear hn num fin fin2
    go_enter Tryz.func162, Tryz.ntmps162
    go_wp2_with fail
    refine nx.mono ?_
    rintro e w1 ⟨rfl, i1, b1⟩
    obtain ⟨te, pe, hv⟩ := (hG'.out w1 (below_gr hlt b1)).rng
    have at1 := Tryz.strconv_Atoi_range bs hsize (by rw [hbl]; exact hat) _ w1 hv (.inr ⟨te, pe, rfl⟩)
    clear nx hat hsize hsl hv
    go_wp2_with fail
    refine at1.mono ?_
    rintro e w2 ⟨M, rfl, -, -, b12⟩
    have i2 := i1.below b12
    have b2 := grown_trans b1 (grown_of_below b12)
    obtain ⟨v0, k0, k1, f1⟩ := i2.two
    clear at1
    go_wp2_with fail
    go_ret
    obtain ⟨x1, x2, x3⟩ := bad.out HN.out w2 i2 b2 0 rfl
    exact ⟨congrArg Ending.returned x1, x2, x3⟩
/-- A store into a newer block. -/
theorem IsRd.above {w : World} {B r g k : Nat} {p : List (List UInt8) × Bool} {x : Value} (h : IsRd w B r p) (hg : r < g) : IsRd (w.setCell ⟨g, k, none⟩ x) B r p := by
  obtain ⟨A, c, b, h1, h2, h3, h4⟩ := h
  exact ⟨A, c, b.far (by omega), h1, h2, h3.far (Nat.le_of_lt hg), h4⟩
theorem IsRd.far {w : World} {B r g k : Nat} {p : List (List UInt8) × Bool} {x : Value} (h : IsRd w B r p) (hg : g < B) (hr : B ≤ r) : IsRd (w.setCell ⟨g, k, none⟩ x) B r p := by
  obtain ⟨A, c, b, h1, h2, h3, h4⟩ := h
  refine ⟨A, c, b.far (by omega), h1, h2, ⟨h3.1, h3.2.imp id ?_⟩, h4⟩
  rintro ⟨a, rfl, ha, hc⟩
  refine ⟨a, rfl, ha, fun j u hu => ?_⟩
  have := h4 a rfl
  rw [World.cell?_setCell_other _ _ _ _ (by intro e; have e2 := congrArg Addr.block e; rw [addr_add_block] at e2; simp only at e2; omega)]
  exact hc j u hu
end Go.Proofs.YtbplnglmjcmfiaaGreatDoor
