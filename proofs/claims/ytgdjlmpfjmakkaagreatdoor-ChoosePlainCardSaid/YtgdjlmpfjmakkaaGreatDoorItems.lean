/- accept.Parse: the members of values; items as cells. -/
import Derived.Test.YtgdjlmpfjmakkaaGreatDoorMember
import Derived.Test.YtgdjlmpfjmakkaaGreatDoorHas
import Derived.Test.YtgdjlmpfjmakkaaGreatDoorOwn
import Derived.Deep.DeepCutAuto
import Derived.Deep.CutBlock
namespace Go.Proofs.YtgdjlmpfjmakkaaGreatDoor
open Go.RowKit

def icells : List (List UInt8 × Nat) → List Value
  | [] => []
  | f :: l => .string ⟨f.1.toArray⟩ :: .int .i64 f.2 :: icells l
theorem icells_length : ∀ l, (icells l).length = l.length * 2
  | [] => rfl
  | f :: l => by simp [icells, icells_length l]; omega
theorem icells_append : ∀ a b, icells a ++ icells b = icells (a ++ b)
  | [], b => rfl
  | f :: a, b => by simp [icells, icells_append a b]
theorem icells_get : ∀ (l : List (List UInt8 × Nat)) (k : Nat) (h : k < l.length), (icells l)[k * 2]? = some (.string ⟨l[k].1.toArray⟩) ∧ (icells l)[k * 2 + 1]? = some (.int .i64 l[k].2)
  | f :: l, 0, _ => ⟨rfl, rfl⟩
  | f :: l, k + 1, h => by
    have := icells_get l k (by simpa using h)
    simp only [icells, show (k + 1) * 2 = k * 2 + 1 + 1 by omega, List.getElem?_cons_succ, List.getElem_cons_succ]
    exact this
theorem own_snoc_it {w : World} {base n : Nat} {v : Value} {ls : List (List UInt8 × Nat)} {s : ByteArray} {q : Nat} {f : List UInt8 × Nat} (h : Ow w base 2 v (n + 1) (icells ls ++ (#[Value.string s, .int .i64 q]).toList)) (h1 : s.data.toList = f.1) (h2 : q = f.2) :
    Ow w base 2 v (n + 1) (icells (ls ++ [f])) := by
  rw [← icells_append]
  have e1 : s = ⟨f.1.toArray⟩ := bytes_ext (by simp [h1])
  subst e1 h2
  exact h
theorem Rd.item {w : World} {B n : Nat} {A : Option Addr} {l : List (List UInt8 × Nat)} (h : Rd w B 2 A n (icells l)) {k : Nat} (hk : k < n) (hl : k < l.length) :
    ∃ b off, A = some ⟨b, off, none⟩ ∧ b < B ∧ w.cell? ⟨b, off + k * 2, none⟩ = some (.string ⟨l[k].1.toArray⟩) ∧ w.cell? ⟨b, off + k * 2 + 1, none⟩ = some (.int .i64 l[k].2) := by
  obtain ⟨a, rfl, hb, hc⟩ := h.at_ hk
  obtain ⟨b, off, spot⟩ := a
  have h0 := hc (k * 2) _ (icells_get l k hl).1
  have h1 := hc (k * 2 + 1) _ (icells_get l k hl).2
  have hs : spot = none := by
    have h00 := hc 0 _ (by have := (icells_get l 0 (by omega)).1; simpa using this)
    simpa [Addr.add] using World.cell?_spot h00
  subst hs
  rw [Addr.add_lit] at h0 h1
  exact ⟨b, off, rfl, hb, h0, h1⟩
theorem Rd.ilen {w : World} {B n : Nat} {A : Option Addr} {l : List (List UInt8 × Nat)} (h : Rd w B 2 A n (icells l)) : l.length = n := by have := h.1; rw [icells_length] at this; omega

/-- The members among texts. -/
def memL (l : List (List UInt8)) : List (List UInt8 × Nat) := l.flatMap fun s => if (memberL s).2 = true then [(memberL s).1] else []
def membersL (vs : List (List UInt8)) : List (List UInt8 × Nat) := memL (allV vs)
theorem memL_append (a b : List (List UInt8)) : memL (a ++ b) = memL a ++ memL b := by unfold memL; rw [List.flatMap_append]
theorem memL_snoc (l : List (List UInt8)) (j : Nat) (h : j < l.length) : memL (l.take (j + 1)) = memL (l.take j) ++ if (memberL l[j]).2 = true then [(memberL l[j]).1] else [] := by
  rw [list_take_snoc l j h, memL_append]; congr 1; simp [memL]
theorem memL_len (l : List (List UInt8)) : (memL l).length ≤ l.length := by
  induction l with
  | nil => simp [memL]
  | cons a l ih =>
    have e : memL (a :: l) = (if (memberL a).2 = true then [(memberL a).1] else []) ++ memL l := rfl
    rw [e, List.length_append, List.length_cons]
    split <;> simp <;> omega
theorem infoItem : (Tryz.prog.info? 60).map (fun i => (i.zero, i.size, i.bytes)) = some (some (.agg #[.string ByteArray.empty, .int .i64 0]), 2, 24) := by kernel_rfl

theorem apart_of {w w' : World} {base e n m size size' : Nat} {A : Option Addr} {c : Nat} {v : Value} {xs ys : List Value} (h : w'.ownsRow w.heap.size e size (.slice A n c) n xs) (ho : Ow w base size' v m ys) : Apart A v := by
  intro a ha e
  obtain ⟨A', c', he, _, _, hb⟩ := own_shape h
  cases he
  have h1 := hb a ha
  have h2 := (ho.lt _ e).2
  omega
set_option maxRecDepth 100000 in
set_option maxHeartbeats 6400000 in
theorem parse_any (A : Option Addr) (n c B : Nat) (vs : List (List UInt8)) (w : World) (h : Rd w B 1 A n (scells vs)) (hB : B ≤ w.heap.size) (hn : n ≤ 1000) (hok : ∀ v ∈ vs, v.length ≤ 1000000) :
    Calls Tryz.prog 53 #[.slice A n c] w fun e w' => ∃ A' c', e = .returned (.slice A' (membersL vs).length c') ∧
      Ow w' w.heap.size 2 (.slice A' (membersL vs).length c') (membersL vs).length (icells (membersL vs)) ∧ (membersL vs).length ≤ c' ∧ Below w.heap.size w w' := by
  obtain ⟨i0, hi0, hz0, hz1, hz2⟩ := info_parts infoItem
  have hlen : vs.length = n := by have := h.1; simpa [scells] using this
  have HLEN := hide hlen
  have HM := hide hok
  clear hlen hok
  go_enter Tryz.func53, Tryz.ntmps53
  go_wp2_with fail
  go_loopw [3, 12] (fun o i wr => ∃ k : Nat, k ≤ n ∧ i = .int .i64 k ∧ Ow wr w.heap.size 2 o (membersL (vs.take k)).length (icells (membersL (vs.take k))) ∧ Below w.heap.size w wr) (fun _ i _ => n - (intOf i).toNat)
  case atStart => exact ⟨0, Nat.zero_le _, rfl, Ow.nil_, Below.refl _ _⟩
  case round =>
    obtain ⟨k, hk, rfl, ho, hb⟩ := hrel
    by_cases hlt : k < n
    · have hkl : k < vs.length := by have := HLEN.out; omega
      obtain ⟨a, rfl, -, hcell⟩ := (h.below (hb.mono hB)).text hlt hkl
      have hsn := allV_snoc vs k hkl
      have hal := allV_len (vs.take k) fun v hv => HM.out v (List.mem_of_mem_take hv)
      rw [List.length_take, Nat.min_eq_left (by omega)] at hal
      have hml := memL_len (allV (vs.take k))
      have hxs := HM.out vs[k] (List.getElem_mem hkl)
      have hbz := hb.size
      obtain ⟨x, hx⟩ : ∃ x, x = vs[k] := ⟨_, rfl⟩
      rw [← hx] at hcell hsn hxs
      have hs := fun w => split_any ⟨x.toArray⟩ w (by rw [mk_size]; omega)
      rw [mk_list] at hs
      have hsl := split_length x
      have hsm := fun y hy => FieldSplitsP.split_mem _ _ (Nat.le_refl _) y (hy : y ∈ splitL x)
      obtain ⟨ys, hys⟩ : ∃ ys, ys = splitL x := ⟨_, rfl⟩
      rw [← hys] at hs hsn hsl hsm
      have hsn2 : membersL (vs.take (k + 1)) = membersL (vs.take k) ++ memL ys := by unfold membersL; rw [hsn, memL_append]
      have hgk2 : (membersL (vs.take k)).length ≤ 2000000000 := by unfold membersL; omega
      obtain ⟨gk, hgk⟩ : ∃ gk, gk = membersL (vs.take k) := ⟨_, rfl⟩
      rw [← hgk] at hsn2 hgk2 ho
      obtain ⟨sx, hsx⟩ : ∃ sx : ByteArray, sx = ⟨x.toArray⟩ := ⟨_, rfl⟩
      rw [← hsx] at hcell hs
      have HS := hide hsn2
      have HSM := hide hsm
      clear hsn hsn2 hal hml hx hys hgk hsx hsm
      go_wp2_with fail
      refine (hs _).mono ?_
      rintro e w2 ⟨A2, c2, rfl, o2, hc2, b2⟩
      have r2 := Rd.of_own o2
      have hap := apart_of o2 ho
      have ho2 := ho.below b2
      have hb2 := hb.trans (b2.mono hbz)
      clear o2 hs ho
      obtain ⟨m, hm⟩ : ∃ m, ys.length = m := ⟨_, rfl⟩
      rw [hm] at r2 hc2 hsl ⊢
      have HM2 := hide hm
      clear hm
      go_wp2_with fail
      go_loopw [3, 19] (fun o i wr2 => ∃ j : Nat, j ≤ m ∧ i = .int .i64 j ∧ Ow wr2 w.heap.size 2 o (gk ++ memL (ys.take j)).length (icells (gk ++ memL (ys.take j))) ∧ Rd wr2 w2.heap.size 1 A2 m (scells ys) ∧ Apart A2 o ∧ w2.heap.size ≤ wr2.heap.size ∧ Below w.heap.size w wr2) (fun _ i _ => m - (intOf i).toNat)
      case atStart => exact ⟨0, Nat.zero_le _, rfl, by simpa [memL] using ho2, r2, hap, Nat.le_refl _, hb2⟩
      case round =>
        clear ho2 hap r2
        obtain ⟨j, hj, rfl, ho3, r3, ap3, hz3, hb3⟩ := hrel
        by_cases hlj : j < m
        · have hjl : j < ys.length := by have := HM2.out; omega
          obtain ⟨a2, hA2, hab, hc2'⟩ := r3.text hlj hjl
          subst hA2
          have hms := memL_snoc ys j hjl
          have hml := memL_len (ys.take j)
          rw [List.length_take] at hml
          have hyl := HSM.out ys[j] (List.getElem_mem hjl)
          obtain ⟨y, hy⟩ : ∃ y, y = ys[j] := ⟨_, rfl⟩
          rw [← hy] at hc2' hms hyl
          have hmb := member_any ⟨y.toArray⟩ wr (by rw [mk_size]; omega)
          rw [mk_list] at hmb
          obtain ⟨gj, hgj⟩ : ∃ g, g = memL (ys.take j) := ⟨_, rfl⟩
          rw [← hgj] at hms hml ho3
          obtain ⟨sy, hsy⟩ : ∃ sy : ByteArray, sy = ⟨y.toArray⟩ := ⟨_, rfl⟩
          rw [← hsy] at hc2' hmb
          obtain ⟨⟨⟨nm, q⟩, bo⟩, hmm⟩ : ∃ mm, mm = memberL y := ⟨_, rfl⟩
          rw [← hmm] at hmb hms
          simp only [itV] at hmb
          obtain ⟨bn, hbn⟩ : ∃ b : ByteArray, b = ⟨nm.toArray⟩ := ⟨_, rfl⟩
          rw [← hbn] at hmb
          have HBN := hide (show bn.data.toList = nm by rw [hbn])
          have HMS := hide hms
          have hgl : (gk ++ gj).length ≤ 3000000000 := by rw [List.length_append]; have := Nat.min_le_left j ys.length; have := HM2.out; omega
          have hb3z := hb3.size
          obtain ⟨ng, hng⟩ : ∃ n, (gk ++ gj).length = n := ⟨_, rfl⟩
          rw [hng] at hgl ho3
          have HNG := hide hng
          clear hms hml hy hgj hsy hmm hbn hyl hng
          go_wp2_with fail
          refine hmb.mono ?_
          rintro e w5 ⟨rfl, b5⟩
          go_upto_region 9 with (fail)
          have b6 : Below wr.heap.size wr (w5.alloc (.cells #[.string bn, .int .i64 q] 60)) := b5.alloc b5.size _
          have d60 : (w5.alloc (.cells #[.string bn, .int .i64 q] 60)).cell? ⟨w5.heap.size, 0, none⟩ = some (.string bn) := new_kept (n := w5.heap.size + 1) (i := 0) (Below.refl _ _) rfl rfl
          have d61 : (w5.alloc (.cells #[.string bn, .int .i64 q] 60)).cell? ⟨w5.heap.size, 1, none⟩ = some (.int .i64 q) := new_kept (n := w5.heap.size + 1) (i := 1) (Below.refl _ _) rfl rfl
          obtain ⟨g5, hg5⟩ : ∃ g, g = w5.heap.size := ⟨_, rfl⟩
          rw [← hg5] at d60 d61
          simp only [← hg5]
          generalize w5.alloc (.cells #[.string bn, .int .i64 q] 60) = w6 at b6 d60 d61 ⊢
          clear hg5 b5 hmb hc2'
          have ho6 := ho3.below b6
          have r6 := r3.below (b6.mono hz3)
          have t6 := hb3.trans (b6.mono hb3z)
          have t6z := t6.size
          have z6 := Nat.le_trans hz3 b6.size
          clear ho3 b6 r3
          rcases bo with _ | _
          · go_wp2
            go_roundw
            case rel => exact ⟨j + 1, by omega, by go_num, by rw [HMS.out, if_neg (by simp), List.append_nil, HNG.out]; exact ho6, r6, ap3, z6, t6⟩
            case measure => simp [intOf]; omega
          · go_wp2_with (at_builtin; refine wpl_push_ow rfl _ _ _ rfl w.heap.size i0 _ 2 24 Tryz.underlying57 hi0 hz0 hz1 hz2 rfl (by omega) _ _ _ rfl _ rfl ho6 rfl (by simp [Value.oneCell']) (by unfold maxLen; omega) (by omega) t6z ?_; intro v1 w7 hown1 hbel1 hg1 hv1)
            have r7 := r6.grown hg1 z6 ap3
            have ap7 := ap3.step r6 (by omega) z6 hv1
            have z7 := Nat.le_trans z6 hg1.size
            clear r6 ap3 hg1 hv1
            go_roundw
            case rel =>
              refine ⟨j + 1, by omega, by go_num, ?_, r7, ap7, z7, t6.trans hbel1⟩
              rw [HMS.out, if_pos rfl, ← List.append_assoc, List.length_append, HNG.out]
              exact own_snoc_it hown1 HBN.out rfl
            case measure => simp [intOf]; omega
        · rw [List.take_of_length_le (by have := HM2.out; omega)] at ho3
          go_wp2
          go_roundw
          case rel => exact ⟨k + 1, by omega, by go_num, by rw [HS.out]; exact ho3, hb3⟩
          case measure => simp [intOf]; omega
    · rw [List.take_of_length_le (by have := HLEN.out; omega)] at ho
      go_wp2
      go_ret
      obtain ⟨A', c', rfl, hc', -⟩ := ho.shape
      exact ⟨A', c', rfl, ho, hc', hb⟩
end Go.Proofs.YtgdjlmpfjmakkaaGreatDoor
