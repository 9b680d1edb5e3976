/- AcceptCase returns true, whatever its arguments (under way). -/
import Derived.Test.YtgdjlmpfjmakkaaDoorAns20
import Derived.Test.YtgdjlmpfjmakkaaDoorCaseSpec
import Derived.Test.YtgdjlmpfjmakkaaDoorWtxt
import Derived.Test.YtgdjlmpfjmakkaaDoorAgain
import Derived.Deep.DeepCutAuto
import Derived.Deep.CutBlock
namespace Go.Proofs.YtgdjlmpfjmakkaaDoor.AcceptCaseP
open Go.RowKit Go.ChangeShapes Go.WideShapes Go.ChangeAt

theorem cellsU16 : Tryd.prog.cellsOf 57 = 1 := by kernel_rfl
def ucells (zs : List Nat) : List Value := zs.map fun (z : Nat) => Value.int .u16 (z : Int)
set_option maxRecDepth 100000 in
/-- A slice of uint16. -/
theorem open_u16s {H : Type} {enc : TypeId × Value → H} {W : World} {r : Reach} {b0 : Nat} {v : Value} {d : DataW H} {p : List MemPlace} (hv : Value.okWide Tryd.prog W r b0 63 v) (h : DataW.Trod enc Tryd.prog W 0 (fun _ => true) true 63 v d p) :
    ∃ A n c zs, v = .slice A n c ∧ Rd W W.heap.size 1 A n (ucells zs) ∧ n ≤ c ∧ c ≤ maxLen ∧ ∀ z ∈ zs, z < 65536 := by
  obtain ⟨a, len, cap, rfl⟩ := okWide_slice Tryd.underlying63 hv
  obtain ⟨fuel, hf⟩ := h
  rcases open_ints Tryd.underlying63 Tryd.underlying57 cellsU16 hf with ⟨h0, _⟩ | ⟨a, len', cap', zs, h0, _, hl, hm, hmm, _, hc, hwf⟩
  · simp only [Value.cells, List.cons.injEq, and_true] at h0
    cases h0
    exact ⟨none, 0, 0, [], rfl, Rd.nil_, Nat.le_refl _, Nat.zero_le _, by simp⟩
  · simp only [Value.cells, List.cons.injEq, and_true] at h0
    cases h0
    simp only [if_true] at hmm
    have hz : ∀ z ∈ zs, 0 ≤ z ∧ z < 65536 := fun z hz => by
      have := hwf z hz
      simp [Lit.wf, IntKind.min, IntKind.max, IntKind.signed, IntKind.bits] at this
      omega
    refine ⟨some a, len, cap, (zs.take len).map Int.toNat, rfl, ⟨by simp [ucells]; omega, ?_⟩, hl, hm, ?_⟩
    · rcases Nat.eq_zero_or_pos len with h0 | h0
      · exact .inl h0
      · refine .inr ⟨a, rfl, ?_, fun j u hu => ?_⟩
        · have := World.block_lt_of_cell? W _ (hc 0 (by omega))
          rwa [addr_add_block] at this
        · have hj : j < (ucells ((zs.take len).map Int.toNat)).length := (List.getElem?_eq_some_iff.1 hu).1
          have hj2 : j < len ∧ j < zs.length := by simp [ucells] at hj; omega
          rw [hc j hj2.2]
          have h2 := (hz zs[j] (List.getElem_mem hj2.2)).1
          have hjt : j < (zs.take len).length := by rw [List.length_take]; omega
          have e1 : (ucells ((zs.take len).map Int.toNat))[j]? = some (.int .u16 ((zs[j].toNat : Nat) : Int)) := by
            unfold ucells
            rw [List.getElem?_map, List.getElem?_map, List.getElem?_eq_getElem hjt, List.getElem_take]; rfl
          rw [e1] at hu
          rw [← hu, List.getD_eq_getElem?_getD, List.getElem?_eq_getElem hj2.2, Option.getD_some, Int.toNat_of_nonneg h2]
    · intro z hz'
      obtain ⟨y, hy, rfl⟩ := List.mem_map.1 hz'
      have := hz y (List.mem_of_mem_take hy)
      omega

theorem wtxt_len (q : Nat) (h : q ≤ 1000) : (wtxt q).length = 5 := (wtxt_plain q h).2
theorem nameC_le : ∀ k, k < 5 → (nameC k).length ≤ 8 ∧ (upC k).length ≤ 8 := by decide
theorem itemA_le (v : Nat) : (itemA v).length ≤ 20 ∧ ∀ bl, (itemB bl v).length ≤ 20 := by
  have h1 := nameC_le (v % 5) (by omega)
  have h2 := wtxt_len (v / 5 % 1001) (by omega)
  constructor
  · unfold itemA; simp [h2]; omega
  · intro bl; unfold itemB midC; cases bl <;> simp [h2] <;> omega

theorem mod_int (z : Nat) : ((z / 5 % 1001 : Nat) : Int) = (z : Int) / 5 % 1001 := by omega
theorem ba_app (a b : ByteArray) : (a ++ b).data.toList = a.data.toList ++ b.data.toList := by simp
theorem join_step (sep : List UInt8) (f : Nat → List UInt8) (zs : List Nat) (k : Nat) (hk : k < zs.length) : (k = 0 → joinL sep ((zs.take (k + 1)).map f) = f zs[k]) ∧ (0 < k → joinL sep ((zs.take (k + 1)).map f) = joinL sep ((zs.take k).map f) ++ sep ++ f zs[k]) := by
  rw [list_take_snoc zs k hk, List.map_append]
  constructor
  · intro h0; subst h0; simp [joinL]
  · intro h0
    have hne : (zs.take k).map f ≠ [] := by
      intro e
      have := congrArg List.length e
      rw [List.length_map, List.length_take, List.length_nil] at this; omega
    exact joinL_snoc sep (f zs[k]) _ hne
theorem size_join (sep : List UInt8) (hs : sep.length ≤ 4) (f : Nat → List UInt8) (hf : ∀ v, (f v).length ≤ 20) (zs : List Nat) (k : Nat) (hk : k ≤ 30) (b : ByteArray) (hb : b.data.toList = joinL sep ((zs.take k).map f)) : b.size ≤ 20000 := by
  rw [size_of, hb]
  have h1 := joinL_len sep hs ((zs.take k).map f) (by intro x hx; obtain ⟨v, _, rfl⟩ := List.mem_map.1 hx; have := hf v; omega)
  rw [List.length_map, List.length_take] at h1
  have : min k zs.length * 604 ≤ 30 * 604 := Nat.mul_le_mul_right _ (by omega)
  omega

theorem qL_same {vs us : List (List UInt8)} (hv : vs ≠ []) (hu : us ≠ []) (h : membersL vs = membersL us) (c : List UInt8) : qL vs c = qL us c := by
  unfold qL; rw [if_neg hv, if_neg hu, h]
def codeB : Nat → ByteArray
  | 0 => ⟨#[103, 122, 105, 112]⟩
  | 1 => ⟨#[100, 101, 102, 108, 97, 116, 101]⟩
  | 2 => ⟨#[105, 100, 101, 110, 116, 105, 116, 121]⟩
  | _ => ⟨#[98, 114]⟩

set_option maxRecDepth 100000 in
set_option maxHeartbeats 6400000 in
theorem walk (A : Option Addr) (n c : Nat) (zs : List Nat) (bl : Bool) (w : World) (h : Rd w w.heap.size 1 A n (ucells zs)) (hn : n ≤ 9223372036854775807) (hz : ∀ z ∈ zs, z < 65536) :
    Calls Tryd.prog 8 #[.slice A n c, .bool bl] w fun e w' => e = .returned (.bool true) ∧ Below w.heap.size w w' := by
  have hlen : zs.length = n := by have := h.1; simpa [ucells] using this
  by_cases hbig : n ≤ 30
  · obtain ⟨i0, hi0, hz0, hz1, hz2⟩ := info_parts infoStr
    have HLEN := hide hlen
    have HZ := hide hz
    clear hlen hz
    go_enter Tryd.func8, Tryd.ntmps8
    go_wp2_with fail
    go_loopw [5, 6, 7, 8] (fun a b o i wr => ∃ k : Nat, k ≤ n ∧ i = .int .i64 k ∧ (∃ ba, a = .string ba ∧ Hid (ba.data.toList = joinL [44] ((zs.take k).map itemA))) ∧ (∃ bb, b = .string bb ∧ Hid (bb.data.toList = joinL [32, 44, 32] ((zs.take k).map (itemB bl)))) ∧
      wr.ownsRow w.heap.size 9 1 o k (scells ((zs.take k).map (itemB bl))) ∧ Below w.heap.size w wr) (fun _ _ _ i _ => n - (intOf i).toNat)
    case atStart => exact ⟨0, Nat.zero_le _, rfl, ⟨_, rfl, hide rfl⟩, ⟨_, rfl, hide rfl⟩, World.ownsRow_nil _ _ _ _, Below.refl _ _⟩
    case round =>
      obtain ⟨k, hk, rfl, ⟨ba, rfl, HA⟩, ⟨bb, rfl, HB⟩, ho, hb⟩ := hrel
      have za := size_join [44] (by decide) itemA (fun v => (itemA_le v).1) zs k (by omega) ba HA.out
      have zb := size_join [32, 44, 32] (by decide) (itemB bl) (fun v => (itemA_le v).2 bl) zs k (by omega) bb HB.out
      by_cases hlt : k < n
      · have hkl : k < zs.length := by have := HLEN.out; omega
        obtain ⟨ad, rfl, hab, hcc⟩ := (h.below hb).at_ (k := k) (by omega)
        have hcell := hcc k (.int .u16 (zs[k] : Nat)) (by unfold ucells; rw [List.getElem?_map, List.getElem?_eq_getElem hkl]; rfl)
        have hzk := HZ.out zs[k] (List.getElem_mem hkl)
        have hjA := join_step [44] itemA zs k hkl
        have hjB := join_step [32, 44, 32] (itemB bl) zs k hkl
        have hjP : (zs.take (k + 1)).map (itemB bl) = (zs.take k).map (itemB bl) ++ [itemB bl zs[k]] := by rw [list_take_snoc zs k hkl, List.map_append]; rfl
        obtain ⟨z, hzz⟩ : ∃ z, z = zs[k] := ⟨_, rfl⟩
        rw [← hzz] at hcell hzk hjA hjB hjP
        clear hcc hzz
        have HJA := hide hjA
        have HJB := hide hjB
        have HJP := hide hjP
        clear hjA hjB hjP
        have hwt := fun w => wtxt_any (z / 5 % 1001) (by omega) w
        rw [mod_int] at hwt
        obtain ⟨bwt, hbw⟩ : ∃ b : ByteArray, b = ⟨(wtxt (z / 5 % 1001)).toArray⟩ := ⟨_, rfl⟩
        simp only [← hbw] at hwt
        have hbwl : bwt.data.toList = wtxt (z / 5 % 1001) := by rw [hbw]
        have zw : bwt.size ≤ 5 := by rw [size_of, hbwl, wtxt_len _ (by omega)]; omega
        obtain ⟨wn, hwn⟩ : ∃ x, x = wr.alloc (.cells #[.string ⟨#[103, 122, 105, 112]⟩, .string ⟨#[100, 101, 102, 108, 97, 116, 101]⟩, .string ⟨#[105, 100, 101, 110, 116, 105, 116, 121]⟩, .string ⟨#[120, 45, 103, 122, 105, 112]⟩, .string ⟨#[42]⟩] 9) := ⟨_, rfl⟩
        have bn : Below wr.heap.size wr wn := by rw [hwn]; exact (Below.refl _ _).alloc (Nat.le_refl _) _
        have cn : wn.cell? (ad.add k) = some (.int .u16 z) := (bn.cell (World.block_lt_of_cell? wr _ hcell)).trans hcell
        obtain ⟨bnm, hbn⟩ : ∃ b : ByteArray, b = ⟨(nameC (z % 5)).toArray⟩ := ⟨_, rfl⟩
        have hcases : z % 5 = 0 ∨ z % 5 = 1 ∨ z % 5 = 2 ∨ z % 5 = 3 ∨ z % 5 = 4 := by omega
        have dn : wn.cell? ⟨wr.heap.size, z % 5, none⟩ = some (.string bnm) := by
          rw [hwn, World.cell?_alloc_new, hbn]
          rcases hcases with e | e | e | e | e <;> rw [e] <;> rfl
        obtain ⟨wu, hwu⟩ : ∃ x, x = wn.alloc (.cells #[.string ⟨#[71, 90, 73, 80]⟩, .string ⟨#[68, 101, 102, 108, 97, 116, 101]⟩, .string ⟨#[73, 68, 69, 78, 84, 73, 84, 89]⟩, .string ⟨#[88, 45, 71, 122, 105, 112]⟩, .string ⟨#[42]⟩] 9) := ⟨_, rfl⟩
        have bu : Below wn.heap.size wn wu := by rw [hwu]; exact (Below.refl _ _).alloc (Nat.le_refl _) _
        have cu : wu.cell? (ad.add k) = some (.int .u16 z) := (bu.cell (World.block_lt_of_cell? wn _ cn)).trans cn
        obtain ⟨bum, hbu⟩ : ∃ b : ByteArray, b = ⟨(upC (z % 5)).toArray⟩ := ⟨_, rfl⟩
        have du : wu.cell? ⟨wn.heap.size, z % 5, none⟩ = some (.string bum) := by
          rw [hwu, World.cell?_alloc_new, hbu]
          rcases hcases with e | e | e | e | e <;> rw [e] <;> rfl
        have hwn' := hwn.symm
        have hwu' := hwu.symm
        have hbnl : bnm.data.toList = nameC (z % 5) := by rw [hbn]
        have hbul : bum.data.toList = upC (z % 5) := by rw [hbu]
        have hnl := nameC_le (z % 5) (by omega)
        have zn : bnm.size ≤ 8 := by rw [size_of, hbnl]; exact hnl.1
        have zu : bum.size ≤ 8 := by rw [size_of, hbul]; exact hnl.2
        have HN := hide hbnl
        have HU := hide hbul
        have HW := hide hbwl
        have t1 := bn.trans (bu.mono bn.size)
        clear hwn hwu hcell hcases hbnl hbul hbwl hbn hbu hbw hnl
        go_wp2_with fail
        refine (hwt wu).mono ?_
        rintro e w3 ⟨rfl, b3⟩
        have t2 := t1.trans (b3.mono t1.size)
        have ho3 := own_below ho t2
        have t3 := hb.trans (t2.mono hb.size)
        clear ho hwt hwn' hwu' dn du cn t1 t2 bn bu b3 cu
        have hk0 : k = 0 ∨ 0 < k := by omega
        cases bl
        · rcases hk0 with rfl | hk0
          · go_wp2_with (at_builtin; refine wpl_push rfl _ _ _ rfl w.heap.size i0 _ 1 16 Tryd.underlying32 hi0 hz0 hz1 hz2 rfl (by omega) _ _ _ rfl _ rfl ho3 rfl (by simp [Value.oneCell']) (by unfold maxLen; omega) (by omega) t3.size ?_; intro v1 w4 hown1 hbel1 _)
            go_roundw
            case rel => exact ⟨0 + 1, by omega, by go_num, ⟨_, rfl, hide (by rw [HJA.out.1 (by trivial)]; simp [HA.out, HN.out, HW.out, itemA, joinL])⟩, ⟨_, rfl, hide (by rw [HJB.out.1 (by trivial)]; simp [HB.out, HU.out, HW.out, itemB, midC, joinL])⟩, by rw [HJP.out]; exact own_snoc_str hown1 (by simp [HU.out, HW.out, itemB, midC]), t3.trans hbel1⟩
            case measure => simp [intOf]; omega
          · go_wp2_with (at_builtin; refine wpl_push rfl _ _ _ rfl w.heap.size i0 _ 1 16 Tryd.underlying32 hi0 hz0 hz1 hz2 rfl (by omega) _ _ _ rfl _ rfl ho3 rfl (by simp [Value.oneCell']) (by unfold maxLen; omega) (by omega) t3.size ?_; intro v1 w4 hown1 hbel1 _)
            go_roundw
            case rel => exact ⟨k + 1, by omega, by go_num, ⟨_, rfl, hide (by rw [HJA.out.2 hk0]; simp [HA.out, HN.out, HW.out, itemA])⟩, ⟨_, rfl, hide (by rw [HJB.out.2 hk0]; simp [HB.out, HU.out, HW.out, itemB, midC])⟩, by rw [HJP.out]; exact own_snoc_str hown1 (by simp [HU.out, HW.out, itemB, midC]), t3.trans hbel1⟩
            case measure => simp [intOf]; omega
        · rcases hk0 with rfl | hk0
          · go_wp2_with (at_builtin; refine wpl_push rfl _ _ _ rfl w.heap.size i0 _ 1 16 Tryd.underlying32 hi0 hz0 hz1 hz2 rfl (by omega) _ _ _ rfl _ rfl ho3 rfl (by simp [Value.oneCell']) (by unfold maxLen; omega) (by omega) t3.size ?_; intro v1 w4 hown1 hbel1 _)
            go_roundw
            case rel => exact ⟨0 + 1, by omega, by go_num, ⟨_, rfl, hide (by rw [HJA.out.1 (by trivial)]; simp [HA.out, HN.out, HW.out, itemA, joinL])⟩, ⟨_, rfl, hide (by rw [HJB.out.1 (by trivial)]; simp [HB.out, HU.out, HW.out, itemB, midC, joinL])⟩, by rw [HJP.out]; exact own_snoc_str hown1 (by simp [HU.out, HW.out, itemB, midC]), t3.trans hbel1⟩
            case measure => simp [intOf]; omega
          · go_wp2_with (at_builtin; refine wpl_push rfl _ _ _ rfl w.heap.size i0 _ 1 16 Tryd.underlying32 hi0 hz0 hz1 hz2 rfl (by omega) _ _ _ rfl _ rfl ho3 rfl (by simp [Value.oneCell']) (by unfold maxLen; omega) (by omega) t3.size ?_; intro v1 w4 hown1 hbel1 _)
            go_roundw
            case rel => exact ⟨k + 1, by omega, by go_num, ⟨_, rfl, hide (by rw [HJA.out.2 hk0]; simp [HA.out, HN.out, HW.out, itemA])⟩, ⟨_, rfl, hide (by rw [HJB.out.2 hk0]; simp [HB.out, HU.out, HW.out, itemB, midC])⟩, by rw [HJP.out]; exact own_snoc_str hown1 (by simp [HU.out, HW.out, itemB, midC]), t3.trans hbel1⟩
            case measure => simp [intOf]; omega
      · have hk2 : k = n := by omega
        subst hk2
        rw [List.take_of_length_le (by have := HLEN.out; omega)] at HA HB ho
        have hA := HA.out
        have hB := HB.out
        have hL := HLEN.out
        clear HA HB HZ h hlt
        rcases Nat.eq_zero_or_pos k with h0 | h0
        · subst h0
          go_wp2_with (refine (ans20_any _).mono ?_; rintro e w' ⟨rfl, hB⟩)
          go_ret
          exact ⟨rfl, hb.trans (hB.mono hb.size)⟩
        · have hne : zs ≠ [] := by rintro rfl; simp at hL; omega
          have hqA : ∀ c, qL [ba.data.toList] c = qL (zs.map (itemB bl)) c := qL_same (by simp) (by simpa using hne) (by rw [hA, membersA, membersP])
          have hqB : ∀ c, qL [bb.data.toList] c = qL (zs.map (itemB bl)) c := qL_same (by simp) (by simpa using hne) (by rw [hB, membersB, membersP])
          have hps : ∀ v ∈ zs.map (itemB bl), v.length ≤ 1000000 := by intro x hx; obtain ⟨v, _, rfl⟩ := List.mem_map.1 hx; have := (itemA_le v).2 bl; omega
          obtain ⟨ps, hps0⟩ : ∃ ps, ps = zs.map (itemB bl) := ⟨_, rfl⟩
          rw [← hps0] at hqA hqB hps ho
          obtain ⟨Ap, cp, rfl, -, -⟩ := own_shape ho
          have rp := Rd.of_own ho
          have qa := fun (W : World) (cb : ByteArray) => q_any (some ⟨W.heap.size, 0, none⟩) 1 1 (W.heap.size + 1) [ba.data.toList] cb _ (rd_text W ba) (by simp) (by omega) (by intro v hv; rw [List.mem_singleton.1 hv, ← size_of]; omega)
          have qb := fun (W : World) (cb : ByteArray) => q_any (some ⟨W.heap.size, 0, none⟩) 1 1 (W.heap.size + 1) [bb.data.toList] cb _ (rd_text W bb) (by simp) (by omega) (by intro v hv; rw [List.mem_singleton.1 hv, ← size_of]; omega)
          have qp := fun (W : World) (b : Below wr.heap.size wr W) (cb : ByteArray) => q_any Ap k cp _ ps cb W (rp.below b) b.size (by omega) hps
          simp only [hqA] at qa
          simp only [hqB] at qb
          clear hqA hqB hps hps0 hA hB hL hne rp ho HLEN
          obtain ⟨w4, hw4⟩ : ∃ x, x = wr.alloc (.cells #[.string ⟨#[103, 122, 105, 112]⟩, .string ⟨#[100, 101, 102, 108, 97, 116, 101]⟩, .string ⟨#[105, 100, 101, 110, 116, 105, 116, 121]⟩, .string ⟨#[98, 114]⟩] 9) := ⟨_, rfl⟩
          have b4 : Below wr.heap.size wr w4 := by rw [hw4]; exact (Below.refl _ _).alloc (Nat.le_refl _) _
          have KN : ∀ X, Below w4.heap.size w4 X → ∀ t, t < 4 → X.cell? ⟨wr.heap.size, t, none⟩ = some (.string (codeB t)) := by
            intro X b t ht
            rw [b.cell (p := ⟨wr.heap.size, t, none⟩) (by rw [hw4]; simp), hw4, World.cell?_alloc_new]
            have : t = 0 ∨ t = 1 ∨ t = 2 ∨ t = 3 := by omega
            rcases this with e | e | e | e <;> rw [e] <;> rfl
          obtain ⟨g, hg⟩ : ∃ g, g = wr.heap.size := ⟨_, rfl⟩
          rw [← hg] at KN
          have HG := hide hg
          have hg4 : g < w4.heap.size := by rw [hg, hw4]; simp
          have hw4' := hw4.symm
          clear hw4 hg
          have hk00 : ((k : Int) == 0) = false := by simp; omega
          go_upto_region 23 with (fail)
          clear hw4'
          rw [← HG.out]
          go_wp2_with fail
          go_loopw [14, 15] (fun i _ wr2 => ∃ t : Nat, t ≤ 4 ∧ i = .int .i64 t ∧ Below w4.heap.size w4 wr2) (fun i _ _ => 4 - (intOf i).toNat)
          case atStart => exact ⟨0, by omega, rfl, Below.refl _ _⟩
          case round =>
            obtain ⟨t, ht, rfl, b2⟩ := hrel
            by_cases hlt : t < 4
            · have hlt4 : (t : Int) < 4 := by omega
              obtain ⟨wa, hwa⟩ : ∃ x, x = wr.alloc (.cells #[.string ba] 9) := ⟨_, rfl⟩
              have ba1 : Below wr.heap.size wr wa := by rw [hwa]; exact (Below.refl _ _).alloc (Nat.le_refl _) _
              have b3 := b2.trans (ba1.mono b2.size)
              have d1 := KN wa b3 t hlt
              have q1 := qa wr (codeB t)
              rw [← hwa] at q1
              have hwa' := hwa.symm
              obtain ⟨r, hr⟩ : ∃ r, r = qL ps (codeB t).data.toList := ⟨_, rfl⟩
              rw [← hr] at q1
              have HR := hide hr
              clear hwa qa hr
              go_wp2_with fail
              refine q1.mono ?_
              rintro e w5 ⟨rfl, b⟩
              have b5 := b3.trans (b.mono b3.size)
              clear q1 b b3 ba1 hwa' d1
              obtain ⟨wb, hwb⟩ : ∃ x, x = w5.alloc (.cells #[.string bb] 9) := ⟨_, rfl⟩
              have bb1 : Below w5.heap.size w5 wb := by rw [hwb]; exact (Below.refl _ _).alloc (Nat.le_refl _) _
              have b6 := b5.trans (bb1.mono b5.size)
              have d1 := KN wb b6 t hlt
              have q1 := qb w5 (codeB t)
              rw [← hwb] at q1
              have hwb' := hwb.symm
              rw [← HR.out] at q1
              clear hwb qb
              go_wp2_with fail
              refine q1.mono ?_
              rintro e w7 ⟨rfl, b⟩
              have b7 := b6.trans (b.mono b6.size)
              clear q1 b bb1 hwb' d1 b6
              have d1 := KN w7 b7 t hlt
              have q1 := qp w7 (b4.trans (b7.mono b4.size)) (codeB t)
              rw [← HR.out] at q1
              clear qp
              go_wp2_with fail
              refine q1.mono ?_
              rintro e w8 ⟨rfl, b⟩
              have b8 := b7.trans (b.mono b7.size)
              clear q1 b d1
              go_wp2
              go_roundw
              case rel => exact ⟨t + 1, by omega, by go_num, b8⟩
              case measure => simp [intOf]; omega
            · go_wp2_with (refine (ans20_any _).mono ?_; rintro e w' ⟨rfl, hB⟩)
              go_ret
              have t4 := hb.trans (b4.mono hb.size)
              have t5 := t4.trans (b2.mono t4.size)
              exact ⟨rfl, t5.trans (hB.mono t5.size)⟩
  · go_enter Tryd.func8, Tryd.ntmps8
    go_wp2_with (refine (ans20_any _).mono ?_; rintro e w' ⟨rfl, hB⟩)
    go_ret
    exact ⟨rfl, hB⟩
end Go.Proofs.YtgdjlmpfjmakkaaDoor.AcceptCaseP
