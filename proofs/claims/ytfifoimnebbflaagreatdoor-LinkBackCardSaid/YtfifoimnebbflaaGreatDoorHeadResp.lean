/- head.ParseResponse, at a head whose first line is a printed one. -/
import Derived.Test.YtfifoimnebbflaaGreatDoorPrintResp
import Derived.Test.YtfifoimnebbflaaGreatDoorHeadReq
import Derived.Lib.AtoiErrMem
namespace Go.Proofs.YtfifoimnebbflaaGreatDoor
open Go.RowKit
set_option linter.unusedVariables false
set_option linter.unusedSimpArgs false

theorem dec_three {k : Nat} (h1 : 100 ≤ k) (h2 : k ≤ 999) : Lib.decDigits k = [UInt8.ofNat (48 + k / 100), UInt8.ofNat (48 + k / 10 % 10), UInt8.ofNat (48 + k % 10)] := by
  rw [Lib.decDigits, dif_neg (by omega), Lib.decDigits_two (by omega) (by omega), show k / 10 / 10 = k / 100 by omega]
  rfl
theorem atoi_three : ∀ a, a < 10 → ∀ b, b < 10 → ∀ c, c < 10 → Lib.atoi [UInt8.ofNat (48 + a), UInt8.ofNat (48 + b), UInt8.ofNat (48 + c)] = some (((a * 10 + b) * 10 + c : Nat) : Int) := by decide +kernel
set_option maxRecDepth 100000 in
set_option maxHeartbeats 3200000 in
theorem status_any (k : Nat) (h1 : 100 ≤ k) (h2 : k ≤ 599) (w : World) :
    Calls Tryz.prog 54 #[.string ⟨(Lib.decDigits k).toArray⟩] w fun e w' => e = .returned (.tuple #[.int .i64 k, .bool true]) ∧ Below w.heap.size w w' := by
  have h3 := dec_three h1 (by omega)
  have q1 := Tryz.strconv_Atoi ⟨(Lib.decDigits k).toArray⟩ k (by rw [mk_size, h3]; simp) (by
    rw [mk_list, h3, atoi_three _ (by omega) _ (by omega) _ (by omega), show (k / 100 * 10 + k / 10 % 10) * 10 + k % 10 = k by omega]) w
  obtain ⟨s, hs⟩ : ∃ s : ByteArray, s = ⟨(Lib.decDigits k).toArray⟩ := ⟨_, rfl⟩
  rw [← hs] at q1 ⊢
  have hsz : s.size = 3 := by rw [hs, mk_size, h3]; rfl
  have hget : s.data.toList[0]? = some (UInt8.ofNat (48 + k / 100)) := by rw [hs, mk_list, h3]; rfl
  have h0 : ∃ h : 0 < s.size, s[0] = UInt8.ofNat (48 + k / 100) := by
    refine ⟨by omega, ?_⟩
    have := get_toList s 0 (by omega)
    rw [hget] at this
    exact (Option.some.inj this).symm
  obtain ⟨hp, h0⟩ := h0
  have hx : (s[0].toNat : Int) = 48 + ((k / 100 : Nat) : Int) := by rw [h0]; simp; omega
  obtain ⟨x, hxx⟩ : ∃ x : Nat, s[0].toNat = x := ⟨_, rfl⟩
  have hx49 : (49 : Int) ≤ (x : Int) := by rw [← hxx, hx]; omega
  have hs3 : (s.size : Int) = 3 := by omega
  have i1 : (100 : Int) ≤ (k : Int) := by omega
  have i2 : (k : Int) < 600 := by omega
  clear hs h3 hget h0 hx hsz
  go_enter Tryz.func54, Tryz.ntmps54
  go_wp2_with fail
  refine q1.mono ?_
  rintro e w1 ⟨rfl, t, rfl⟩
  have b1 := Lib.bytesWorld_below w 5 t
  generalize Lib.bytesWorld _ _ _ = w1 at b1 ⊢
  go_wp2_with fail
  go_ret2
  exact ⟨rfl, b1⟩
theorem splitn_any (first : ByteArray) (v d r : List UInt8) (mx : Int) (w : World) (hf : first.data.toList = v ++ [32] ++ (d ++ [32] ++ r)) (hv : (32 : UInt8) ∉ v) (hd : (32 : UInt8) ∉ d) (hs : first.size ≤ 1000000)
    (hm : w.cell? ⟨0, 0, none⟩ = some (.int .i64 mx)) :
    Calls Tryz.prog 53 #[.string first, .string ⟨#[32]⟩, .int .i64 3] w fun e w' => e = .returned (.slice (some ⟨w.heap.size, 0, none⟩) 3 3) ∧ w'.cell? ⟨w.heap.size, 0, none⟩ = some (.string ⟨v.toArray⟩) ∧
      w'.cell? ⟨w.heap.size, 1, none⟩ = some (.string ⟨d.toArray⟩) ∧ w'.cell? ⟨w.heap.size, 2, none⟩ = some (.string ⟨r.toArray⟩) ∧ Below w.heap.size w w' := by
  have hsz : 2 ≤ first.size := by rw [size_of, hf]; simp; omega
  have hmin : min 3 (first.size + 1) = 3 := by omega
  have q := Tryz.strings_SplitN first ⟨#[32]⟩ 3 mx w (by omega) hm (by decide) (by omega) (by omega)
  rw [hmin] at q
  have hsp : (Lib.splitB ⟨#[32]⟩ 0 (3 - 1) first).map (·.data.toList) = [v, d, r] := by
    rw [Lib.splitB_data, hf]
    show Lib.splitK [32] 0 2 _ = _
    rw [splitK_hit hv 1, splitK_hit hd 0]
    rfl
  have hcl : Lib.cellsOf (Lib.splitB ⟨#[32]⟩ 0 (3 - 1) first) 3 = #[.string ⟨v.toArray⟩, .string ⟨d.toArray⟩, .string ⟨r.toArray⟩] ∧ (Lib.splitB ⟨#[32]⟩ 0 (3 - 1) first).length = 3 := by
    generalize Lib.splitB ⟨#[32]⟩ 0 (3 - 1) first = l at hsp
    match l, hsp with
    | [x, y, z], hsp =>
      simp only [List.map_cons, List.map_nil, List.cons.injEq, and_true] at hsp
      obtain ⟨rfl, rfl, rfl⟩ := hsp
      refine ⟨?_, rfl⟩
      simp [Lib.cellsOf]
  rw [hcl.1, hcl.2] at q
  refine q.mono ?_
  rintro e w' ⟨rfl, rfl⟩
  have hc := fun j => cell_of_row (w.alloc (.cells #[.string ⟨v.toArray⟩, .string ⟨d.toArray⟩, .string ⟨r.toArray⟩] 9)) w.heap.size j _ _ (0, 0) (heap_alloc_new w _)
  exact ⟨rfl, by rw [hc]; rfl, by rw [hc]; rfl, by rw [hc]; rfl, (Below.refl _ _).alloc (Nat.le_refl _) _⟩
theorem results_p2 {fn : Func} {p u : Tmp} (h : fn.results = #[.cell p 45, .tmp u]) (tmps : Array Value) (w : World) (g : Nat) (a b c d e : Value) (hb : Box w g [a, b, c, d]) (hp : tmps.getD p undef = .pointer (some ⟨g, 0, none⟩)) (hu : tmps.getD u undef = e) :
    (results fn tmps).run Tryz.prog w = .ok (.tuple #[.agg #[a, b, c, d], e]) w := by
  have hp' : tmps[p]?.getD undef = .pointer (some ⟨g, 0, none⟩) := by simpa using hp
  have hu' : tmps[u]?.getD undef = e := by simpa using hu
  obtain ⟨k0, k1, k2, k3⟩ := hb.four
  simp [results, h, hp', hu', go_sem, k0, k1, k2, k3]
theorem minor_of (mi : Nat) (h : mi < 2) : minorOk (verL ++ Lib.decDigits mi) = true ∧ minorN (verL ++ Lib.decDigits mi) = mi := by
  rw [Lib.decDigits_one (by omega)]
  have : ∀ mi, mi < 2 → minorOk (verL ++ [UInt8.ofNat (48 + mi)]) = true ∧ minorN (verL ++ [UInt8.ofNat (48 + mi)]) = mi := by decide
  exact this mi h
theorem dec_no32 (k : Nat) (h1 : 100 ≤ k) (h2 : k ≤ 599) : (32 : UInt8) ∉ Lib.decDigits k := by
  rw [dec_three h1 (by omega)]
  have : ∀ a, a < 10 → ¬ (32 : UInt8) = UInt8.ofNat (48 + a) := by decide
  simp only [List.mem_cons, List.not_mem_nil, or_false, not_or]
  exact ⟨this _ (by omega), this _ (by omega), this _ (by omega)⟩
theorem ver_no32 (mi : Nat) (h : mi < 2) : (32 : UInt8) ∉ verL ++ Lib.decDigits mi := by
  rw [Lib.decDigits_one (by omega)]
  have : ∀ mi, mi < 2 → (32 : UInt8) ∉ verL ++ [UInt8.ofNat (48 + mi)] := by decide
  exact this mi h
set_option maxRecDepth 100000 in
set_option maxHeartbeats 3200000 in
theorem parseresp_any (A : Option Addr) (n c B : Nat) (bs : List UInt8) (mx : Int) (w : World) (h : Rd w B 1 A n (bcells bs)) (hB : B ≤ w.heap.size) (hn : n ≤ 100000) (hm : w.cell? ⟨0, 0, none⟩ = some (.int .i64 mx))
    (mi st : Nat) (rs : List UInt8) (hmi : mi < 2) (hst : 100 ≤ st ∧ st ≤ 599) (hrs : reasonL rs = true) (hpe : parseE bs = 0) (hf : firstL bs = resFirst mi st rs) :
    Calls Tryz.prog 25 #[.slice A n c] w fun e w' => ∃ A' c', e = .returned (.tuple #[.agg #[.int .i64 mi, .int .i64 st, .string ⟨rs.toArray⟩, .slice A' (fieldsL bs).length c'], .int .i64 0]) ∧
      Rd w' w'.heap.size 2 A' (fieldsL bs).length (fcells (fieldsL bs)) ∧ Below w.heap.size w w' := by
  have hmb : 0 < w.heap.size := World.block_lt_of_cell? w _ hm
  have hp := fun (W : World) (b : Below w.heap.size w W) => parse_any A n c B bs mx W (h.below (b.mono hB)) (Nat.le_trans hB b.size) hn ((b.cell (p := ⟨0, 0, none⟩) hmb).trans hm)
  have hal : Below w.heap.size w (w.alloc (.cells #[.int .i64 0, .int .i64 0, .string ⟨#[]⟩, .slice none 0 0] 45)) := (Below.refl _ _).alloc (Nat.le_refl _) _
  have boxOf : ∀ w1 : World, Below (w.heap.size + 1) (w.alloc (.cells #[.int .i64 0, .int .i64 0, .string ⟨#[]⟩, .slice none 0 0] 45)) w1 → Box w1 w.heap.size [.int .i64 0, .int .i64 0, .string ⟨#[]⟩, .slice none 0 0] := fun w1 T =>
    (Box.new w #[.int .i64 0, .int .i64 0, .string ⟨#[]⟩, .slice none 0 0] 45).below (T.mono (by simp))
  have y1 : pFirst bs = firstL bs := by unfold pFirst; rw [if_pos hpe]
  have y2 : pFs bs = fieldsL bs := by unfold pFs; rw [if_pos hpe]
  simp only [y1, y2, hpe, hf] at hp
  have hrl : rs.length ≤ 4094 := by unfold reasonL at hrs; simp only [Bool.and_eq_true, decide_eq_true_eq] at hrs; exact hrs.1
  have hsn := fun (W : World) (b : Below w.heap.size w W) => splitn_any ⟨(resFirst mi st rs).toArray⟩ (verL ++ Lib.decDigits mi) (Lib.decDigits st) rs mx W (by rw [mk_list]; unfold resFirst; simp) (ver_no32 mi hmi) (dec_no32 st hst.1 hst.2) (by
    rw [mk_size]; unfold resFirst
    have a1 := dec2 mi (by omega)
    have a2 := dec3 hst.2
    simp only [List.length_append, verL, List.length_cons, List.length_nil]; omega) ((b.cell (p := ⟨0, 0, none⟩) hmb).trans hm)
  have q0 := fun w => goodReason_any ⟨rs.toArray⟩ w (by rw [mk_size]; omega)
  rw [mk_list, hrs] at q0
  have q1 := fun w => minor_any ⟨(verL ++ Lib.decDigits mi).toArray⟩ w
  rw [mk_list, (minor_of mi hmi).1, (minor_of mi hmi).2] at q1
  simp only [if_true] at q1
  have q2 := fun w => status_any st hst.1 hst.2 w
  obtain ⟨fs, hfs⟩ : ∃ p, p = fieldsL bs := ⟨_, rfl⟩
  rw [← hfs]
  simp only [← hfs] at hp
  obtain ⟨nf, hnf⟩ : ∃ m, fs.length = m := ⟨_, rfl⟩
  simp only [hnf] at hp ⊢
  obtain ⟨first, hff⟩ : ∃ b : ByteArray, b = ⟨(resFirst mi st rs).toArray⟩ := ⟨_, rfl⟩
  simp only [← hff] at hp hsn
  obtain ⟨b0, e0⟩ : ∃ b : ByteArray, b = ⟨(verL ++ Lib.decDigits mi).toArray⟩ := ⟨_, rfl⟩
  obtain ⟨b1, e1⟩ : ∃ b : ByteArray, b = ⟨(Lib.decDigits st).toArray⟩ := ⟨_, rfl⟩
  obtain ⟨b2, e2⟩ : ∃ b : ByteArray, b = ⟨rs.toArray⟩ := ⟨_, rfl⟩
  simp only [← e0, ← e1, ← e2] at hsn q0 q1 q2 ⊢
  clear y1 y2 hpe hf hfs hff e0 e1 e2 hnf hrs hrl
  go_enter Tryz.func25, Tryz.ntmps25
  go_wp2_with fail
  refine (hp _ hal).mono ?_
  rintro e w1 ⟨A1, c1, rfl, o1, T⟩
  replace T : Below (w.heap.size + 1) (w.alloc (.cells #[.int .i64 0, .int .i64 0, .string ⟨#[]⟩, .slice none 0 0] 45)) w1 := by simpa using T
  go_wp2_with fail
  refine (hsn w1 (hal.trans (T.mono (by omega)))).mono ?_
  rintro e w2 ⟨rfl, v0, v1, v2, k2⟩
  have t12 := T.trans (k2.mono (by have := T.size; simpa using this))
  have o2 := (Ow.of_row o1).below k2
  have g2 : w1.heap.size < w2.heap.size := World.block_lt_of_cell? w2 _ v0
  clear k2 T o1 hp hsn
  go_wp2_with fail
  refine (q0 _).mono ?_
  rintro e w3 ⟨rfl, k3⟩
  replace v0 := (k3.cell (p := ⟨w1.heap.size, 0, none⟩) g2).trans v0
  replace v1 := (k3.cell (p := ⟨w1.heap.size, 1, none⟩) g2).trans v1
  replace v2 := (k3.cell (p := ⟨w1.heap.size, 2, none⟩) g2).trans v2
  have t13 := t12.trans (k3.mono (by have := t12.size; simpa using this))
  have o3 := o2.below k3
  have g3 := Nat.lt_of_lt_of_le g2 k3.size
  clear k3 t12 o2 q0
  go_wp2_with fail
  refine (q1 _).mono ?_
  rintro e w4 ⟨rfl, rfl⟩
  go_wp2_with fail
  refine (q2 _).mono ?_
  rintro e w5 ⟨rfl, k5⟩
  replace v2 := (k5.cell (p := ⟨w1.heap.size, 2, none⟩) g3).trans v2
  have t15 := t13.trans (k5.mono (by have := t13.size; simpa using this))
  have o5 := o3.below k5
  clear k5 t13 o3 q1 q2 v0 v1
  have bx := boxOf w5 t15
  obtain ⟨k0, k1, k2, k3⟩ := bx.four
  obtain ⟨f0, f1, f2, f3⟩ := bx.free4
  have t := hal.trans (t15.mono (by omega))
  have hap : (Value.slice A1 nf c1).ownBlock ≠ some w.heap.size := ow_apart (g := w.heap.size) o5 (by simp)
  have oo := o5.far4 hap (.int .i64 mi) (.int .i64 st) (.string b2) (.slice A1 nf c1)
  go_wp2_with fail
  exact bodyPost_ret (v := .tuple #[.agg #[.int .i64 mi, .int .i64 st, .string b2, .slice A1 nf c1], .int .i64 0]) (results_p2 Tryz.results25 _ _ _ _ _ _ _ _ (bx.fill4 (.int .i64 mi) (.int .i64 st) (.string b2) (.slice A1 nf c1)) rfl rfl) rfl ⟨A1, c1, rfl, oo.rd, below_fill4 t (Nat.le_refl _) _ _ _ _⟩
end Go.Proofs.YtfifoimnebbflaaGreatDoor
