/- head.ParseRequest. -/
import Derived.Test.YtfifoimnebbflaaGreatDoorHeadParse
namespace Go.Proofs.YtfifoimnebbflaaGreatDoor
open Go.RowKit

theorem results_q2 {fn : Func} {p u : Tmp} (h : fn.results = #[.cell p 31, .tmp u]) (tmps : Array Value) (w : World) (g : Nat) (a b c d e : Value) (hb : Box w g [a, b, c, d]) (hp : tmps.getD p undef = .pointer (some ⟨g, 0, none⟩)) (hu : tmps.getD u undef = e) :
    (results fn tmps).run Tryz.prog w = .ok (.tuple #[.agg #[a, b, c, d], e]) w := by
  have hp' : tmps[p]?.getD undef = .pointer (some ⟨g, 0, none⟩) := by simpa using hp
  have hu' : tmps[u]?.getD undef = e := by simpa using hu
  obtain ⟨k0, k1, k2, k3⟩ := hb.four
  simp [results, h, hp', hu', go_sem, k0, k1, k2, k3]
theorem drew_box {w : World} {g : Nat} {cs : List Value} (h : Box w g cs) : Box w.drew g cs := ⟨h.1, fun j u hu => h.2 j u hu⟩
def rM (b : List UInt8) : List UInt8 := if reqE b = 0 then (reqWords b).getD 0 [] else []
def rT (b : List UInt8) : List UInt8 := if reqE b = 0 then (reqWords b).getD 1 [] else []
def rN (b : List UInt8) : Nat := if reqE b = 0 then minorN ((reqWords b).getD 2 []) else 0
def rFs (b : List UInt8) : List (List UInt8 × List UInt8) := if reqE b = 0 then fieldsL b else []
theorem req_none {b : List UInt8} (h : reqE b ≠ 0) : rM b = [] ∧ rT b = [] ∧ rN b = 0 ∧ rFs b = [] := by
  unfold rM rT rN rFs
  simp only [if_neg h, and_self]
set_option maxRecDepth 100000 in
set_option maxHeartbeats 3200000 in
theorem parsereq_any (A : Option Addr) (n c B : Nat) (bs : List UInt8) (mx : Int) (w : World) (h : Rd w B 1 A n (bcells bs)) (hB : B ≤ w.heap.size) (hn : n ≤ 100000) (hm : w.cell? ⟨0, 0, none⟩ = some (.int .i64 mx)) :
    Calls Tryz.prog 22 #[.slice A n c] w fun e w' => ∃ A' c', e = .returned (.tuple #[.agg #[.string ⟨(rM bs).toArray⟩, .string ⟨(rT bs).toArray⟩, .int .i64 (rN bs), .slice A' (rFs bs).length c'], .int .i64 (reqE bs)]) ∧
      Rd w' w'.heap.size 2 A' (rFs bs).length (fcells (rFs bs)) ∧ Below w.heap.size w w' := by
  have hlen : bs.length = n := by have := h.1; rw [bcells_length] at this; omega
  have hmb : 0 < w.heap.size := World.block_lt_of_cell? w _ hm
  obtain ⟨zs, hzs⟩ : ∃ z : Array Value, z = #[.string ⟨#[]⟩, .string ⟨#[]⟩, .int .i64 0, .slice none 0 0] := ⟨_, rfl⟩
  have hp := fun (W : World) (b : Below w.heap.size w W) => parse_any A n c B bs mx W (h.below (b.mono hB)) (Nat.le_trans hB b.size) hn ((b.cell (p := ⟨0, 0, none⟩) hmb).trans hm)
  have hal : Below w.heap.size w (w.alloc (.cells #[.string ⟨#[]⟩, .string ⟨#[]⟩, .int .i64 0, .slice none 0 0] 31)) := (Below.refl _ _).alloc (Nat.le_refl _) _
  have boxOf : ∀ w1 : World, Below (w.heap.size + 1) (w.alloc (.cells #[.string ⟨#[]⟩, .string ⟨#[]⟩, .int .i64 0, .slice none 0 0] 31)) w1 → Box w1 w.heap.size [.string ⟨#[]⟩, .string ⟨#[]⟩, .int .i64 0, .slice none 0 0] := fun w1 T =>
    (Box.new w #[.string ⟨#[]⟩, .string ⟨#[]⟩, .int .i64 0, .slice none 0 0] 31).below (T.mono (by simp))
  clear hzs zs
  by_cases hpe : parseE bs = 0
  · have hE : reqE bs = if reqOk (reqWords bs) then 0 else 2 := by unfold reqE; rw [if_pos hpe]
    have y1 : pFirst bs = firstL bs := by unfold pFirst; rw [if_pos hpe]
    have y2 : pFs bs = fieldsL bs := by unfold pFs; rw [if_pos hpe]
    simp only [y1, y2, hpe] at hp
    have hfl : (firstL bs).length ≤ 200000 := by
      unfold firstL linesL
      have h1 : (Lib.trimSuffix bs endL).length ≤ bs.length := Lib.trimSuffix_le _ _
      rcases hl : Lib.split (Lib.trimSuffix bs endL) crlfL with _ | ⟨x, l⟩
      · simp
      · have := splitK_mem _ _ _ x (by show x ∈ Lib.split (Lib.trimSuffix bs endL) crlfL; rw [hl]; simp)
        simp; omega
    have hsp := fun (W : World) (b : Below w.heap.size w W) => strsplit_any ⟨(firstL bs).toArray⟩ ⟨#[32]⟩ mx W (by rw [mk_size]; omega) ((b.cell (p := ⟨0, 0, none⟩) hmb).trans hm) (by decide)
    change ∀ (W : World) (b : Below w.heap.size w W), Calls _ _ _ W (fun e w' => e = .returned (.slice (some ⟨W.heap.size, 0, none⟩) (reqWords bs).length (reqWords bs).length) ∧ Rd w' (W.heap.size + 1) 1 (some ⟨W.heap.size, 0, none⟩) (reqWords bs).length (scells (reqWords bs)) ∧ Below W.heap.size W w') at hsp
    have hml : ∀ x ∈ reqWords bs, x.length ≤ 200000 := fun x hx => by
      have := splitK_mem _ _ _ x hx; omega
    have hpl : (reqWords bs).length ≤ 300000 := by
      have h1 := splitK_len (Lib.count (firstL bs) [32]) [32] (firstL bs)
      have h2 := Lib.count_le (firstL bs) [32]
      unfold reqWords Lib.split; omega
    unfold rM rT rN rFs
    obtain ⟨ps, hps⟩ : ∃ p, p = reqWords bs := ⟨_, rfl⟩
    rw [hE, ← hps]
    simp only [← hps] at hsp hml hpl
    obtain ⟨fs, hfs⟩ : ∃ p, p = fieldsL bs := ⟨_, rfl⟩
    rw [← hfs]
    simp only [← hfs] at hp
    obtain ⟨first, hf⟩ : ∃ b : ByteArray, b = ⟨(firstL bs).toArray⟩ := ⟨_, rfl⟩
    simp only [← hf] at hp hsp
    obtain ⟨nf, hnf⟩ : ∃ m, fs.length = m := ⟨_, rfl⟩
    simp only [hnf] at hp
    have HNF := hide hnf
    clear hE y1 y2 hpe hfl hlen hps hfs hf hnf
    by_cases h3 : ps.length = 3
    · obtain ⟨p0, p1, p2, rfl⟩ : ∃ p0 p1 p2, ps = [p0, p1, p2] := by
        match ps, h3 with
        | [a, b, c], _ => exact ⟨a, b, c, rfl⟩
      have hl0 := hml p0 (by simp)
      have hl1 := hml p1 (by simp)
      have hl2 := hml p2 (by simp)
      have q0 := fun w => goodName_any ⟨p0.toArray⟩ w (by rw [mk_size]; omega)
      have q1 := fun w => goodTarget_any ⟨p1.toArray⟩ w (by rw [mk_size]; omega)
      have q2 := fun w => minor_any ⟨p2.toArray⟩ w
      have hcells : ∀ (W W' : World), Rd W' (W.heap.size + 1) 1 (some ⟨W.heap.size, 0, none⟩) 3 (scells [p0, p1, p2]) → W'.cell? ⟨W.heap.size, 0, none⟩ = some (.string ⟨p0.toArray⟩) ∧ W'.cell? ⟨W.heap.size, 1, none⟩ = some (.string ⟨p1.toArray⟩) ∧ W'.cell? ⟨W.heap.size, 2, none⟩ = some (.string ⟨p2.toArray⟩) := by
        intro W W' r
        obtain ⟨a, ha, -, hc⟩ := r.at_ (k := 0) (by decide)
        cases ha
        have h0 := hc 0 _ rfl
        have h1 := hc 1 _ rfl
        have h2 := hc 2 _ rfl
        rw [Addr.add_zero'] at h0
        rw [Addr.add_lit] at h1 h2
        exact ⟨h0, h1, h2⟩
      change ∀ (W : World) (b : Below w.heap.size w W), Calls _ _ _ W (fun e w' => e = .returned (.slice (some ⟨W.heap.size, 0, none⟩) 3 3) ∧ Rd w' (W.heap.size + 1) 1 (some ⟨W.heap.size, 0, none⟩) 3 (scells [p0, p1, p2]) ∧ Below W.heap.size W w') at hsp
      obtain ⟨gn, hgn⟩ : ∃ x, x = goodNameL p0 := ⟨_, rfl⟩
      obtain ⟨gt, hgt⟩ : ∃ x, x = targetL p1 := ⟨_, rfl⟩
      obtain ⟨mo, hmo⟩ : ∃ x, x = minorOk p2 := ⟨_, rfl⟩
      obtain ⟨mn, hmn⟩ : ∃ x, x = minorN p2 := ⟨_, rfl⟩
      have hro : reqOk [p0, p1, p2] = (gn && (gt && mo)) := by rw [hgn, hgt, hmo]; rfl
      rw [hro]
      simp only [List.getD_cons_zero, List.getD_cons_succ, ← hmn]
      simp only [← hgn, ← hgt, ← hmo, ← hmn] at q0 q1 q2
      obtain ⟨b0, e0⟩ : ∃ b : ByteArray, b = ⟨p0.toArray⟩ := ⟨_, rfl⟩
      obtain ⟨b1, e1⟩ : ∃ b : ByteArray, b = ⟨p1.toArray⟩ := ⟨_, rfl⟩
      obtain ⟨b2', e2⟩ : ∃ b : ByteArray, b = ⟨p2.toArray⟩ := ⟨_, rfl⟩
      simp only [← e0, ← e1, ← e2] at q0 q1 q2 hcells
      have E0 := hide e0
      have E1 := hide e1
      clear hro hgn hgt hmo hmn e0 e1 e2 hl0 hl1 hl2 hml hpl h3
      rcases gn with _ | _
      · rw [Bool.false_and]
        change Calls _ _ _ w (fun e w' => ∃ A' c', e = .returned (.tuple #[.agg #[.string ⟨#[]⟩, .string ⟨#[]⟩, .int .i64 0, .slice A' 0 c'], .int .i64 2]) ∧ Rd w' w'.heap.size 2 A' 0 (fcells []) ∧ Below w.heap.size w w')
        go_enter Tryz.func22, Tryz.ntmps22
        go_wp2_with fail
        refine (hp _ hal).mono ?_
        rintro e w1 ⟨A1, c1, rfl, o1, T⟩
        replace T : Below (w.heap.size + 1) (w.alloc (.cells #[.string ⟨#[]⟩, .string ⟨#[]⟩, .int .i64 0, .slice none 0 0] 31)) w1 := by simpa using T
        go_wp2_with fail
        refine (hsp w1 (hal.trans (T.mono (by omega)))).mono ?_
        rintro e w2 ⟨rfl, r2, b2⟩
        have t12 := T.trans (b2.mono (by have := T.size; simpa using this))
        have b := boxOf w2 t12
        obtain ⟨k0, k1, k2, k3⟩ := b.four
        obtain ⟨f0, f1, f2, f3⟩ := b.free4
        have t := hal.trans (t12.mono (by omega))
        obtain ⟨v0, v1, v2⟩ := hcells w1 w2 r2
        clear hcells r2
        go_wp2_with fail
        refine (q0 _).mono ?_
        rintro e w3 ⟨rfl, rfl⟩
        go_wp2_with fail
        exact bodyPost_ret (v := .tuple #[.agg #[.string ⟨#[]⟩, .string ⟨#[]⟩, .int .i64 0, .slice none 0 0], .int .i64 2]) (results_q2 Tryz.results22 _ _ _ _ _ _ _ _ (b.fill4 (.string ⟨#[]⟩) (.string ⟨#[]⟩) (.int .i64 0) (.slice none 0 0)) rfl rfl) rfl ⟨none, 0, rfl, Rd.nil_, below_fill4 t (Nat.le_refl _) _ _ _ _⟩
      · rcases gt with _ | _
        · change Calls _ _ _ w (fun e w' => ∃ A' c', e = .returned (.tuple #[.agg #[.string ⟨#[]⟩, .string ⟨#[]⟩, .int .i64 0, .slice A' 0 c'], .int .i64 2]) ∧ Rd w' w'.heap.size 2 A' 0 (fcells []) ∧ Below w.heap.size w w')
          go_enter Tryz.func22, Tryz.ntmps22
          go_wp2_with fail
          refine (hp _ hal).mono ?_
          rintro e w1 ⟨A1, c1, rfl, o1, T⟩
          replace T : Below (w.heap.size + 1) (w.alloc (.cells #[.string ⟨#[]⟩, .string ⟨#[]⟩, .int .i64 0, .slice none 0 0] 31)) w1 := by simpa using T
          go_wp2_with fail
          refine (hsp w1 (hal.trans (T.mono (by omega)))).mono ?_
          rintro e w2 ⟨rfl, r2, b2⟩
          have t12 := T.trans (b2.mono (by have := T.size; simpa using this))
          have b := boxOf w2 t12
          obtain ⟨k0, k1, k2, k3⟩ := b.four
          obtain ⟨f0, f1, f2, f3⟩ := b.free4
          have t := hal.trans (t12.mono (by omega))
          obtain ⟨v0, v1, v2⟩ := hcells w1 w2 r2
          clear hcells r2
          go_wp2_with fail
          refine (q0 _).mono ?_
          rintro e w3 ⟨rfl, rfl⟩
          go_wp2_with fail
          refine (q1 _).mono ?_
          rintro e w3 ⟨rfl, rfl⟩
          go_wp2_with fail
          exact bodyPost_ret (v := .tuple #[.agg #[.string ⟨#[]⟩, .string ⟨#[]⟩, .int .i64 0, .slice none 0 0], .int .i64 2]) (results_q2 Tryz.results22 _ _ _ _ _ _ _ _ (b.fill4 (.string ⟨#[]⟩) (.string ⟨#[]⟩) (.int .i64 0) (.slice none 0 0)) rfl rfl) rfl ⟨none, 0, rfl, Rd.nil_, below_fill4 t (Nat.le_refl _) _ _ _ _⟩
        · rcases mo with _ | _
          · change ∀ w, Calls _ _ _ w (fun e w' => e = .returned (.tuple #[.int .i64 0, .bool false]) ∧ w = w') at q2
            change Calls _ _ _ w (fun e w' => ∃ A' c', e = .returned (.tuple #[.agg #[.string ⟨#[]⟩, .string ⟨#[]⟩, .int .i64 0, .slice A' 0 c'], .int .i64 2]) ∧ Rd w' w'.heap.size 2 A' 0 (fcells []) ∧ Below w.heap.size w w')
            go_enter Tryz.func22, Tryz.ntmps22
            go_wp2_with fail
            refine (hp _ hal).mono ?_
            rintro e w1 ⟨A1, c1, rfl, o1, T⟩
            replace T : Below (w.heap.size + 1) (w.alloc (.cells #[.string ⟨#[]⟩, .string ⟨#[]⟩, .int .i64 0, .slice none 0 0] 31)) w1 := by simpa using T
            go_wp2_with fail
            refine (hsp w1 (hal.trans (T.mono (by omega)))).mono ?_
            rintro e w2 ⟨rfl, r2, b2⟩
            have t12 := T.trans (b2.mono (by have := T.size; simpa using this))
            have b := boxOf w2 t12
            obtain ⟨k0, k1, k2, k3⟩ := b.four
            obtain ⟨f0, f1, f2, f3⟩ := b.free4
            have t := hal.trans (t12.mono (by omega))
            obtain ⟨v0, v1, v2⟩ := hcells w1 w2 r2
            clear hcells r2
            go_wp2_with fail
            refine (q0 _).mono ?_
            rintro e w3 ⟨rfl, rfl⟩
            go_wp2_with fail
            refine (q1 _).mono ?_
            rintro e w3 ⟨rfl, rfl⟩
            go_wp2_with fail
            refine (q2 _).mono ?_
            rintro e w3 ⟨rfl, rfl⟩
            go_wp2_with fail
            exact bodyPost_ret (v := .tuple #[.agg #[.string ⟨#[]⟩, .string ⟨#[]⟩, .int .i64 0, .slice none 0 0], .int .i64 2]) (results_q2 Tryz.results22 _ _ _ _ _ _ _ _ (b.fill4 (.string ⟨#[]⟩) (.string ⟨#[]⟩) (.int .i64 0) (.slice none 0 0)) rfl rfl) rfl ⟨none, 0, rfl, Rd.nil_, below_fill4 t (Nat.le_refl _) _ _ _ _⟩
          · change ∀ w, Calls _ _ _ w (fun e w' => e = .returned (.tuple #[.int .i64 mn, .bool true]) ∧ w = w') at q2
            change Calls _ _ _ w (fun e w' => ∃ A' c', e = .returned (.tuple #[.agg #[.string ⟨p0.toArray⟩, .string ⟨p1.toArray⟩, .int .i64 mn, .slice A' fs.length c'], .int .i64 0]) ∧ Rd w' w'.heap.size 2 A' fs.length (fcells fs) ∧ Below w.heap.size w w')
            rw [HNF.out, ← E0.out, ← E1.out]
            go_enter Tryz.func22, Tryz.ntmps22
            go_wp2_with fail
            refine (hp _ hal).mono ?_
            rintro e w1 ⟨A1, c1, rfl, o1, T⟩
            replace T : Below (w.heap.size + 1) (w.alloc (.cells #[.string ⟨#[]⟩, .string ⟨#[]⟩, .int .i64 0, .slice none 0 0] 31)) w1 := by simpa using T
            go_wp2_with fail
            refine (hsp w1 (hal.trans (T.mono (by omega)))).mono ?_
            rintro e w2 ⟨rfl, r2, b2⟩
            have t12 := T.trans (b2.mono (by have := T.size; simpa using this))
            have b := boxOf w2 t12
            obtain ⟨k0, k1, k2, k3⟩ := b.four
            obtain ⟨f0, f1, f2, f3⟩ := b.free4
            have t := hal.trans (t12.mono (by omega))
            obtain ⟨v0, v1, v2⟩ := hcells w1 w2 r2
            clear hcells r2
            have hap : (Value.slice A1 nf c1).ownBlock ≠ some w.heap.size := ow_apart (g := w.heap.size) ((Ow.of_row o1).below b2) (by simp)
            have oo := ((Ow.of_row o1).below b2).far4 hap (.string b0) (.string b1) (.int .i64 mn) (.slice A1 nf c1)
            go_wp2_with fail
            refine (q0 _).mono ?_
            rintro e w3 ⟨rfl, rfl⟩
            go_wp2_with fail
            refine (q1 _).mono ?_
            rintro e w3 ⟨rfl, rfl⟩
            go_wp2_with fail
            refine (q2 _).mono ?_
            rintro e w3 ⟨rfl, rfl⟩
            go_wp2_with fail
            go_region
            go_wp2_with fail
            have hw : ((((w2.setCell ⟨w.heap.size, 0, none⟩ (.string b0)).setCell ⟨w.heap.size, 1, none⟩ (.string b1)).setCell ⟨w.heap.size, 2, none⟩ (.int .i64 mn)).setCell ⟨w.heap.size, 3, none⟩ (.slice A1 nf c1)).drew = (fill4 w2 w.heap.size (.string b0) (.string b1) (.int .i64 mn) (.slice A1 nf c1)).drew := rfl
            rw [hw]
            have bx := drew_box (b.fill4 (.string b0) (.string b1) (.int .i64 mn) (.slice A1 nf c1))
            have tt : Below w.heap.size w (fill4 w2 w.heap.size (.string b0) (.string b1) (.int .i64 mn) (.slice A1 nf c1)).drew := below_drewN (k := 1) (below_fill4 t (Nat.le_refl _) _ _ _ _)
            have rr := Ow.rd (oo.drewN 1)
            exact bodyPost_ret (v := .tuple #[.agg #[.string b0, .string b1, .int .i64 mn, .slice A1 nf c1], .int .i64 0]) (results_q2 Tryz.results22 _ _ _ _ _ _ _ _ bx rfl rfl) rfl ⟨A1, c1, rfl, rr, tt⟩
    · have hno : reqOk ps = false := by unfold reqOk; rw [decide_eq_false h3]; rfl
      rw [hno]
      change Calls _ _ _ w (fun e w' => ∃ A' c', e = .returned (.tuple #[.agg #[.string ⟨#[]⟩, .string ⟨#[]⟩, .int .i64 0, .slice A' 0 c'], .int .i64 2]) ∧ Rd w' w'.heap.size 2 A' 0 (fcells []) ∧ Below w.heap.size w w')
      obtain ⟨np, hnp⟩ : ∃ m, ps.length = m := ⟨_, rfl⟩
      simp only [hnp] at hsp h3 hpl
      have hz : ((np : Int) != 3) = true := by simp; omega
      clear hno hnp hml
      go_enter Tryz.func22, Tryz.ntmps22
      go_wp2_with fail
      refine (hp _ hal).mono ?_
      rintro e w1 ⟨A1, c1, rfl, o1, T⟩
      replace T : Below (w.heap.size + 1) (w.alloc (.cells #[.string ⟨#[]⟩, .string ⟨#[]⟩, .int .i64 0, .slice none 0 0] 31)) w1 := by simpa using T
      go_wp2_with fail
      refine (hsp w1 (hal.trans (T.mono (by omega)))).mono ?_
      rintro e w2 ⟨rfl, r2, b2⟩
      have t12 := T.trans (b2.mono (by have := T.size; simpa using this))
      have b := boxOf w2 t12
      obtain ⟨k0, k1, k2, k3⟩ := b.four
      obtain ⟨f0, f1, f2, f3⟩ := b.free4
      have t := hal.trans (t12.mono (by omega))
      go_wp2_with fail
      exact bodyPost_ret (v := .tuple #[.agg #[.string ⟨#[]⟩, .string ⟨#[]⟩, .int .i64 0, .slice none 0 0], .int .i64 2]) (results_q2 Tryz.results22 _ _ _ _ _ _ _ _ (b.fill4 (.string ⟨#[]⟩) (.string ⟨#[]⟩) (.int .i64 0) (.slice none 0 0)) rfl rfl) rfl ⟨none, 0, rfl, Rd.nil_, below_fill4 t (Nat.le_refl _) _ _ _ _⟩
  · have hE : reqE bs = parseE bs := by unfold reqE; rw [if_neg hpe]
    obtain ⟨z1, z2, z3, z4⟩ := req_none (b := bs) (by rw [hE]; exact hpe)
    rw [z1, z2, z3, z4, hE]
    have y1 : pFirst bs = [] := by unfold pFirst; rw [if_neg hpe]
    have y2 : pFs bs = [] := by unfold pFs; rw [if_neg hpe]
    simp only [y1, y2] at hp
    obtain ⟨r, hr⟩ : ∃ r, r = parseE bs := ⟨_, rfl⟩
    simp only [← hr] at hp hpe ⊢
    have hz : ((r : Int) != 0) = true := by simp; omega
    clear hE hr y1 y2 z1 z2 z3 z4 hpe
    go_enter Tryz.func22, Tryz.ntmps22
    go_wp2_with fail
    refine (hp _ hal).mono ?_
    rintro e w1 ⟨A1, c1, rfl, o1, T⟩
    replace T : Below (w.heap.size + 1) (w.alloc (.cells #[.string ⟨#[]⟩, .string ⟨#[]⟩, .int .i64 0, .slice none 0 0] 31)) w1 := by simpa using T
    have b := boxOf w1 T
    obtain ⟨k0, k1, k2, k3⟩ := b.four
    obtain ⟨f0, f1, f2, f3⟩ := b.free4
    have t := hal.trans (T.mono (by omega))
    clear T o1
    go_wp2_with fail
    exact bodyPost_ret (v := .tuple #[.agg #[.string ⟨#[]⟩, .string ⟨#[]⟩, .int .i64 0, .slice none 0 0], .int .i64 r]) (results_q2 Tryz.results22 _ _ _ _ _ _ _ _ (b.fill4 (.string ⟨#[]⟩) (.string ⟨#[]⟩) (.int .i64 0) (.slice none 0 0)) rfl rfl) rfl ⟨none, 0, rfl, Rd.nil_, below_fill4 t (Nat.le_refl _) _ _ _ _⟩
end Go.Proofs.YtfifoimnebbflaaGreatDoor
