/- edit.Response. -/
import Derived.Test.YtgdjlmpfjmakkaaDoorTurned
import Derived.Test.YtgdjlmpfjmakkaaDoorBox
import Derived.Deep.CutBlock
namespace Go.Proofs.YtgdjlmpfjmakkaaDoor
open Go.RowKit
open FrameSmugglesP (allocs allocs_size allocs_below allocs_cell allocs_rd)

theorem without_le {fs : List (List UInt8 × List UInt8)} (h : ∀ f ∈ fs, f.1.length ≤ 500000 ∧ f.2.length ≤ 500000) : ∀ f ∈ withoutL fs, f.1.length ≤ 500000 ∧ f.2.length ≤ 500000 := fun f hf => by
  unfold withoutL at hf
  rw [dropsL_filter] at hf
  exact h f (List.mem_filter.1 hf).1
theorem Box.put3 {w : World} {g : Nat} {a b c d x : Value} (h : Box w g [a, b, c, d]) : Box (w.setCell ⟨g, 3, none⟩ x) g [a, b, c, x] := h.set (k := 3) (x := x) (by simp)
theorem Box.put0 {w : World} {g : Nat} {a b c d x : Value} (h : Box w g [a, b, c, d]) : Box (w.setCell ⟨g, 0, none⟩ x) g [x, b, c, d] := h.set (k := 0) (x := x) (by simp)
theorem Box.put01 {w : World} {g : Nat} {a b x y : Value} (h : Box w g [a, b]) : Box ((w.setCell ⟨g, 0, none⟩ x).setCell ⟨g, 1, none⟩ y) g [x, y] := (h.set (k := 0) (x := x) (by simp)).set (k := 1) (x := y) (by simp)
theorem box_drew {w : World} {g : Nat} {cs : List Value} (h : Box w g cs) : Box w.drew g cs := ⟨h.1, fun j u hu => h.2 j u hu⟩
theorem ow_drew {w : World} {base size n : Nat} {v : Value} {xs : List Value} (h : Ow w base size v n xs) : Ow w.drew base size v n xs := h.drewN 1
theorem turn2_le (fs : List (List UInt8 × List UInt8)) (kd : Nat) : (turnedL fs kd).length ≤ fs.length + 3 := by
  have h1 : (turn1 fs).length ≤ fs.length := by rw [turn1_drops]; exact dropsL_len _ _
  have h2 := turn2_len (turn1 fs)
  have h3 := turn3_len (turn2 (turn1 fs)) kd
  unfold turnedL turn4
  split <;> simp <;> omega

set_option maxRecDepth 100000 in
set_option maxHeartbeats 6400000 in
theorem editresp_any (minor0 status : Int) (s_ : ByteArray) (A : Option Addr) (n c B : Nat) (fs : List (List UInt8 × List UInt8)) (pass : Bool) (fr kd kind len minor : Int) (keep : Bool) (w : World) (h : Rd w B 2 A n (fcells fs)) (hB : B ≤ w.heap.size) (hn : n ≤ 900) (hok5 : ∀ f ∈ fs, f.1.length ≤ 500000 ∧ f.2.length ≤ 500000) (hkd : pass = true ∨ (0 ≤ kd ∧ kd ≤ 2)) :
    Calls Tryd.prog 23 #[.agg #[.int .i64 minor0, .int .i64 status, .string s_, .slice A n c], .agg #[.bool pass, .int .i64 fr, .int .i64 kd], .agg #[.int .i64 kind, .int .i64 len], .int .i64 minor, .bool keep] w fun e w' => ∃ A' n' c', e = .returned (.tuple #[.agg #[.int .i64 1, .int .i64 status, .string s_, .slice A' n' c'], .agg #[.int .i64 (respK pass kind minor), .int .i64 (respN pass kind len)]]) ∧
      Ow w' w.heap.size 2 (.slice A' n' c') n' (fcells (respF fs pass kd.toNat kind minor keep)) ∧ n' ≤ c' ∧ Below w.heap.size w w' := by
  have hok := turn_ok1 hok5
  obtain ⟨objs, hobjs⟩ : ∃ l : List Obj, l = [.cells #[.int .i64 minor0, .int .i64 status, .string s_, .slice A n c] 41, .cells #[.bool pass, .int .i64 fr, .int .i64 kd] 43, .cells #[.int .i64 kind, .int .i64 len] 26, .cells #[.int .i64 0, .int .i64 0, .string ⟨#[]⟩, .slice none 0 0] 41, .cells #[.int .i64 0, .int .i64 0] 26] := ⟨_, rfl⟩
  have hW : ((((w.alloc (.cells #[.int .i64 minor0, .int .i64 status, .string s_, .slice A n c] 41)).alloc (.cells #[.bool pass, .int .i64 fr, .int .i64 kd] 43)).alloc (.cells #[.int .i64 kind, .int .i64 len] 26)).alloc (.cells #[.int .i64 0, .int .i64 0, .string ⟨#[]⟩, .slice none 0 0] 41)).alloc (.cells #[.int .i64 0, .int .i64 0] 26) = allocs w objs := by rw [hobjs]; rfl
  have tW := allocs_below objs w
  have b1 : Box (allocs w objs) w.heap.size [.int .i64 minor0, .int .i64 status, .string s_, .slice A n c] := box_allocs objs w 0 _ _ (by rw [hobjs]; rfl)
  have b2 : Box (allocs w objs) (w.heap.size + 1) [.bool pass, .int .i64 fr, .int .i64 kd] := box_allocs objs w 1 _ _ (by rw [hobjs]; rfl)
  have b3 : Box (allocs w objs) (w.heap.size + 1 + 1) [.int .i64 kind, .int .i64 len] := box_allocs objs w 2 _ _ (by rw [hobjs]; rfl)
  have b4 : Box (allocs w objs) (w.heap.size + 1 + 1 + 1) [.int .i64 0, .int .i64 0, .string ⟨#[]⟩, .slice none 0 0] := box_allocs objs w 3 _ _ (by rw [hobjs]; rfl)
  have b5 : Box (allocs w objs) (w.heap.size + 1 + 1 + 1 + 1) [.int .i64 0, .int .i64 0] := box_allocs objs w 4 _ _ (by rw [hobjs]; rfl)
  have hfl := dropsL_len (hopL ++ namesL fs) fs
  rw [h.flen] at hfl
  change (withoutL fs).length ≤ n at hfl
  have hwle := without_le hok5
  clear hobjs
  go_enter Tryd.func23, Tryd.ntmps23
  go_upto_region 1 with (fail)
  have rl := h.below (tW.mono hB)
  generalize allocs w objs = w0 at b1 b2 b3 b4 b5 tW rl ⊢
  obtain ⟨g, hg⟩ : ∃ g, g = w.heap.size := ⟨_, rfl⟩
  rw [← hg] at b1 b2 b3 b4 b5 tW hB
  rw [← hg]
  have HG := hide hg
  clear hg hW h
  obtain ⟨c0, c1, c2, c3⟩ := b1.four
  obtain ⟨f0, f1, f2, f3⟩ := b1.free4
  go_upto_region 2 with (fail)
  have b1' := b1.put0 (x := .int .i64 1)
  have b2' := b2.far (g' := g) (k := 0) (x := .int .i64 1) (by omega)
  have b3' := b3.far (g' := g) (k := 0) (x := .int .i64 1) (by omega)
  have b4' := b4.far (g' := g) (k := 0) (x := .int .i64 1) (by omega)
  have b5' := b5.far (g' := g) (k := 0) (x := .int .i64 1) (by omega)
  have t1 : Below g w (w0.setCell ⟨g, 0, none⟩ (.int .i64 1)) := tW.setCell (Nat.le_refl _) _
  have rl1 := rl.far (g := g) (k := 0) (x := .int .i64 1) hB
  clear b1 b2 b3 b4 b5 tW rl c0 c1 c2 c3 f0 f1 f2 f3
  generalize w0.setCell _ _ = w1 at b1' b2' b3' b4' b5' t1 rl1 ⊢
  obtain ⟨c0, c1, c2, c3⟩ := b1'.four
  have hg1 := b5'.1
  have hg11 := b1'.1
  go_wp2_with fail
  refine (without_any A n c B fs w1 rl1 (by omega) (by omega) hok).mono ?_
  rintro e w2 ⟨A2, c2', rfl, o2, hc2, b⟩
  have b1 := b1'.below b
  have b2 := b2'.below b
  have b3 := b3'.below b
  have b4 := b4'.below b
  have b5 := b5'.below b
  have t2 := t1.trans (b.mono (Nat.le_of_lt hg11))
  have hbz2 := b.size
  clear b1' b2' b3' b4' b5' t1 rl1 c0 c1 c2 c3 b
  obtain ⟨gw, hgw⟩ : ∃ g, g = withoutL fs := ⟨_, rfl⟩
  have hrf : respF fs pass kd.toNat kind minor keep = (if pass then gw else turnedL gw kd.toNat) ++ (if ¬ (kind = 0 ∨ pass = true ∧ kind = 1) ∧ minor = 1 then [chunkF] else []) ++ (if keep = false ∨ respK pass kind minor = 3 then [closeF] else []) := by rw [hgw]; rfl
  rw [← hgw] at o2 hc2 hfl hwle
  rw [← hgw]
  have HRF := hide hrf
  clear hgw hrf hok hok5
  obtain ⟨L, hL⟩ : ∃ L, gw.length = L := ⟨_, rfl⟩
  rw [hL] at o2 hc2 hfl
  rw [hL]
  have HL := hide hL
  clear hL
  -- a list that is newer than the boxes
  obtain ⟨gb, hgb⟩ : ∃ gb, gb = w1.heap.size := ⟨_, rfl⟩
  rw [← hgb] at o2 hg1 hg11 hbz2
  clear hgb
  obtain ⟨p0, p1, p2⟩ := b2.three
  go_upto_if 19 with (fail)
  obtain ⟨gt, hgt⟩ : ∃ l, l = (if pass then gw else turnedL gw kd.toNat) := ⟨_, rfl⟩
  have hgtl : gt.length ≤ L + 3 := by
    rw [hgt]; split
    · have := HL.out; omega
    · have := turn2_le gw kd.toNat; have := HL.out; omega
  have HGT := hide hgt
  clear hgt
  go_cut [12] from 20 to 23 (fun s wx => Lst gb s wx gt ∧ Below w2.heap.size w2 wx)
  case first =>
    rcases pass with _ | _
    · obtain ⟨hk0, hk2⟩ : 0 ≤ kd ∧ kd ≤ 2 := by simpa using hkd
      obtain ⟨kn, rfl⟩ : ∃ k : Nat, kd = k := ⟨kd.toNat, by omega⟩
      have hgt := HGT.out
      rw [if_neg (by simp), Int.toNat_natCast] at hgt
      have HG2 := hide hgt
      clear hgt
      go_wp2_with fail
      refine (turned_any A2 L c2' _ gw kn (by omega) w2 o2.rd (Nat.le_refl _) (by omega) hwle).mono ?_
      rintro e w3 ⟨⟨v, rfl, A3, n3, c3, rfl, o3, hc3⟩, k3⟩
      go_wp2_with fail
      go_meet
      exact ⟨⟨A3, n3, c3, rfl, by rw [HG2.out]; exact o3.base_ hbz2, hc3⟩, k3⟩
    · have hgt := HGT.out
      rw [if_pos rfl] at hgt
      have HG2 := hide hgt
      clear hgt
      go_wp2_with fail
      go_meet
      exact ⟨⟨A2, L, c2', rfl, by rw [HG2.out]; exact o2, hc2⟩, Below.refl _ _⟩
  case rest =>
    obtain ⟨⟨A3, n3, c3, rfl, o3, hc3⟩, t3⟩ := hcut
    have hl3 := ow_flen o3
    rw [hl3] at hgtl
    clear hl3 o2 p0 p1 p2
    have hgbz := Nat.le_trans hbz2 t3.size
    replace b1 := b1.below t3
    replace b2 := b2.below t3
    replace b3 := b3.below t3
    replace b4 := b4.below t3
    replace b5 := b5.below t3
    replace t3 := t2.trans (t3.mono (Nat.le_trans (Nat.le_of_lt hg11) hbz2))
    obtain ⟨p0, p1, p2⟩ := b2.three
    obtain ⟨k0, k1⟩ := b3.two
    go_upto_block 0 with fail
    obtain ⟨K', hK'⟩ : ∃ k, k = respK pass kind minor := ⟨_, rfl⟩
    obtain ⟨N', hN'⟩ : ∃ k, k = respN pass kind len := ⟨_, rfl⟩
    rw [← hK'] at HRF
    have HKE := hide hK'
    have HNE := hide hN'
    have hKK := hK'
    have hNN := hN'
    unfold respK at hKK
    unfold respN at hNN
    have HKK := hide hKK
    have HNN := hide hNN
    clear hK' hN' hKK hNN
    obtain ⟨X, hX⟩ : ∃ l, l = (if ¬ (kind = 0 ∨ pass = true ∧ kind = 1) ∧ minor = 1 then [chunkF] else []) := ⟨_, rfl⟩
    rw [← hX, ← HGT.out] at HRF
    have HX := hide hX
    have hxl : X.length ≤ 1 := by rw [HX.out]; split <;> simp
    clear hX HGT HL
    obtain ⟨f0, f1⟩ := b3.free2
    have hgg : g ≤ g + 1 + 1 := by omega
    have hap2 : (Value.slice A3 n3 c3).ownBlock ≠ some (g + 1 + 1) := ow_apart o3 (by omega)
    go_cut [12] from 24 to 43 (fun s wx => Lst gb s wx (gt ++ X) ∧ Box wx (g + 1 + 1) [.int .i64 K', .int .i64 N'] ∧ Box wx g [.int .i64 1, .int .i64 status, .string s_, .slice A n c] ∧ Box wx (g + 1 + 1 + 1) [.int .i64 0, .int .i64 0, .string ⟨#[]⟩, .slice none 0 0] ∧ Box wx (g + 1 + 1 + 1 + 1) [.int .i64 0, .int .i64 0] ∧ Below g w wx ∧ gb ≤ wx.heap.size)
    case first =>
      go_upto_region 6 with (fail)
      go_cut [25] from 26 to 37 (fun s wx => s = .bool (decide (kind = 0 ∨ pass = true ∧ kind = 1)) ∧ wx = wc)
      case first =>
        by_cases h0 : kind = 0
        · have e0 : (kind == 0) = true := by simpa using h0
          have HD := hide (show decide (kind = 0 ∨ pass = true ∧ kind = 1) = true by simp [h0])
          clear h0
          go_wp2_with fail
          go_meet
          exact ⟨by rw [HD.out], rfl⟩
        · have e0 : (kind == 0) = false := by simpa using h0
          rcases pass with _ | _
          · have HD := hide (show decide (kind = 0 ∨ false = true ∧ kind = 1) = false by simp [h0])
            clear h0
            go_wp2_with fail
            go_meet
            exact ⟨by rw [HD.out], rfl⟩
          · by_cases h1 : kind = 1
            · have e1 : (kind == 1) = true := by simpa using h1
              have HD := hide (show decide (kind = 0 ∨ true = true ∧ kind = 1) = true by simp [h1])
              clear h0 h1
              go_wp2_with fail
              go_meet
              exact ⟨by rw [HD.out], rfl⟩
            · have e1 : (kind == 1) = false := by simpa using h1
              have HD := hide (show decide (kind = 0 ∨ true = true ∧ kind = 1) = false by simp [h0, h1])
              clear h0 h1
              go_wp2_with fail
              go_meet
              exact ⟨by rw [HD.out], rfl⟩
      case rest =>
        obtain ⟨rfl, rfl⟩ := hcut
        clear p0 p1 p2 b2
        obtain ⟨c1, hc1⟩ : ∃ b, b = decide (kind = 0 ∨ pass = true ∧ kind = 1) := ⟨_, rfl⟩
        rw [← hc1]
        have HC1 := hide hc1
        clear hc1
        rcases c1 with _ | _
        · have hc : ¬ (kind = 0 ∨ pass = true ∧ kind = 1) := of_decide_eq_false HC1.out.symm
          have hk := HKK.out
          have hn' := HNN.out
          rw [if_neg hc] at hk hn'
          by_cases hm : minor = 1
          · have hx := HX.out
            rw [if_pos ⟨hc, hm⟩] at hx
            rw [if_pos hm] at hk
            have hme : (minor == 1) = true := by simpa using hm
            subst hk hn' hx
            clear hc hm HKK HNN HX HC1 HKE HNE HRF
            go_upto_region 9 with (fail)
            have b1' := b1.far2 (g' := g + 1 + 1) (by omega) (.int .i64 2) (.int .i64 0)
            have b3' := b3.fill2 (.int .i64 2) (.int .i64 0)
            have b4' := b4.far2 (g' := g + 1 + 1) (by omega) (.int .i64 2) (.int .i64 0)
            have b5' := b5.far2 (g' := g + 1 + 1) (by omega) (.int .i64 2) (.int .i64 0)
            have o3' := o3.far2 hap2 (.int .i64 2) (.int .i64 0)
            have t3' := below_fill2 t3 hgg (.int .i64 2) (.int .i64 0)
            change Box ((wc.setCell ⟨g + 1 + 1, 0, none⟩ (.int .i64 2)).setCell ⟨g + 1 + 1, 1, none⟩ (.int .i64 0)) _ _ at b1' b3' b4' b5'
            change Ow ((wc.setCell ⟨g + 1 + 1, 0, none⟩ (.int .i64 2)).setCell ⟨g + 1 + 1, 1, none⟩ (.int .i64 0)) _ _ _ _ _ at o3'
            change Below g w ((wc.setCell ⟨g + 1 + 1, 0, none⟩ (.int .i64 2)).setCell ⟨g + 1 + 1, 1, none⟩ (.int .i64 0)) at t3'
            clear b1 b3 b4 b5 o3 t3 f0 f1 k0 k1
            have hgz : gb ≤ ((wc.setCell ⟨g + 1 + 1, 0, none⟩ (.int .i64 2)).setCell ⟨g + 1 + 1, 1, none⟩ (.int .i64 0)).heap.size := by simpa [World.setCell] using hgbz
            generalize (wc.setCell ⟨g + 1 + 1, 0, none⟩ (.int .i64 2)).setCell ⟨g + 1 + 1, 1, none⟩ (.int .i64 0) = w4 at b1' b3' b4' b5' o3' t3' hgz ⊢
            go_wp2_with fail
            refine (with_any A3 n3 c3 _ gt ⟨#[84, 114, 97, 110, 115, 102, 101, 114, 45, 69, 110, 99, 111, 100, 105, 110, 103]⟩ ⟨#[99, 104, 117, 110, 107, 101, 100]⟩ w4 o3'.rd (Nat.le_refl _) (by omega)).mono ?_
            rintro e w5 ⟨A5, c5, rfl, o5, hc5, k5⟩
            go_wp2_with fail
            go_meet
            exact ⟨⟨A5, n3 + 1, c5, rfl, o5.base_ hgz, hc5⟩, b3'.below k5, b1'.below k5, b4'.below k5, b5'.below k5, t3'.trans (k5.mono (by have := b1'.1; omega)), Nat.le_trans hgz k5.size⟩
          · have hx := HX.out
            rw [if_neg (fun h => hm h.2)] at hx
            rw [if_neg hm] at hk
            have hme : (minor == 1) = false := by simpa using hm
            subst hk hn' hx
            clear hc hm HKK HNN HX HC1 HKE HNE HRF
            go_wp2_with fail
            go_meet
            exact ⟨⟨A3, n3, c3, rfl, by rw [List.append_nil]; exact o3.far2 hap2 _ _, hc3⟩, b3.fill2 _ _, b1.far2 (g' := g + 1 + 1) (by omega) _ _, b4.far2 (g' := g + 1 + 1) (by omega) _ _, b5.far2 (g' := g + 1 + 1) (by omega) _ _, below_fill2 t3 hgg _ _, by simpa [World.setCell] using hgbz⟩
        · have hc : kind = 0 ∨ pass = true ∧ kind = 1 := of_decide_eq_true HC1.out.symm
          have hk := HKK.out
          have hn' := HNN.out
          have hx := HX.out
          rw [if_pos hc] at hk hn'
          rw [if_neg (fun h => h.1 hc)] at hx
          subst hk hn' hx
          clear hc HKK HNN HX HC1 HKE HNE HRF
          go_wp2_with fail
          go_meet
          exact ⟨⟨A3, n3, c3, rfl, by rw [List.append_nil]; exact o3, hc3⟩, b3, b1, b4, b5, t3, hgbz⟩
    case rest =>
      obtain ⟨⟨A4, n4, c4, rfl, o4, hc4⟩, b3', b1', b4', b5', t4, hgz4⟩ := hcut
      have hl4 := ow_flen o4
      rw [List.length_append, ow_flen o3] at hl4
      clear b1 b2 b3 b4 b5 t3 o3 hgbz k0 k1 f0 f1 p0 p1 p2 hap2 HX HKK HNN
      obtain ⟨Y, hY⟩ : ∃ l, l = (if keep = false ∨ K' = 3 then [closeF] else []) := ⟨_, rfl⟩
      rw [← hY] at HRF
      obtain ⟨Z, hZ⟩ : ∃ l, l = gt ++ X := ⟨_, rfl⟩
      rw [← hZ] at o4 HRF
      have HY := hide hY
      obtain ⟨k0, k1⟩ := b3'.two
      clear hY hZ
      go_upto_region 10 with (fail)
      go_cut [50] from 44 to 49 (fun s wx => s = .bool (decide (keep = false ∨ K' = 3)) ∧ wx = wc)
      case first =>
        rcases keep with _ | _
        · have HD := hide (show decide (false = false ∨ K' = 3) = true by simp)
          go_wp2_with fail
          go_meet
          exact ⟨by rw [HD.out], rfl⟩
        · by_cases h3 : K' = 3
          · have e3 : (K' == 3) = true := by simpa using h3
            have HD := hide (show decide (true = false ∨ K' = 3) = true by simp [h3])
            clear h3
            go_wp2_with fail
            go_meet
            exact ⟨by rw [HD.out], rfl⟩
          · have e3 : (K' == 3) = false := by simpa using h3
            have HD := hide (show decide (true = false ∨ K' = 3) = false by simp [h3])
            clear h3
            go_wp2_with fail
            go_meet
            exact ⟨by rw [HD.out], rfl⟩
      case rest =>
        obtain ⟨rfl, rfl⟩ := hcut
        obtain ⟨c1, hc1⟩ : ∃ b, b = decide (keep = false ∨ K' = 3) := ⟨_, rfl⟩
        rw [← hc1]
        have HC1 := hide hc1
        clear hc1 k0 k1
        go_upto_if 50 with (fail)
        go_cut [12] from 51 to 52 (fun s wx => Lst gb s wx (Z ++ Y) ∧ Below wc.heap.size wc wx)
        case first =>
          rcases c1 with _ | _
          · have hy := HY.out
            rw [if_neg (of_decide_eq_false HC1.out.symm)] at hy
            subst hy
            clear HY HC1 HRF
            go_wp2_with fail
            go_meet
            exact ⟨⟨A4, n4, c4, rfl, by rw [List.append_nil]; exact o4, hc4⟩, Below.refl _ _⟩
          · have hy := HY.out
            rw [if_pos (of_decide_eq_true HC1.out.symm)] at hy
            subst hy
            clear HY HC1 HRF
            go_wp2_with fail
            refine (with_any A4 n4 c4 _ Z ⟨#[67, 111, 110, 110, 101, 99, 116, 105, 111, 110]⟩ ⟨#[99, 108, 111, 115, 101]⟩ wc o4.rd (Nat.le_refl _) (by omega)).mono ?_
            rintro e w5 ⟨A5, c5, rfl, o5, hc5, k5⟩
            go_wp2_with fail
            go_meet
            exact ⟨⟨A5, n4 + 1, c5, rfl, o5.base_ hgz4, hc5⟩, k5⟩
        case rest =>
          obtain ⟨⟨A5, n5, c5, rfl, o5, hc5⟩, t5⟩ := hcut
          replace b1' := b1'.below t5
          replace b3' := b3'.below t5
          replace b4' := b4'.below t5
          replace b5' := b5'.below t5
          replace t5 := t4.trans (t5.mono (by omega))
          clear o4 t4 HY HC1
          obtain ⟨c0, c1, c2, c3⟩ := b1'.four
          obtain ⟨f0, f1, f2, f3⟩ := b1'.free4
          go_upto_region 13 with (fail)
          have a1 := ow_apart o5 hg11
          have a2 := ow_apart o5 (show g + 1 + 1 + 1 < gb by omega)
          have a3 := ow_apart o5 (show g + 1 + 1 + 1 + 1 < gb by omega)
          have b1 := b1'.put3 (x := .slice A5 n5 c5)
          have b3 := b3'.far (g' := g) (k := 3) (x := .slice A5 n5 c5) (by omega)
          have b4 := b4'.far (g' := g) (k := 3) (x := .slice A5 n5 c5) (by omega)
          have b5 := b5'.far (g' := g) (k := 3) (x := .slice A5 n5 c5) (by omega)
          have t6 : Below g w (wc.setCell ⟨g, 3, none⟩ (.slice A5 n5 c5)) := t5.setCell (Nat.le_refl _) _
          have o6 := o5.store_far (a := ⟨g, 3, none⟩) a1 (.slice A5 n5 c5)
          clear b1' b3' b4' b5' t5 o5 c0 c1 c2 c3 f0 f1 f2 f3
          generalize wc.setCell _ _ = w6 at b1 b3 b4 b5 t6 o6 ⊢
          obtain ⟨c0, c1, c2, c3⟩ := b1.four
          obtain ⟨k0, k1⟩ := b3.two
          obtain ⟨d0, d1, d2, d3⟩ := b4.four
          obtain ⟨f0, f1, f2, f3⟩ := b4.free4
          obtain ⟨e0, e1⟩ := b5.two
          obtain ⟨h0, h1⟩ := b5.free2
          go_region
          have r1 := box_drew ((b4.fill4 (.int .i64 1) (.int .i64 status) (.string s_) (.slice A5 n5 c5)).far2 (g' := g + 1 + 1 + 1 + 1) (by omega) (.int .i64 K') (.int .i64 N'))
          have r2 := box_drew ((b5.far4 (g' := g + 1 + 1 + 1) (by omega) (.int .i64 1) (.int .i64 status) (.string s_) (.slice A5 n5 c5)).fill2 (.int .i64 K') (.int .i64 N'))
          have r3 := ow_drew (((o6.far4 a2 (.int .i64 1) (.int .i64 status) (.string s_) (.slice A5 n5 c5)).far2 a3 (.int .i64 K') (.int .i64 N')).base_ (Nat.le_of_lt hg11))
          have r4 := below_drewN (k := 1) (below_fill2 (below_fill4 t6 (show g ≤ g + 1 + 1 + 1 by omega) (.int .i64 1) (.int .i64 status) (.string s_) (.slice A5 n5 c5)) (show g ≤ g + 1 + 1 + 1 + 1 by omega) (.int .i64 K') (.int .i64 N'))
          change Below g w (fill2 (fill4 w6 (g + 1 + 1 + 1) (.int .i64 1) (.int .i64 status) (.string s_) (.slice A5 n5 c5)) (g + 1 + 1 + 1 + 1) (.int .i64 K') (.int .i64 N')).drew at r4
          clear b1 b3 b4 b5 o6 t6 c0 c1 c2 c3 k0 k1 d0 d1 d2 d3 f0 f1 f2 f3 e0 e1 h0 h1
          change _ at r1
          have hw7 : ((((((w6.setCell ⟨g + 1 + 1 + 1, 0, none⟩ (.int .i64 1)).setCell ⟨g + 1 + 1 + 1, 1, none⟩ (.int .i64 status)).setCell ⟨g + 1 + 1 + 1, 2, none⟩ (.string s_)).setCell ⟨g + 1 + 1 + 1, 3, none⟩ (.slice A5 n5 c5)).setCell ⟨g + 1 + 1 + 1 + 1, 0, none⟩ (.int .i64 K')).setCell ⟨g + 1 + 1 + 1 + 1, 1, none⟩ (.int .i64 N')).drew = (fill2 (fill4 w6 (g + 1 + 1 + 1) (.int .i64 1) (.int .i64 status) (.string s_) (.slice A5 n5 c5)) (g + 1 + 1 + 1 + 1) (.int .i64 K') (.int .i64 N')).drew := rfl
          rw [hw7]
          generalize (fill2 (fill4 w6 (g + 1 + 1 + 1) (.int .i64 1) (.int .i64 status) (.string s_) (.slice A5 n5 c5)) (g + 1 + 1 + 1 + 1) (.int .i64 K') (.int .i64 N')).drew = w7 at r1 r2 r3 r4 ⊢
          clear hw7
          go_wp2
          refine bodyPost_ret (v := .tuple #[.agg #[.int .i64 1, .int .i64 status, .string s_, .slice A5 n5 c5], .agg #[.int .i64 K', .int .i64 N']]) (results_rsf Tryd.results23 _ w7 _ _ _ _ _ _ _ _ r1 r2 rfl rfl) rfl ?_
          refine ⟨A5, n5, c5, by rw [← HKE.out, ← HNE.out], ?_, hc5, ?_⟩
          · rw [HRF.out, ← HG.out]
            exact r3
          · rw [← HG.out]
            exact r4
end Go.Proofs.YtgdjlmpfjmakkaaDoor
