/- script.reader.bytes. -/
import Derived.Test.YtbplnglmjcmfiaaGreatDoorScrRead
import Derived.Test.YtbplnglmjcmfiaaGreatDoorPhex
import Derived.Test.YtbplnglmjcmfiaaGreatDoorOwn
namespace Go.Proofs.YtbplnglmjcmfiaaGreatDoor
open Go.RowKit
set_option linter.unusedVariables false
set_option linter.unusedSimpArgs false

def hexDigs : List UInt8 := [48, 49, 50, 51, 52, 53, 54, 55, 56, 57, 97, 98, 99, 100, 101, 102]
theorem digs_val : ∀ c : Fin 256, hexDigs.contains (UInt8.ofNat c.val) = (Scr.hexVal (UInt8.ofNat c.val)).isSome := by decide +kernel
theorem digs_is (c : UInt8) : hexDigs.contains c = (Scr.hexVal c).isSome := by
  have := digs_val ⟨c.toNat, c.toNat_lt⟩
  rwa [show UInt8.ofNat (⟨c.toNat, c.toNat_lt⟩ : Fin 256).val = c by simp] at this
theorem dwh_nil (p : UInt8 → Bool) : ∀ l : List UInt8, l.dropWhile p = [] ↔ ∀ x ∈ l, p x = true
  | [] => by simp
  | a :: l => by
    rw [List.dropWhile_cons]
    by_cases h : p a = true
    · rw [if_pos h, dwh_nil p l]; simp [h]
    · rw [if_neg h]; simp [h]
theorem tw_mem (p : UInt8 → Bool) : ∀ (l : List UInt8) (x : UInt8), x ∈ l.takeWhile p → p x = true
  | [], x, h => by simp at h
  | a :: l, x, h => by
    rw [List.takeWhile_cons] at h
    split at h
    · rename_i ha
      rcases List.mem_cons.1 h with rfl | h
      · exact ha
      · exact tw_mem p l x h
    · simp at h
theorem trimS_nil (l cs : List UInt8) : Lib.trimS l cs = [] ↔ ∀ c ∈ l, cs.contains c = true := by
  unfold Lib.trimS Lib.trimLeftS Lib.trimRightS
  constructor
  · intro h c hc
    have h1 : ∀ x ∈ (l.reverse.dropWhile (cs.contains ·)).reverse, cs.contains x = true := (dwh_nil _ _).1 h
    have h2 : c ∈ l.reverse := List.mem_reverse.2 hc
    rw [← List.takeWhile_append_dropWhile (p := (cs.contains ·)) (l := l.reverse)] at h2
    rcases List.mem_append.1 h2 with h2 | h2
    · exact tw_mem _ _ _ h2
    · exact h1 c (List.mem_reverse.2 h2)
  · intro h
    have : l.reverse.dropWhile (cs.contains ·) = [] := (dwh_nil _ _).2 fun x hx => h x (List.mem_reverse.1 hx)
    rw [this]; rfl
theorem unhexB_none : ∀ (l : List UInt8), (l.length % 2 ≠ 0 ∨ ∃ c ∈ l, Scr.hexVal c = none) → Scr.unhexB l = none
  | [], h => by simp at h
  | [_], _ => rfl
  | a :: b :: r, h => by
    rw [Scr.unhexB]
    rcases ha : Scr.hexVal a with _ | x
    · rfl
    rcases hb : Scr.hexVal b with _ | y
    · rfl
    have : Scr.unhexB r = none := unhexB_none r (by
      rcases h with h | ⟨c, hc, hn⟩
      · left; simp only [List.length_cons] at h; omega
      · right
        rcases List.mem_cons.1 hc with rfl | hc
        · rw [ha] at hn; cases hn
        rcases List.mem_cons.1 hc with rfl | hc
        · rw [hb] at hn; cases hn
        exact ⟨c, hc, hn⟩)
    rw [this]
theorem unhexB_some : ∀ (l : List UInt8), l.length % 2 = 0 → (∀ c ∈ l, (Scr.hexVal c).isSome = true) → ∃ b, Scr.unhexB l = some b
  | [], _, _ => ⟨[], rfl⟩
  | [_], h, _ => by simp at h
  | a :: b :: r, h, hc => by
    obtain ⟨x, hx⟩ := Option.isSome_iff_exists.1 (hc a (by simp))
    obtain ⟨y, hy⟩ := Option.isSome_iff_exists.1 (hc b (by simp))
    obtain ⟨l, hl⟩ := unhexB_some r (by simp only [List.length_cons] at h; omega) (fun c hm => hc c (by simp [hm]))
    exact ⟨_, by rw [Scr.unhexB, hx, hy, hl]⟩
theorem unhexB_cons {rem b : List UInt8} (h : Scr.unhexB rem = some b) (hne : rem ≠ []) : ∃ a c r x y l, rem = a :: c :: r ∧ Scr.hexVal a = some x ∧ Scr.hexVal c = some y ∧ Scr.unhexB r = some l ∧ b = UInt8.ofNat (16 * x + y) :: l := by
  match rem, h, hne with
  | [], _, hne => exact absurd rfl hne
  | [_], h, _ => cases h
  | a :: c :: r, h, _ =>
    rw [Scr.unhexB] at h
    split at h
    · rename_i x y l hx hy hl
      cases h
      exact ⟨a, c, r, x, y, l, rfl, hx, hy, hl, rfl⟩
    · cases h
theorem unhexB_len : ∀ (s b : List UInt8), Scr.unhexB s = some b → 2 * b.length = s.length
  | [], b, h => by cases h; rfl
  | [_], b, h => by cases h
  | a :: c :: r, b, h => by
    rw [Scr.unhexB] at h
    split at h
    · rename_i x y l hx hy hl
      cases h
      have := unhexB_len r l hl
      simp only [List.length_cons]; omega
    · cases h
theorem hexVal_B {c : UInt8} {x : Nat} (h : Scr.hexVal c = some x) : hexB c = true ∧ hexV c = x := by
  unfold Scr.hexVal at h
  unfold hexB hexV
  split at h
  · rename_i h1
    cases h
    exact ⟨by simp [h1], if_pos h1.2⟩
  · split at h
    · rename_i h1 h2
      cases h
      exact ⟨by simp [h2], by rw [if_neg (by omega), if_pos h2.1]⟩
    · cases h
theorem rdByt_eq (p : List (List UInt8) × Bool) : Scr.rdByt p = match Scr.bytesOf' (p.1.headD []) with
    | some n => (n, p.1.tail, p.2 || p.1.isEmpty)
    | none => ([], p.1.tail, true) := by
  obtain ⟨ws, b⟩ := p
  cases ws with
  | nil => simp [Scr.rdByt, Scr.bytesOf']
  | cons s r => simp only [Scr.rdByt, List.headD_cons, List.tail_cons, List.isEmpty_cons, Bool.or_false]; rfl
theorem pre_x (s : List UInt8) : (∃ r, s = 120 :: r ∧ Lib.hasPrefix s [120] = true ∧ Lib.trimPrefix s [120] = r ∧ Scr.bytesOf' s = Scr.unhexB r) ∨ (Lib.hasPrefix s [120] = false ∧ Lib.trimPrefix s [120] = s ∧ Scr.bytesOf' s = none) := by
  cases s with
  | nil => right; exact ⟨rfl, rfl, rfl⟩
  | cons c r =>
    by_cases h : c = 120
    · subst h
      left
      refine ⟨r, rfl, by simp [Lib.hasPrefix, List.isPrefixOf], by simp [Lib.trimPrefix, Lib.hasPrefix, List.isPrefixOf], by simp [Scr.bytesOf']⟩
    · right
      have h2 : ((120 : UInt8) == c) = false := by rw [beq_eq_false_iff_ne]; exact fun e => h e.symm
      refine ⟨by simp [Lib.hasPrefix, List.isPrefixOf, h2], by simp [Lib.trimPrefix, Lib.hasPrefix, List.isPrefixOf, h2], by simp [Scr.bytesOf', h]⟩
theorem infoU8s : (Tryz.prog.info? 5).map (fun i => (i.zero, i.size, i.bytes)) = some (some (.int .u8 0), 1, 1) := by kernel_rfl
set_option maxRecDepth 100000 in
set_option maxHeartbeats 1600000 in
theorem scrbyt_any (B r : Nat) (p : List (List UInt8) × Bool) (w : World) (h : IsRd w B r p) (hsz : ∀ s ∈ p.1, s.length ≤ 16777216) :
    Calls Tryz.prog 164 #[.pointer (some ⟨r, 0, none⟩)] w fun e w' => ∃ A n c, e = .returned (.slice A n c) ∧ n = (Scr.rdByt p).1.length ∧ n ≤ c ∧ c ≤ maxLen ∧ Rd w' w'.heap.size 1 A n (bcells (Scr.rdByt p).1) ∧ (∀ a, A = some a → w.heap.size ≤ a.block ∧ a.block < w'.heap.size) ∧ IsRd w' B r (Scr.rdByt p).2 ∧ w.grownBy w' (some r) := by
  obtain ⟨i0, hi0, hz0, hz1, hz2⟩ := info_parts infoU8s
  have nx := scrnext_any B r p w h
  obtain ⟨s, hs⟩ : ∃ s, s = p.1.headD [] := ⟨_, rfl⟩
  have hsl : s.length ≤ 16777216 := by
    rw [hs]; rcases hp : p.1 with _ | ⟨x, xs⟩
    · simp
    · exact hsz x (by rw [hp]; simp)
  have hrd := rdByt_eq p
  rw [← hs] at nx hrd
  have hlt := h.lt
  have HS := hide hs
  clear hs
  have fin : Hid (Scr.bytesOf' s = none → ∀ W, IsRd W B r (p.1.tail, p.2 || p.1.isEmpty) → w.grownBy W (some r) → ∃ A n c, Ending.returned (Value.slice none 0 0) = .returned (.slice A n c) ∧ n = (Scr.rdByt p).1.length ∧ n ≤ c ∧ c ≤ maxLen ∧ Rd (W.setCell ⟨r, 1, none⟩ (.bool true)) (W.setCell ⟨r, 1, none⟩ (.bool true)).heap.size 1 A n (bcells (Scr.rdByt p).1) ∧ (∀ a, A = some a → w.heap.size ≤ a.block ∧ a.block < (W.setCell ⟨r, 1, none⟩ (.bool true)).heap.size) ∧ IsRd (W.setCell ⟨r, 1, none⟩ (.bool true)) B r (Scr.rdByt p).2 ∧ w.grownBy (W.setCell ⟨r, 1, none⟩ (.bool true)) (some r)) := hide fun hn W h1 h2 => by
    rw [hrd, hn]
    exact ⟨none, 0, 0, rfl, rfl, Nat.le_refl _, Nat.zero_le _, Rd.nil_, (fun a e => by cases e), h1.setBad, grown_set h2 _ _⟩
  have fin2 : Hid (∀ b, Scr.bytesOf' s = some b → Scr.rdByt p = (b, p.1.tail, p.2 || p.1.isEmpty)) := hide fun b hn => by rw [hrd, hn]
  have cp : ∀ w, _ := fun w => Tryz.strings_CutPrefix ⟨s.toArray⟩ ⟨#[120]⟩ w
  clear hrd
  rcases pre_x s with ⟨t, hst, h1, h2, h3⟩ | ⟨h1, h2, h3⟩
  · have e1 : Lib.hasPrefix (⟨s.toArray⟩ : ByteArray).data.toList (⟨#[120]⟩ : ByteArray).data.toList = true := h1
    have e2 : Lib.trimPrefix (⟨s.toArray⟩ : ByteArray).data.toList (⟨#[120]⟩ : ByteArray).data.toList = t := h2
    simp only [e1, e2] at cp
    have htl : t.length ≤ 16777216 := by rw [hst] at hsl; simp at hsl; omega
    rw [h3] at fin fin2
    clear e1 e2 h1 h2 h3 hst
    obtain ⟨bs, hbs⟩ : ∃ bs : ByteArray, bs = ⟨s.toArray⟩ := ⟨_, rfl⟩
    obtain ⟨bt, hbt⟩ : ∃ bt : ByteArray, bt = ⟨t.toArray⟩ := ⟨_, rfl⟩
    rw [← hbs] at nx cp
    rw [← hbt] at cp
    have hsize : bt.size = t.length := by rw [hbt]; simp [ByteArray.size]
    have hdat : bt.data.toList = t := by rw [hbt]
    obtain ⟨m, hmm⟩ : ∃ m, m = t.length := ⟨_, rfl⟩
    rw [← hmm] at hsize htl
    have HM := hide hmm
    have ht64 : bt.size ≤ 9223372036854775807 := by omega
    have HB := hide hbs
    have HT := hide hbt
    clear hbs hbt
    have ha128 : ∀ (j : Nat) (b : UInt8), (⟨hexDigs.toArray⟩ : ByteArray).data.toList[j]? = some b → b.toNat < 128 := by
      intro j b hj
      have hmem : b ∈ hexDigs := List.mem_of_getElem? hj
      have hall : ∀ x ∈ hexDigs, x.toNat < 128 := by decide
      exact hall b hmem
    by_cases hev : m % 2 = 0
    · have hm : (((m : Int)) % 2 != 0) = false := by
        simp; omega
      have tm := fun w => Tryz.strings_Trim_ascii bt ⟨hexDigs.toArray⟩ w ht64 (by decide) ha128
      have e3 : (⟨hexDigs.toArray⟩ : ByteArray).data.toList = hexDigs := rfl
      rw [hdat, e3] at tm
      obtain ⟨tt, htt⟩ : ∃ tt, tt = Lib.trimS t hexDigs := ⟨_, rfl⟩
      simp only [← htt] at tm
      by_cases hall : tt = []
      · subst hall
        obtain ⟨b, hb⟩ := unhexB_some t (by rw [← hmm]; exact hev) fun c hc => by rw [← digs_is]; exact (trimS_nil t hexDigs).1 htt.symm c hc
        have H2 := hide (fin2.out b hb)
        have HU := hide hb
        clear fin fin2 hev hb htt hmm ha128
        go_enter Tryz.func164, Tryz.ntmps164
        go_wp2_with fail
        refine nx.mono ?_
        rintro e w1 ⟨rfl, i1, b1⟩
        go_wp2_with fail
        refine (cp w1).mono ?_
        rintro e w2 ⟨rfl, rfl⟩
        clear cp nx
        go_wp2_with fail
        refine (tm w2).mono ?_
        rintro e w3 ⟨rfl, b3⟩
        have i3 := i1.below b3
        have b13 := grown_trans b1 (grown_of_below b3)
        clear tm b3 i1 b1
        have hbl := unhexB_len t b HU.out
        rw [← HM.out] at hbl
        obtain ⟨g, hg⟩ : ∃ g, w3.heap.size = g := ⟨_, rfl⟩
        go_wp2_with fail
        go_loopw [3, 5] (fun sv ov wr => ∃ (rem done bb : List UInt8) (A : Option Addr) (c n : Nat), sv = .string ⟨rem.toArray⟩ ∧ ov = .slice A n c ∧ n = done.length ∧ Scr.unhexB rem = some bb ∧ done ++ bb = b ∧ Ow wr g 1 (.slice A n c) n (bcells done) ∧ Below g w3 wr) (fun sv _ _ => match sv with | .string s => s.size | _ => 0)
        case atStart => exact ⟨t, [], b, none, 0, 0, by rw [HT.out], rfl, rfl, HU.out, rfl, Ow.nil_, Below.refl _ _⟩
        case round =>
          obtain ⟨rem, done, bb, A, c, n, rfl, rfl, hn, hun, hdb, how, hbe⟩ := hrel
          have hgr : g ≤ wr.heap.size := hg ▸ hbe.size
          have hlen2 := congrArg List.length hdb
          rw [List.length_append, ← hn] at hlen2
          have hul := unhexB_len rem bb hun
          have HNN := hide hn
          have HDB := hide hdb
          clear hn hdb
          by_cases hr : rem = []
          · subst hr
            cases hun
            obtain ⟨A1, c1, e1, hc1, hc2⟩ := how.shape
            cases e1
            clear hul hlen2
            go_wp2_with fail
            go_ret
            rw [H2.out]
            refine ⟨A, n, c, rfl, ?_, hc1, hc2, ?_, ?_, ?_, ?_⟩
            · rw [← HDB.out, HNN.out, List.append_nil]
            · rw [← HDB.out, List.append_nil]; exact how.rd
            · intro a ea
              subst ea
              have h1 := how.lt a.block (by rfl)
              have h2 := b13.size
              exact ⟨by omega, h1.2⟩
            · exact i3.below (hg ▸ hbe)
            · exact grown_trans b13 (grown_of_below (hg ▸ hbe))
          · obtain ⟨a, d, r', x, y, l, rfl, hx, hy, hl, rfl⟩ := unhexB_cons hun hr
            obtain ⟨sb, hsb⟩ : ∃ sb : ByteArray, sb = ⟨(a :: d :: r').toArray⟩ := ⟨_, rfl⟩
            have x1 : sb.extract 0 2 = ⟨#[a, d]⟩ := by rw [hsb]; apply bytes_ext; simp [Lib.extract_data]
            have x2 : sb.extract 2 sb.size = ⟨r'.toArray⟩ := by rw [hsb]; apply bytes_ext; simp [Lib.extract_data, ByteArray.size]
            have hz : (sb.toList == []) = false := by rw [hsb, ByteArray.toList_eq]; rfl
            have hss : sb.size = r'.length + 2 := by rw [hsb]; simp [ByteArray.size]
            obtain ⟨q1, q2⟩ := hexVal_B hx
            obtain ⟨q3, q4⟩ := hexVal_B hy
            have hx16 := (Scr.hexD_hexVal hx).2
            have hy16 := (Scr.hexD_hexVal hy).2
            have hall2 : ∀ c ∈ (⟨#[a, d]⟩ : ByteArray).data.toList, hexB c = true := by
              intro c hc
              have hc' : c ∈ [a, d] := hc
              simp only [List.mem_cons, List.not_mem_nil, or_false] at hc'
              rcases hc' with rfl | rfl
              · exact q1
              · exact q3
            have ph := parsehex8 ⟨#[a, d]⟩ wr (by show 1 ≤ 2; omega) hall2 (by show 2 ≤ 2; omega)
            have hN : hexN (⟨#[a, d]⟩ : ByteArray).data.toList = 16 * x + y := by show 16 * (16 * 0 + hexV a) + hexV d = _; rw [q2, q4]; omega
            rw [hN] at ph
            obtain ⟨V, hV⟩ : ∃ V, V = 16 * x + y := ⟨_, rfl⟩
            rw [← hV] at ph
            have hV8 : (UInt8.ofNat (16 * x + y)).toNat = V := by rw [hV]; simp [UInt8.toNat_ofNat']; omega
            have wv : IntKind.u8.wrap (V : Int) = (V : Int) := by rw [IntKind.wrap_u8]; omega
            have HX1 := x1
            have HV := hide hV8
            rw [← hsb]
            obtain ⟨S2, hS2⟩ : ∃ S2 : ByteArray, S2 = ⟨#[a, d]⟩ := ⟨_, rfl⟩
            rw [← hS2] at x1 HX1 ph
            obtain ⟨S3, hS3⟩ : ∃ S3 : ByteArray, S3 = ⟨r'.toArray⟩ := ⟨_, rfl⟩
            rw [← hS3] at x2
            have HS3 := hide hS3
            rw [hss] at x2
            have hsz2 : ¬ ((sb.size : Int) < 2) := by omega
            obtain ⟨sz, hsz⟩ : ∃ sz, sz = sb.size := ⟨_, rfl⟩
            clear hN hV hV8 hx hy q1 q2 q3 q4 hul hun hS2 hS3 hsb hr HX1 hall2
            go_wp2_with fail
            refine ph.mono ?_
            rintro e w5 ⟨rfl, b5⟩
            have how5 := how.below b5
            have hb5 := hbe.trans (b5.mono hgr)
            have hg5 : g ≤ w5.heap.size := Nat.le_trans hgr b5.size
            clear ph how hbe
            go_wp2_with (at_builtin; refine wpl_push_ow rfl _ _ _ rfl g i0 _ 1 1 Tryz.underlying22 hi0 hz0 hz1 hz2 rfl (by omega) _ _ _ rfl _ rfl how5 rfl (by simp [Value.oneCell']) (by unfold maxLen; simp only [List.length_cons] at hlen2; omega) (by simp only [List.length_cons] at hlen2; omega) hg5 ?_; intro v1 w7 x3 x4 x5 x6)
            go_roundw
            case rel =>
              obtain ⟨A3, c3, rfl, -⟩ := x3.shape
              refine ⟨r', done ++ [UInt8.ofNat (16 * x + y)], l, A3, c3, n + 1, by rw [HS3.out], rfl, by rw [List.length_append, HNN.out]; rfl, hl, by rw [← HDB.out]; simp, ?_, hb5.trans x4⟩
              have e1 : bcells (done ++ [UInt8.ofNat (16 * x + y)]) = bcells done ++ [Value.int .u8 (V : Int)] := by unfold bcells; rw [List.map_append]; simp only [List.map_cons, List.map_nil]; rw [HV.out]
              rw [e1]; exact x3
            case measure => simp only; rw [HS3.out]; rw [hss]; simp [ByteArray.size]
      · have hn : Scr.unhexB t = none := unhexB_none t (.inr (by
          apply Classical.byContradiction
          intro hc
          refine hall (htt.trans ((trimS_nil t hexDigs).2 fun c hm => ?_))
          rw [digs_is]
          rcases hv : Scr.hexVal c with _ | v
          · exact absurd ⟨c, hm, hv⟩ hc
          · rfl))
        have hne : ((⟨tt.toArray⟩ : ByteArray).toList == []) = false := by
          rw [ByteArray.toList_eq, beq_eq_false_iff_ne]; exact hall
        obtain ⟨bx, hbx⟩ : ∃ bx : ByteArray, bx = ⟨tt.toArray⟩ := ⟨_, rfl⟩
        rw [← hbx] at hne
        simp only [← hbx] at tm
        have HN := hide hn
        clear fin2 hev hn htt hall hbx hmm ha128
        go_enter Tryz.func164, Tryz.ntmps164
        go_wp2_with fail
        refine nx.mono ?_
        rintro e w1 ⟨rfl, i1, b1⟩
        go_wp2_with fail
        refine (cp w1).mono ?_
        rintro e w2 ⟨rfl, rfl⟩
        clear cp nx
        go_wp2_with fail
        refine (tm w2).mono ?_
        rintro e w3 ⟨rfl, b3⟩
        have i3 := i1.below b3
        have b13 := grown_trans b1 (grown_of_below b3)
        obtain ⟨v0, k0, k1, f1⟩ := i3.two
        clear tm b3 i1 b1
        go_wp2_with fail
        go_ret
        exact fin.out HN.out _ i3 b13
    · have hn : Scr.unhexB t = none := unhexB_none t (.inl (by rw [← hmm]; exact hev))
      have hm : (((m : Int)) % 2 != 0) = true := by
        simp; omega
      have HN := hide hn
      clear fin2 hev hn hmm ha128
      go_enter Tryz.func164, Tryz.ntmps164
      go_wp2_with fail
      refine nx.mono ?_
      rintro e w1 ⟨rfl, i1, b1⟩
      obtain ⟨v0, k0, k1, f1⟩ := i1.two
      go_wp2_with fail
      refine (cp w1).mono ?_
      rintro e w2 ⟨rfl, rfl⟩
      clear cp nx
      go_wp2_with fail
      go_ret
      exact fin.out HN.out _ i1 b1
  · have e1 : Lib.hasPrefix (⟨s.toArray⟩ : ByteArray).data.toList (⟨#[120]⟩ : ByteArray).data.toList = false := h1
    have e2 : Lib.trimPrefix (⟨s.toArray⟩ : ByteArray).data.toList (⟨#[120]⟩ : ByteArray).data.toList = s := h2
    simp only [e1, e2] at cp
    have H3 := hide h3
    clear e1 e2 h1 h2 h3 fin2
    obtain ⟨bs, hbs⟩ : ∃ bs : ByteArray, bs = ⟨s.toArray⟩ := ⟨_, rfl⟩
    rw [← hbs] at nx cp
    have HB := hide hbs
    clear hbs
    go_enter Tryz.func164, Tryz.ntmps164
    go_wp2_with fail
    refine nx.mono ?_
    rintro e w1 ⟨rfl, i1, b1⟩
    obtain ⟨v0, k0, k1, f1⟩ := i1.two
    go_wp2_with fail
    refine (cp w1).mono ?_
    rintro e w2 ⟨rfl, rfl⟩
    clear cp nx
    go_wp2_with fail
    go_ret
    exact fin.out H3.out _ i1 b1
end Go.Proofs.YtbplnglmjcmfiaaGreatDoor
