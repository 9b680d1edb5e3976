/- shell.unhex: a word's bytes. -/
import Derived.Test.YtbplnglmjcmfiaaGreatDoorScrByt
namespace Go.Proofs.YtbplnglmjcmfiaaGreatDoor
open Go.RowKit
set_option linter.unusedVariables false
set_option linter.unusedSimpArgs false

def UnhexPost (s : List UInt8) (w : World) (e : Ending) (w' : World) : Prop := ∃ A n c, e = .returned (.tuple #[.slice A n c, .bool (Scr.bytesOf' s).isSome]) ∧ n = ((Scr.bytesOf' s).getD []).length ∧ Rd w' w'.heap.size 1 A n (bcells ((Scr.bytesOf' s).getD [])) ∧ Below w.heap.size w w'
set_option maxRecDepth 100000 in
set_option maxHeartbeats 1600000 in
theorem shunhex_any (s : List UInt8) (w : World) (hsl : s.length ≤ 16777216) :
    Calls Tryz.prog 47 #[.string ⟨s.toArray⟩] w (UnhexPost s w) := by
  obtain ⟨i0, hi0, hz0, hz1, hz2⟩ := info_parts infoU8s
  have fin : Hid (Scr.bytesOf' s = none → ∀ W, Below w.heap.size w W → UnhexPost s w (Ending.returned (Value.tuple #[.slice none 0 0, .bool false])) W) := hide fun hn W b => by
    unfold UnhexPost
    rw [hn]
    exact ⟨none, 0, 0, rfl, rfl, Rd.nil_, b⟩
  have fin2 : Hid (∀ b, Scr.bytesOf' s = some b → ∀ W A n c, n = b.length → Rd W W.heap.size 1 A n (bcells b) → Below w.heap.size w W → UnhexPost s w (Ending.returned (Value.tuple #[.slice A n c, .bool true])) W) := hide fun b hn W A n c h1 h2 h3 => by
    unfold UnhexPost
    rw [hn]
    exact ⟨A, n, c, rfl, h1, h2, h3⟩
  have cp : ∀ w, _ := fun w => Tryz.strings_CutPrefix ⟨s.toArray⟩ ⟨#[120]⟩ w
  rcases pre_x s with ⟨t, hst, h1, h2, h3⟩ | ⟨h1, h2, h3⟩
  · have e1 : Lib.hasPrefix (⟨s.toArray⟩ : ByteArray).data.toList (⟨#[120]⟩ : ByteArray).data.toList = true := h1
    have e2 : Lib.trimPrefix (⟨s.toArray⟩ : ByteArray).data.toList (⟨#[120]⟩ : ByteArray).data.toList = t := h2
    simp only [e1, e2] at cp
    have htl : t.length ≤ 16777216 := by rw [hst] at hsl; simp at hsl; omega
    rw [h3] at fin fin2
    clear e1 e2 h1 h2 h3 hst
    obtain ⟨bs, hbs⟩ : ∃ bs : ByteArray, bs = ⟨s.toArray⟩ := ⟨_, rfl⟩
    obtain ⟨bt, hbt⟩ : ∃ bt : ByteArray, bt = ⟨t.toArray⟩ := ⟨_, rfl⟩
    rw [← hbs] at cp ⊢
    rw [← hbt] at cp
    have hsize : bt.size = t.length := by rw [hbt]; simp [ByteArray.size]
    have hdat : bt.data.toList = t := by rw [hbt]
    obtain ⟨m, hmm⟩ : ∃ m, m = t.length := ⟨_, rfl⟩
    rw [← hmm] at hsize htl
    have HM := hide hmm
    have ht64 : bt.size ≤ 9223372036854775807 := by omega
    have HB := hide hbs
    have HT := hide hbt
    clear hbs hbt
    have ha128 : ∀ (j : Nat) (b : UInt8), (⟨hexDigs.toArray⟩ : ByteArray).data.toList[j]? = some b → b.toNat < 128 := by
      intro j b hj
      have hmem : b ∈ hexDigs := List.mem_of_getElem? hj
      have hall : ∀ x ∈ hexDigs, x.toNat < 128 := by decide
      exact hall b hmem
    by_cases hev : m % 2 = 0
    · have hm : (((m : Int)) % 2 != 0) = false := by
        simp; omega
      have tm := fun w => Tryz.strings_Trim_ascii bt ⟨hexDigs.toArray⟩ w ht64 (by decide) ha128
      have e3 : (⟨hexDigs.toArray⟩ : ByteArray).data.toList = hexDigs := rfl
      rw [hdat, e3] at tm
      obtain ⟨tt, htt⟩ : ∃ tt, tt = Lib.trimS t hexDigs := ⟨_, rfl⟩
      simp only [← htt] at tm
      by_cases hall : tt = []
      · subst hall
        obtain ⟨b, hb⟩ := unhexB_some t (by rw [← hmm]; exact hev) fun c hc => by rw [← digs_is]; exact (trimS_nil t hexDigs).1 htt.symm c hc
        have H2 := hide (fin2.out b hb)
        have HU := hide hb
        clear fin fin2 hev hb htt hmm ha128
        go_enter Tryz.func47, Tryz.ntmps47
        go_wp2_with fail
        refine (cp w).mono ?_
        rintro e w2 ⟨rfl, rfl⟩
        clear cp
        go_wp2_with fail
        refine (tm w2).mono ?_
        rintro e w3 ⟨rfl, b3⟩
        clear tm
        have hbl := unhexB_len t b HU.out
        rw [← HM.out] at hbl
        obtain ⟨g, hg⟩ : ∃ g, w3.heap.size = g := ⟨_, rfl⟩
        go_wp2_with fail
        go_loopw [0, 5] (fun sv ov wr => ∃ (rem done bb : List UInt8) (A : Option Addr) (c n : Nat), sv = .string ⟨rem.toArray⟩ ∧ ov = .slice A n c ∧ n = done.length ∧ Scr.unhexB rem = some bb ∧ done ++ bb = b ∧ Ow wr g 1 (.slice A n c) n (bcells done) ∧ Below g w3 wr) (fun sv _ _ => match sv with | .string s => s.size | _ => 0)
        case atStart => exact ⟨t, [], b, none, 0, 0, by rw [HT.out], rfl, rfl, HU.out, rfl, Ow.nil_, Below.refl _ _⟩
        case round =>
          obtain ⟨rem, done, bb, A, c, n, rfl, rfl, hn, hun, hdb, how, hbe⟩ := hrel
          have hgr : g ≤ wr.heap.size := hg ▸ hbe.size
          have hlen2 := congrArg List.length hdb
          rw [List.length_append, ← hn] at hlen2
          have hul := unhexB_len rem bb hun
          have HNN := hide hn
          have HDB := hide hdb
          clear hn hdb
          by_cases hr : rem = []
          · subst hr
            cases hun
            obtain ⟨A1, c1, e1, hc1, hc2⟩ := how.shape
            cases e1
            clear hul hlen2
            go_wp2_with fail
            go_ret2
            exact H2.out _ A n c (by rw [← HDB.out, HNN.out, List.append_nil]) (by rw [← HDB.out, List.append_nil]; exact how.rd) (b3.trans (hbe.mono (hg ▸ b3.size)))
          · obtain ⟨a, d, r', x, y, l, rfl, hx, hy, hl, rfl⟩ := unhexB_cons hun hr
            obtain ⟨sb, hsb⟩ : ∃ sb : ByteArray, sb = ⟨(a :: d :: r').toArray⟩ := ⟨_, rfl⟩
            have x1 : sb.extract 0 2 = ⟨#[a, d]⟩ := by rw [hsb]; apply bytes_ext; simp [Lib.extract_data]
            have x2 : sb.extract 2 sb.size = ⟨r'.toArray⟩ := by rw [hsb]; apply bytes_ext; simp [Lib.extract_data, ByteArray.size]
            have hz : (sb.toList == []) = false := by rw [hsb, ByteArray.toList_eq]; rfl
            have hss : sb.size = r'.length + 2 := by rw [hsb]; simp [ByteArray.size]
            obtain ⟨q1, q2⟩ := hexVal_B hx
            obtain ⟨q3, q4⟩ := hexVal_B hy
            have hx16 := (Scr.hexD_hexVal hx).2
            have hy16 := (Scr.hexD_hexVal hy).2
            have hall2 : ∀ c ∈ (⟨#[a, d]⟩ : ByteArray).data.toList, hexB c = true := by
              intro c hc
              have hc' : c ∈ [a, d] := hc
              simp only [List.mem_cons, List.not_mem_nil, or_false] at hc'
              rcases hc' with rfl | rfl
              · exact q1
              · exact q3
            have ph := parsehex8 ⟨#[a, d]⟩ wr (by show 1 ≤ 2; omega) hall2 (by show 2 ≤ 2; omega)
            have hN : hexN (⟨#[a, d]⟩ : ByteArray).data.toList = 16 * x + y := by show 16 * (16 * 0 + hexV a) + hexV d = _; rw [q2, q4]; omega
            rw [hN] at ph
            obtain ⟨V, hV⟩ : ∃ V, V = 16 * x + y := ⟨_, rfl⟩
            rw [← hV] at ph
            have hV8 : (UInt8.ofNat (16 * x + y)).toNat = V := by rw [hV]; simp [UInt8.toNat_ofNat']; omega
            have wv : IntKind.u8.wrap (V : Int) = (V : Int) := by rw [IntKind.wrap_u8]; omega
            have HX1 := x1
            have HV := hide hV8
            rw [← hsb]
            obtain ⟨S2, hS2⟩ : ∃ S2 : ByteArray, S2 = ⟨#[a, d]⟩ := ⟨_, rfl⟩
            rw [← hS2] at x1 HX1 ph
            obtain ⟨S3, hS3⟩ : ∃ S3 : ByteArray, S3 = ⟨r'.toArray⟩ := ⟨_, rfl⟩
            rw [← hS3] at x2
            have HS3 := hide hS3
            rw [hss] at x2
            have hsz2 : ¬ ((sb.size : Int) < 2) := by omega
            obtain ⟨sz, hsz⟩ : ∃ sz, sz = sb.size := ⟨_, rfl⟩
            clear hN hV hV8 hx hy q1 q2 q3 q4 hul hun hS2 hS3 hsb hr HX1 hall2
            go_wp2_with fail
            refine ph.mono ?_
            rintro e w5 ⟨rfl, b5⟩
            have how5 := how.below b5
            have hb5 := hbe.trans (b5.mono hgr)
            have hg5 : g ≤ w5.heap.size := Nat.le_trans hgr b5.size
            clear ph how hbe
            go_wp2_with (at_builtin; refine wpl_push_ow rfl _ _ _ rfl g i0 _ 1 1 Tryz.underlying22 hi0 hz0 hz1 hz2 rfl (by omega) _ _ _ rfl _ rfl how5 rfl (by simp [Value.oneCell']) (by unfold maxLen; simp only [List.length_cons] at hlen2; omega) (by simp only [List.length_cons] at hlen2; omega) hg5 ?_; intro v1 w7 x3 x4 x5 x6)
            go_roundw
            case rel =>
              obtain ⟨A3, c3, rfl, -⟩ := x3.shape
              refine ⟨r', done ++ [UInt8.ofNat (16 * x + y)], l, A3, c3, n + 1, by rw [HS3.out], rfl, by rw [List.length_append, HNN.out]; rfl, hl, by rw [← HDB.out]; simp, ?_, hb5.trans x4⟩
              have e1 : bcells (done ++ [UInt8.ofNat (16 * x + y)]) = bcells done ++ [Value.int .u8 (V : Int)] := by unfold bcells; rw [List.map_append]; simp only [List.map_cons, List.map_nil]; rw [HV.out]
              rw [e1]; exact x3
            case measure => simp only; rw [HS3.out]; rw [hss]; simp [ByteArray.size]
      · have hn : Scr.unhexB t = none := unhexB_none t (.inr (by
          apply Classical.byContradiction
          intro hc
          refine hall (htt.trans ((trimS_nil t hexDigs).2 fun c hm => ?_))
          rw [digs_is]
          rcases hv : Scr.hexVal c with _ | v
          · exact absurd ⟨c, hm, hv⟩ hc
          · rfl))
        have hne : ((⟨tt.toArray⟩ : ByteArray).toList == []) = false := by
          rw [ByteArray.toList_eq, beq_eq_false_iff_ne]; exact hall
        obtain ⟨bx, hbx⟩ : ∃ bx : ByteArray, bx = ⟨tt.toArray⟩ := ⟨_, rfl⟩
        rw [← hbx] at hne
        simp only [← hbx] at tm
        have HN := hide hn
        clear fin2 hev hn htt hall hbx hmm ha128
        go_enter Tryz.func47, Tryz.ntmps47
        go_wp2_with fail
        refine (cp w).mono ?_
        rintro e w2 ⟨rfl, rfl⟩
        clear cp
        go_wp2_with fail
        refine (tm w2).mono ?_
        rintro e w3 ⟨rfl, b3⟩
        clear tm
        go_wp2_with fail
        go_ret2
        exact fin.out HN.out _ b3
    · have hn : Scr.unhexB t = none := unhexB_none t (.inl (by rw [← hmm]; exact hev))
      have hm : (((m : Int)) % 2 != 0) = true := by
        simp; omega
      have HN := hide hn
      clear fin2 hev hn hmm ha128
      go_enter Tryz.func47, Tryz.ntmps47
      go_wp2_with fail
      refine (cp w).mono ?_
      rintro e w2 ⟨rfl, rfl⟩
      clear cp
      go_wp2_with fail
      go_ret2
      exact fin.out HN.out _ (Below.refl _ _)
  · have e1 : Lib.hasPrefix (⟨s.toArray⟩ : ByteArray).data.toList (⟨#[120]⟩ : ByteArray).data.toList = false := h1
    have e2 : Lib.trimPrefix (⟨s.toArray⟩ : ByteArray).data.toList (⟨#[120]⟩ : ByteArray).data.toList = s := h2
    simp only [e1, e2] at cp
    have H3 := hide h3
    clear e1 e2 h1 h2 h3 fin2
    obtain ⟨bs, hbs⟩ : ∃ bs : ByteArray, bs = ⟨s.toArray⟩ := ⟨_, rfl⟩
    rw [← hbs] at cp ⊢
    have HB := hide hbs
    clear hbs
    go_enter Tryz.func47, Tryz.ntmps47
    go_wp2_with fail
    refine (cp w).mono ?_
    rintro e w2 ⟨rfl, rfl⟩
    clear cp
    go_wp2_with fail
    go_ret2
    exact fin.out H3.out _ (Below.refl _ _)
end Go.Proofs.YtbplnglmjcmfiaaGreatDoor
