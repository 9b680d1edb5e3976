/- FieldSplits returns true for any string. -/
import Derived.Test.YtijlaclngibekaaGreatDoorKTrimG
import Derived.Test.YtijlaclngibekaaGreatDoorKTextsG
import Derived.Deep.LoopGhost
import Derived.Lib.SliceRun
import Derived.Deep.QuietTactic
import Derived.BigQuiet
namespace Go.Proofs.YtijlaclngibekaaGreatDoor.FieldSplitsP
open Go.RowKit

theorem dropWhile_first {p : UInt8 → Bool} : ∀ l : List UInt8, l.dropWhile p = [] ∨ ∃ a, (l.dropWhile p).head? = some a ∧ p a = false
  | [] => .inl rfl
  | x :: l => by
    rw [List.dropWhile_cons]
    by_cases h : p x = true
    · rw [if_pos h]; exact dropWhile_first l
    · rw [if_neg h]; exact .inr ⟨x, rfl, by simpa using h⟩
theorem dropWhile_last {p : UInt8 → Bool} : ∀ l : List UInt8, l.dropWhile p = [] ∨ (l.dropWhile p).getLast? = l.getLast?
  | [] => .inl rfl
  | x :: l => by
    rw [List.dropWhile_cons]
    by_cases h : p x = true
    · rw [if_pos h]
      rcases dropWhile_last (p := p) l with h1 | h1
      · exact .inl h1
      · by_cases h2 : l.dropWhile p = []
        · exact .inl h2
        · right
          rw [h1]
          cases l with
          | nil => simp at h2
          | cons y l => simp [List.getLast?_cons]
    · rw [if_neg h]; exact .inr rfl
theorem trim_idem (y : List UInt8) : trimL (trimL y) = trimL y := by
  have h1 : trimL y = [] ∨ ∃ a, (trimL y).head? = some a ∧ blankB a = false := dropWhile_first (p := blankB) _
  have h2 : trimL y = [] ∨ ∃ a, (trimL y).getLast? = some a ∧ blankB a = false := by
    rcases dropWhile_last (p := blankB) (Lib.trimRightS y [32, 9]) with h | h
    · exact .inl h
    · rcases dropWhile_first (p := blankB) y.reverse with h3 | ⟨a, h3, h4⟩
      · left
        have : Lib.trimRightS y [32, 9] = [] := by show (y.reverse.dropWhile blankB).reverse = []; rw [h3]; rfl
        show (Lib.trimRightS y [32, 9]).dropWhile blankB = []
        rw [this]; rfl
      · right
        refine ⟨a, ?_, h4⟩
        show ((Lib.trimRightS y [32, 9]).dropWhile blankB).getLast? = some a
        rw [h]
        show ((y.reverse.dropWhile blankB).reverse).getLast? = some a
        rw [List.getLast?_reverse, h3]
  have := trim_mid [] (trimL y) [] rfl rfl h1 h2
  simpa using this
theorem trimL_length (l : List UInt8) : (trimL l).length ≤ l.length := by
  show ((Lib.trimRightS l [32, 9]).dropWhile blankB).length ≤ _
  have h1 : ∀ (p : UInt8 → Bool) (m : List UInt8), (m.dropWhile p).length ≤ m.length := fun p m => (List.dropWhile_suffix p).length_le
  refine Nat.le_trans (h1 _ _) ?_
  show ((l.reverse.dropWhile blankB).reverse).length ≤ _
  rw [List.length_reverse]
  refine Nat.le_trans (h1 _ _) ?_
  simp
theorem piece_mem {l x : List UInt8} (h : x ∈ pieceL l) : x.length ≤ l.length := by
  unfold pieceL at h
  split at h
  · simp at h
  · simp at h; subst h; exact trimL_length l
theorem split_mem : ∀ (n : Nat) (l : List UInt8), l.length ≤ n → ∀ x ∈ splitL l, x.length ≤ l.length
  | n, l, h, x, hx => by
    by_cases hc : cutL false l < l.length
    · rw [splitL_step l hc, List.mem_append] at hx
      rcases hx with hx | hx
      · exact Nat.le_trans (piece_mem hx) (by simp; omega)
      · match n with
        | 0 => omega
        | n + 1 => exact Nat.le_trans (split_mem n _ (by simp; omega) x hx) (by simp)
    · rw [splitL_last l hc] at hx; exact piece_mem hx

end Go.Proofs.YtijlaclngibekaaGreatDoor.FieldSplitsP

/- The reference's All; Has of both. -/
namespace Go.Proofs.YtijlaclngibekaaGreatDoor
open Go.RowKit

def hasM (ss : List (List UInt8)) (m : List UInt8) : Bool := ss.any fun s => sameL s m
def hasV (vs : List (List UInt8)) (m : List UInt8) : Bool := vs.any fun v => hasM (splitL v) m
def hasL (fs : List (List UInt8 × List UInt8)) (name m : List UInt8) : Bool := hasV (getL fs name) m
def allV (vs : List (List UInt8)) : List (List UInt8) := vs.flatMap splitL
def allL (fs : List (List UInt8 × List UInt8)) (name : List UInt8) : List (List UInt8) := allV (getL fs name)
theorem hasM_snoc (ss : List (List UInt8)) (m : List UInt8) (k : Nat) (h : k < ss.length) : hasM (ss.take (k + 1)) m = (hasM (ss.take k) m || sameL ss[k] m) := by
  unfold hasM; rw [list_take_snoc ss k h, List.any_append, List.any_cons, List.any_nil, Bool.or_false]
theorem hasM_of (ss : List (List UInt8)) (m : List UInt8) (k : Nat) (h : k < ss.length) (hs : sameL ss[k] m = true) : hasM ss m = true := by
  unfold hasM; rw [List.any_eq_true]; exact ⟨_, List.getElem_mem h, hs⟩
theorem hasV_snoc (ss : List (List UInt8)) (m : List UInt8) (k : Nat) (h : k < ss.length) : hasV (ss.take (k + 1)) m = (hasV (ss.take k) m || hasM (splitL ss[k]) m) := by
  unfold hasV; rw [list_take_snoc ss k h, List.any_append, List.any_cons, List.any_nil, Bool.or_false]
theorem hasV_of (ss : List (List UInt8)) (m : List UInt8) (k : Nat) (h : k < ss.length) (hs : hasM (splitL ss[k]) m = true) : hasV ss m = true := by
  unfold hasV; rw [List.any_eq_true]; exact ⟨_, List.getElem_mem h, hs⟩
theorem hasM_all (vs : List (List UInt8)) (m : List UInt8) : hasM (allV vs) m = hasV vs m := by
  unfold hasM allV hasV; rw [List.any_flatMap]; rfl
theorem allV_snoc (vs : List (List UInt8)) (k : Nat) (h : k < vs.length) : allV (vs.take (k + 1)) = allV (vs.take k) ++ splitL vs[k] := by
  unfold allV; rw [list_take_snoc vs k h, List.flatMap_append, List.flatMap_cons, List.flatMap_nil, List.append_nil]
theorem allV_len : ∀ (vs : List (List UInt8)), (∀ v ∈ vs, v.length ≤ 1000000) → (allV vs).length ≤ vs.length * 1000001
  | [], _ => by simp [allV]
  | v :: vs, h => by
    have h1 := split_length v
    have h2 := h v (by simp)
    have h3 := allV_len vs fun x hx => h x (by simp [hx])
    have : allV (v :: vs) = splitL v ++ allV vs := by simp [allV]
    rw [this, List.length_append, List.length_cons]; omega
theorem allV_mem (vs : List (List UInt8)) (h : ∀ v ∈ vs, v.length ≤ 1000000) : ∀ x ∈ allV vs, x.length ≤ 1000000 := by
  intro x hx
  obtain ⟨v, hv, hxv⟩ := List.mem_flatMap.1 hx
  exact Nat.le_trans (FieldSplitsP.split_mem _ _ (Nat.le_refl _) x hxv) (h v hv)
theorem getL_mem {fs : List (List UInt8 × List UInt8)} (h : fsOk fs) (name : List UInt8) : ∀ v ∈ getL fs name, v.length ≤ 1000000 := by
  intro v hv
  unfold getL at hv
  obtain ⟨f, hf, rfl⟩ := List.mem_map.1 hv
  exact (h f (List.mem_filter.1 hf).1).2

set_option maxRecDepth 100000 in
set_option maxHeartbeats 3200000 in
theorem all_any (A : Option Addr) (n c B : Nat) (fs : List (List UInt8 × List UInt8)) (name : ByteArray) (w : World) (h : Rd w B 2 A n (fcells fs)) (hB : B ≤ w.heap.size) (hn : n ≤ 1000) (hok : fsOk fs) (hname : name.size ≤ 1000000) :
    Calls Tryz.prog 45 #[.slice A n c, .string name] w fun e w' => ∃ A' c', e = .returned (.slice A' (allL fs name.data.toList).length c') ∧
      w'.ownsRow w.heap.size 9 1 (.slice A' (allL fs name.data.toList).length c') (allL fs name.data.toList).length (scells (allL fs name.data.toList)) ∧ (allL fs name.data.toList).length ≤ c' ∧ Below w.heap.size w w' := by
  obtain ⟨i0, hi0, hz0, hz1, hz2⟩ := info_parts infoStr
  have hg := refget_any A n c B fs name w h hB (by omega) hok hname
  have hmem := getL_mem hok name.data.toList
  have hvl := getL_len fs name.data.toList
  have hfl := h.flen
  rw [hfl] at hvl
  unfold allL
  obtain ⟨vs, hvs⟩ : ∃ vs, vs = getL fs name.data.toList := ⟨_, rfl⟩
  rw [← hvs] at hg hmem hvl ⊢
  have HM := hide hmem
  clear hmem hfl h hok hvs
  go_enter Tryz.func45, Tryz.ntmps45
  go_wp2_with fail
  refine hg.mono ?_
  rintro e w1 ⟨A1, c1, rfl, o1, hc1, b1⟩
  have r1 := Rd.of_own o1
  clear o1
  go_wp2_with fail
  go_loopw [5, 7] (fun o i wr => ∃ k : Nat, k ≤ vs.length ∧ i = .int .i64 k ∧ wr.ownsRow w1.heap.size 9 1 o (allV (vs.take k)).length (scells (allV (vs.take k))) ∧ Below w1.heap.size w1 wr) (fun _ i _ => vs.length - (intOf i).toNat)
  case atStart => exact ⟨0, Nat.zero_le _, rfl, World.ownsRow_nil _ _ _ _, Below.refl _ _⟩
  case round =>
    obtain ⟨k, hk, rfl, ho, hb⟩ := hrel
    by_cases hlt : k < vs.length
    · obtain ⟨a, rfl, -, hcell⟩ := (r1.below hb).text hlt hlt
      have hsn := allV_snoc vs k hlt
      have hal := allV_len (vs.take k) fun v hv => HM.out v (List.mem_of_mem_take hv)
      rw [List.length_take, Nat.min_eq_left hk] at hal
      have hxs := HM.out vs[k] (List.getElem_mem hlt)
      have hbz := hb.size
      obtain ⟨x, hx⟩ : ∃ x, x = vs[k] := ⟨_, rfl⟩
      rw [← hx] at hcell hsn hxs
      have hs := fun w => refsplit_any ⟨x.toArray⟩ w (by rw [mk_size]; omega)
      rw [mk_list] at hs
      have hsl := split_length x
      obtain ⟨ys, hys⟩ : ∃ ys, ys = splitL x := ⟨_, rfl⟩
      rw [← hys] at hs hsn hsl
      obtain ⟨gk, hgk⟩ : ∃ gk, gk = allV (vs.take k) := ⟨_, rfl⟩
      rw [← hgk] at hsn hal ho
      obtain ⟨sx, hsx⟩ : ∃ sx : ByteArray, sx = ⟨x.toArray⟩ := ⟨_, rfl⟩
      rw [← hsx] at hcell hs
      have HS := hide hsn
      clear hsn hx hys hgk hsx
      go_wp2_with fail
      refine (hs _).mono ?_
      rintro e w2 ⟨A2, c2, rfl, o2, hc2, b2⟩
      have r2 := Rd.of_own o2
      have ho2 := own_below ho b2
      have hb2 := hb.trans (b2.mono hbz)
      have hb2z := hb2.size
      clear o2 hs ho
      go_wp2_with (at_builtin; refine wpl_append _ rfl _ _ _ rfl w1.heap.size _ i0 _ 1 16 Tryz.underlying23 hi0 hz0 hz1 hz2 rfl (by omega) _ _ _ rfl _ _ _ _ _ rfl ho2 r2 (scells_one ys) (by simp [maxLen]; omega) (by omega) hb2z ?_; intro v1 w3 hown1 hbel1 _)
      go_roundw
      case rel => exact ⟨k + 1, by omega, by go_num, by rw [HS.out, List.length_append, ← scells_append]; exact hown1, hb2.trans hbel1⟩
      case measure => simp [intOf]; omega
    · rw [List.take_of_length_le (by omega)] at ho
      go_wp2
      go_ret
      obtain ⟨A', c', rfl, hc', -⟩ := own_shape ho
      exact ⟨A', c', rfl, own_base ho b1.size, hc', b1.trans (hb.mono b1.size)⟩

set_option maxRecDepth 100000 in
set_option maxHeartbeats 3200000 in
theorem has_any (A : Option Addr) (n c B : Nat) (fs : List (List UInt8 × List UInt8)) (name m : ByteArray) (w : World) (h : Rd w B 2 A n (fcells fs)) (hB : B ≤ w.heap.size) (hn : n ≤ 1000000) (hok : fsOk fs) (hname : name.size ≤ 1000000) (hm : m.size ≤ 1000000) :
    Calls Tryz.prog 144 #[.slice A n c, .string name, .string m] w fun e w' => e = .returned (.bool (hasL fs name.data.toList m.data.toList)) ∧ Below w.heap.size w w' := by
  have hg := get_any A n c B fs name w h hB hn hok hname
  have hmem := getL_mem hok name.data.toList
  have hvl := getL_len fs name.data.toList
  have hfl := h.flen
  rw [hfl] at hvl
  unfold hasL
  obtain ⟨vs, hvs⟩ : ∃ vs, vs = getL fs name.data.toList := ⟨_, rfl⟩
  rw [← hvs] at hg hmem hvl ⊢
  have HM := hide hmem
  clear hmem hfl h hok hvs
  go_enter Tryz.func144, Tryz.ntmps144
  go_wp2_with fail
  refine hg.mono ?_
  rintro e w1 ⟨A1, c1, rfl, o1, hc1, b1⟩
  have r1 := Rd.of_own o1
  clear o1
  go_wp2_with fail
  go_loopw [15] (fun i wr => ∃ k : Nat, k ≤ vs.length ∧ i = .int .i64 k ∧ hasV (vs.take k) m.data.toList = false ∧ Below w1.heap.size w1 wr) (fun i _ => vs.length - (intOf i).toNat)
  case atStart => exact ⟨0, Nat.zero_le _, rfl, rfl, Below.refl _ _⟩
  case round =>
    obtain ⟨k, hk, rfl, ht, hb⟩ := hrel
    by_cases hlt : k < vs.length
    · obtain ⟨a, rfl, -, hcell⟩ := (r1.below hb).text hlt hlt
      have hsn := hasV_snoc vs m.data.toList k hlt
      have hof := hasV_of vs m.data.toList k hlt
      rw [ht] at hsn
      have hxs := HM.out vs[k] (List.getElem_mem hlt)
      have hbz := hb.size
      obtain ⟨x, hx⟩ : ∃ x, x = vs[k] := ⟨_, rfl⟩
      rw [← hx] at hcell hsn hxs hof
      have hs := fun w => split_any ⟨x.toArray⟩ w (by rw [mk_size]; omega)
      rw [mk_list] at hs
      have hsl := split_length x
      have hsm := FieldSplitsP.split_mem _ x (Nat.le_refl _)
      obtain ⟨ys, hys⟩ : ∃ ys, ys = splitL x := ⟨_, rfl⟩
      rw [← hys] at hs hsn hsl hsm hof
      obtain ⟨sx, hsx⟩ : ∃ sx : ByteArray, sx = ⟨x.toArray⟩ := ⟨_, rfl⟩
      rw [← hsx] at hcell hs
      have HS := hide hsn
      have HO := hide hof
      have HSM := hide hsm
      clear hsn hx hys hsx hof hsm ht
      go_wp2_with fail
      refine (hs _).mono ?_
      rintro e w2 ⟨A2, c2, rfl, o2, hc2, b2⟩
      have r2 := Rd.of_own o2
      have hb2 := hb.trans (b2.mono hbz)
      have hb2z := hb2.size
      clear o2 hs
      go_wp2_with fail
      go_loopw [22] (fun i wq => ∃ j : Nat, j ≤ ys.length ∧ i = .int .i64 j ∧ hasM (ys.take j) m.data.toList = false ∧ Below w2.heap.size w2 wq) (fun i _ => ys.length - (intOf i).toNat)
      case atStart => exact ⟨0, Nat.zero_le _, rfl, rfl, Below.refl _ _⟩
      case round =>
        obtain ⟨j, hj, rfl, htj, hbj⟩ := hrel
        by_cases hjt : j < ys.length
        · obtain ⟨a2, rfl, -, hcell2⟩ := (r2.below hbj).text hjt hjt
          have hsn2 := hasM_snoc ys m.data.toList j hjt
          have hof2 := hasM_of ys m.data.toList j hjt
          rw [htj] at hsn2
          have hys2 := HSM.out ys[j] (List.getElem_mem hjt)
          have hbjz := hbj.size
          obtain ⟨y, hy⟩ : ∃ y, y = ys[j] := ⟨_, rfl⟩
          rw [← hy] at hcell2 hsn2 hys2 hof2
          have hsame := fun w => fieldsame_any ⟨y.toArray⟩ m w (by rw [mk_size]; omega) (by omega)
          rw [mk_list] at hsame
          obtain ⟨sy, hsy⟩ : ∃ sy : ByteArray, sy = ⟨y.toArray⟩ := ⟨_, rfl⟩
          rw [← hsy] at hcell2 hsame
          clear hy hsy htj hcell
          rcases hcase : sameL y m.data.toList with _ | _
          · rw [hcase] at hsame hsn2
            have HS2 := hide hsn2
            clear hcase hof2 hsn2
            go_wp2_with fail
            refine (hsame _).mono ?_
            rintro e w3 ⟨rfl, b3⟩
            go_wp2
            go_roundw
            case rel => exact ⟨j + 1, by omega, by go_num, HS2.out, hbj.trans (b3.mono hbjz)⟩
            case measure => simp [intOf]; omega
          · rw [hcase] at hsame
            have HF := hide (HO.out (hof2 hcase))
            clear hcase hof2 hsn2
            go_wp2_with fail
            refine (hsame _).mono ?_
            rintro e w3 ⟨rfl, b3⟩
            go_wp2
            go_ret
            have hq := hb2.trans ((hbj.trans (b3.mono hbjz)).mono hb2z)
            exact ⟨ret_bool HF.out.symm, b1.trans (hq.mono b1.size)⟩
        · rw [List.take_of_length_le (by omega)] at htj
          have hfin := HS.out
          rw [htj] at hfin
          have HFin := hide hfin
          clear htj hfin hcell
          go_wp2
          go_roundw
          case rel => exact ⟨k + 1, by omega, by go_num, HFin.out, hb2.trans (hbj.mono hb2z)⟩
          case measure => simp [intOf]; omega
    · rw [List.take_of_length_le (by omega)] at ht
      have HT := hide ht
      clear ht
      go_wp2
      go_ret
      exact ⟨ret_bool HT.out.symm, b1.trans (hb.mono b1.size)⟩
end Go.Proofs.YtijlaclngibekaaGreatDoor

/- concertinalaw16.light: are fields not too many, and not too long? -/
namespace Go.Proofs.YtijlaclngibekaaGreatDoor
open Go.RowKit

def okF (f : List UInt8 × List UInt8) : Bool := decide (f.1.length ≤ 600) && decide (f.2.length ≤ 6000)
def lightB (fs : List (List UInt8 × List UInt8)) : Bool := fs.all okF
def lightL (fs : List (List UInt8 × List UInt8)) : Bool := lightB fs && decide (fs.length ≤ 100)
theorem lightB_snoc (fs : List (List UInt8 × List UInt8)) (k : Nat) (h : k < fs.length) : lightB (fs.take (k + 1)) = (lightB (fs.take k) && okF fs[k]) := by
  unfold lightB; rw [list_take_snoc fs k h, List.all_append, List.all_cons, List.all_nil, Bool.and_true]
theorem lightL_of (fs : List (List UInt8 × List UInt8)) (k : Nat) (h : k < fs.length) (hs : okF fs[k] = false) : lightL fs = false := by
  unfold lightL lightB
  rw [Bool.and_eq_false_iff]
  left
  rw [List.all_eq_false]
  exact ⟨_, List.getElem_mem h, by rw [hs]; simp⟩
theorem lightL_ok {fs : List (List UInt8 × List UInt8)} (h : lightL fs = true) : fsOk fs ∧ fs.length ≤ 100 ∧ ∀ f ∈ fs, f.1.length ≤ 600 ∧ f.2.length ≤ 6000 := by
  unfold lightL lightB at h
  simp only [Bool.and_eq_true, decide_eq_true_eq, List.all_eq_true, okF] at h
  refine ⟨fun f hf => ?_, h.2, h.1⟩
  have := h.1 f hf
  omega

end Go.Proofs.YtijlaclngibekaaGreatDoor
/- The reference's Drop and Set; field.Set; SameFields. -/
namespace Go.Proofs.YtijlaclngibekaaGreatDoor
open Go.RowKit

theorem infoFld : (Tryz.prog.info? 110).map (fun i => (i.zero, i.size, i.bytes)) = some (some (.agg #[.string ByteArray.empty, .string ByteArray.empty]), 2, 32) := by kernel_rfl
/-- Without a name's fields. -/
def dropL (fs : List (List UInt8 × List UInt8)) (name : List UInt8) : List (List UInt8 × List UInt8) := fs.filter fun f => !sameL f.1 name
theorem dropL_snoc (fs : List (List UInt8 × List UInt8)) (name : List UInt8) (k : Nat) (h : k < fs.length) : dropL (fs.take (k + 1)) name = dropL (fs.take k) name ++ if sameL fs[k].1 name then [] else [fs[k]] := by
  unfold dropL
  rw [list_take_snoc fs k h, List.filter_append]
  congr 1
  by_cases hs : sameL fs[k].1 name = true
  · rw [if_pos hs]; simp [hs]
  · rw [if_neg hs]; simp [hs]
theorem dropL_len (fs : List (List UInt8 × List UInt8)) (name : List UInt8) : (dropL fs name).length ≤ fs.length := by unfold dropL; exact List.length_filter_le _ _
/-- One field of a name: what is laid by now, and whether it has come. -/
def setGo (name value : List UInt8) (fs : List (List UInt8 × List UInt8)) : List (List UInt8 × List UInt8) × Bool :=
  fs.foldl (fun st f => if sameL f.1 name then (if st.2 then st else (st.1 ++ [(f.1, value)], true)) else (st.1 ++ [f], st.2)) ([], false)
def setL (fs : List (List UInt8 × List UInt8)) (name value : List UInt8) : List (List UInt8 × List UInt8) := if (setGo name value fs).2 then (setGo name value fs).1 else (setGo name value fs).1 ++ [(name, value)]
theorem setGo_snoc (name value : List UInt8) (fs : List (List UInt8 × List UInt8)) (k : Nat) (h : k < fs.length) : setGo name value (fs.take (k + 1)) =
    if sameL fs[k].1 name then (if (setGo name value (fs.take k)).2 then setGo name value (fs.take k) else ((setGo name value (fs.take k)).1 ++ [(fs[k].1, value)], true)) else ((setGo name value (fs.take k)).1 ++ [fs[k]], (setGo name value (fs.take k)).2) := by
  conv => lhs; unfold setGo
  rw [list_take_snoc fs k h, List.foldl_append]; rfl
theorem setGo_len (name value : List UInt8) (fs : List (List UInt8 × List UInt8)) : ∀ k, k ≤ fs.length → (setGo name value (fs.take k)).1.length ≤ k
  | 0, _ => by simp [setGo]
  | k + 1, h => by
    have ih := setGo_len name value fs k (by omega)
    rw [setGo_snoc name value fs k (by omega)]
    split
    · split
      · omega
      · simp; omega
    · simp; omega

end Go.Proofs.YtijlaclngibekaaGreatDoor

/- The reference's Set; field.Set. -/
namespace Go.Proofs.YtijlaclngibekaaGreatDoor
open Go.RowKit

set_option maxRecDepth 100000 in
set_option maxHeartbeats 3200000 in
theorem set_any (A : Option Addr) (n c B : Nat) (fs : List (List UInt8 × List UInt8)) (name value : ByteArray) (w : World) (h : Rd w B 2 A n (fcells fs)) (hB : B ≤ w.heap.size) (hn : n ≤ 1000000) (hok : fsOk fs) (hname : name.size ≤ 1000000) :
    Calls Tryz.prog 251 #[.slice A n c, .string name, .string value] w fun e w' => ∃ A' c', e = .returned (.slice A' (setL fs name.data.toList value.data.toList).length c') ∧
      w'.ownsRow w.heap.size 110 2 (.slice A' (setL fs name.data.toList value.data.toList).length c') (setL fs name.data.toList value.data.toList).length (fcells (setL fs name.data.toList value.data.toList)) ∧ (setL fs name.data.toList value.data.toList).length ≤ c' ∧ Below w.heap.size w w' := by
  obtain ⟨i0, hi0, hz0, hz1, hz2⟩ := info_parts infoFld
  have hlen := h.flen
  have HLEN := hide hlen
  have hle : n ≤ fs.length := by omega
  clear hlen
  go_enter Tryz.func251, Tryz.ntmps251
  go_wp2_with fail
  go_loopw [7, 8, 13] (fun o dn i wr => ∃ (k : Nat) (d : Bool) (gk : List (List UInt8 × List UInt8)), k ≤ n ∧ i = .int .i64 k ∧ dn = .bool d ∧ setGo name.data.toList value.data.toList (fs.take k) = (gk, d) ∧ wr.ownsRow w.heap.size 110 2 o gk.length (fcells gk) ∧ Below w.heap.size w wr) (fun _ _ i _ => n - (intOf i).toNat)
  case atStart => exact ⟨0, false, [], Nat.zero_le _, rfl, rfl, rfl, World.ownsRow_nil _ _ _ _, Below.refl _ _⟩
  case round =>
    obtain ⟨k, d, gk, hk, rfl, rfl, hgo, ho, hb⟩ := hrel
    have hgl := setGo_len name.data.toList value.data.toList fs k (by omega)
    rw [hgo] at hgl
    have hgl' : gk.length ≤ 1000000 := by have : gk.length ≤ k := hgl; omega
    have hbz := hb.size
    by_cases hlt : k < n
    · have hkl : k < fs.length := by omega
      obtain ⟨b, off, rfl, hbB, e0, e1⟩ := (h.below (hb.mono hB)).fld hlt hkl
      have hgs := setGo_snoc name.data.toList value.data.toList fs k hkl
      rw [hgo] at hgs
      obtain ⟨hs1, hs2⟩ := hok fs[k] (List.getElem_mem hkl)
      obtain ⟨x, hx⟩ : ∃ x, x = fs[k] := ⟨_, rfl⟩
      rw [← hx] at e0 e1 hgs hs1 hs2
      have hsm := fun w => fieldsame_any ⟨x.1.toArray⟩ name w (by rw [mk_size]; omega) (by omega)
      rw [mk_list] at hsm
      obtain ⟨sx, hsx⟩ : ∃ sx : ByteArray, sx = ⟨x.1.toArray⟩ := ⟨_, rfl⟩
      obtain ⟨sv, hsv⟩ : ∃ sv : ByteArray, sv = ⟨x.2.toArray⟩ := ⟨_, rfl⟩
      have hsv2 : sv.data.toList = x.2 := by rw [hsv]
      have hsx2 : sx.data.toList = x.1 := by rw [hsx]
      have HSV := hide hsv2
      have HSX := hide hsx2
      rw [← hsx] at e0 hsm
      rw [← hsv] at e1
      have HG := hide hgs
      clear hgs hx hsx hsv hgl hs1 hs2 hsv2 hsx2 hgo
      have hbB' : b < w.heap.size := by omega
      have hbr : b < wr.heap.size := by omega
      rcases hcase : sameL x.1 name.data.toList with _ | _
      · rw [hcase] at hsm
        have HC := hide hcase
        clear hcase
        go_wp2_with fail
        refine (hsm _).mono ?_
        rintro e w3 ⟨rfl, b3⟩
        have ho3 := own_below (ho.alloc _) b3
        have hb3 := (hb.alloc hbz _).trans (b3.mono (by simp; omega))
        have hb3z := hb3.size
        have e30 := new_kept (i := 0) b3 (by simp) rfl
        have e31 := new_kept (i := 1) b3 (by simp) rfl
        clear e1 e0
        go_wp2_with (at_builtin; refine wpl_push rfl _ _ _ rfl w.heap.size i0 _ 2 32 Tryz.underlying44 hi0 hz0 hz1 hz2 rfl (by omega) _ _ _ rfl _ rfl ho3 rfl (by simp [Value.oneCell']) (by unfold maxLen; omega) (by omega) hb3z ?_; intro v1 w4 hown1 hbel1 _)
        go_roundw
        case rel => exact ⟨k + 1, d, gk ++ [x], by omega, by go_num, rfl, by rw [HG.out, HC.out, if_neg (by simp)], by rw [List.length_append]; exact own_snoc_fld hown1 HSX.out HSV.out, hb3.trans hbel1⟩
        case measure => simp [intOf]; omega
      · rw [hcase] at hsm
        have HC := hide hcase
        clear hcase
        cases d
        · have hxv : setGo name.data.toList value.data.toList (fs.take (k + 1)) = (gk ++ [(x.1, value.data.toList)], true) := by rw [HG.out, HC.out, if_pos rfl, if_neg (by simp)]
          have HXV := hide hxv
          clear hxv
          go_wp2_with fail
          refine (hsm _).mono ?_
          rintro e w3 ⟨rfl, b3⟩
          have ho3 := own_below (ho.alloc _) b3
          have hb3 := (hb.alloc hbz _).trans (b3.mono (by simp; omega))
          have hb3z := hb3.size
          have e30 := new_kept (i := 0) b3 (by simp) rfl
          have e31 := new_kept (i := 1) b3 (by simp) rfl
          clear e1 e0
          go_wp2_with (at_builtin; refine wpl_push rfl _ _ _ rfl w.heap.size i0 _ 2 32 Tryz.underlying44 hi0 hz0 hz1 hz2 rfl (by omega) _ _ _ rfl _ rfl ho3 rfl (by simp [Value.oneCell']) (by unfold maxLen; omega) (by omega) hb3z ?_; intro v1 w4 hown1 hbel1 _)
          go_roundw
          case rel => exact ⟨k + 1, true, _, by omega, by go_num, rfl, HXV.out, by rw [List.length_append]; exact own_snoc_fld hown1 HSX.out rfl, hb3.trans hbel1⟩
          case measure => simp [intOf]; omega
        · have hxv : setGo name.data.toList value.data.toList (fs.take (k + 1)) = (gk, true) := by rw [HG.out, HC.out, if_pos rfl, if_pos rfl]
          have HXV := hide hxv
          clear hxv
          go_wp2_with fail
          refine (hsm _).mono ?_
          rintro e w3 ⟨rfl, b3⟩
          have ho3 := own_below (ho.alloc _) b3
          have hb3 := (hb.alloc hbz _).trans (b3.mono (by simp; omega))
          have hb3z := hb3.size
          have e30 := new_kept (i := 0) b3 (by simp) rfl
          have e31 := new_kept (i := 1) b3 (by simp) rfl
          clear e1 e0
          go_wp2
          go_roundw
          case rel => exact ⟨k + 1, true, gk, by omega, by go_num, rfl, HXV.out, ho3, hb3⟩
          case measure => simp [intOf]; omega
    · have hfin : setGo name.data.toList value.data.toList fs = (gk, d) := by have hL := HLEN.out; rw [← hgo, List.take_of_length_le (by omega)]
      have hset : setL fs name.data.toList value.data.toList = if d then gk else gk ++ [(name.data.toList, value.data.toList)] := by unfold setL; rw [hfin]
      have HSET := hide hset
      clear hfin hset hgo
      cases d
      · go_wp2_with (at_builtin; refine wpl_push rfl _ _ _ rfl w.heap.size i0 _ 2 32 Tryz.underlying44 hi0 hz0 hz1 hz2 rfl (by omega) _ _ _ rfl _ rfl ho rfl (by simp [Value.oneCell']) (by unfold maxLen; omega) (by omega) hbz ?_; intro v1 w4 hown1 hbel1 _)
        go_ret
        rw [HSET.out, if_neg (by simp)]
        have hfo := own_snoc_fld (f := (name.data.toList, value.data.toList)) hown1 rfl rfl
        have hl1 : (gk ++ [(name.data.toList, value.data.toList)]).length = gk.length + 1 := by simp
        rw [hl1]
        obtain ⟨A', c', rfl, hc', -⟩ := own_shape hfo
        exact ⟨A', c', rfl, hfo, hc', hb.trans hbel1⟩
      · go_wp2
        go_ret
        rw [HSET.out, if_pos (by simp)]
        obtain ⟨A', c', rfl, hc', -⟩ := own_shape ho
        exact ⟨A', c', rfl, ho, hc', hb⟩

end Go.Proofs.YtijlaclngibekaaGreatDoor
/- field.Drop: slices.Clone, slices.IndexFunc, slices.DeleteFunc with the closure of field.named. -/
namespace Go.Proofs.YtijlaclngibekaaGreatDoor
open Go.RowKit

set_option maxRecDepth 100000 in
theorem named_any (name : ByteArray) (w : World) :
    Calls Tryz.prog 237 #[.string name] w fun e w' => e = .returned (.func (Fn.func 271) #[] #[.pointer (some ⟨w.heap.size, 0, none⟩)]) ∧ w' = w.alloc (.cells #[.string name] 9) := by
  go_enter Tryz.func237, Tryz.ntmps237
  go_wp2
  go_ret
  exact ⟨rfl, rfl⟩

set_option maxRecDepth 100000 in
set_option maxHeartbeats 1600000 in
theorem clos_any (sx sv name : ByteArray) (g : Nat) (w : World) (hc : w.cell? ⟨g, 0, none⟩ = some (.string name)) (hx : sx.size ≤ 1000000) (hn : name.size ≤ 1000000) :
    Calls Tryz.prog 271 #[.agg #[.string sx, .string sv], .pointer (some ⟨g, 0, none⟩)] w fun e w' => e = .returned (.bool (sameL sx.data.toList name.data.toList)) ∧ Below w.heap.size w w' := by
  have hg : g < w.heap.size := World.block_lt_of_cell? w _ hc
  have hc2 := (World.cell?_alloc_lt w (.cells #[.string sx, .string sv] 110) ⟨g, 0, none⟩ hg).trans hc
  have hsm := fun w => fieldsame_any sx name w (by omega) (by omega)
  go_enter Tryz.func271, Tryz.ntmps271
  go_wp2_with fail
  refine (hsm _).mono ?_
  rintro e w2 ⟨rfl, b2⟩
  go_wp2
  go_ret
  exact ⟨rfl, ((Below.refl _ w).alloc (Nat.le_refl _) _).trans (b2.mono (by simp))⟩

set_option maxRecDepth 100000 in
set_option maxHeartbeats 1600000 in
theorem clone_any (A : Option Addr) (n c B : Nat) (fs : List (List UInt8 × List UInt8)) (w : World) (h : Rd w B 2 A n (fcells fs)) (hB : B ≤ w.heap.size) (hn : n ≤ 1000000) :
    Calls Tryz.prog 236 #[.slice A n c] w fun e w' => ∃ A' c', e = .returned (.slice A' n c') ∧
      w'.ownsRow w.heap.size 110 2 (.slice A' n c') n (fcells fs) ∧ n ≤ c' ∧ Below w.heap.size w w' := by
  obtain ⟨i0, hi0, hz0, hz1, hz2⟩ := info_parts infoFld
  have hnil : ∀ w a n c, (binOp .eql 44 (.slice a n c) (.slice none 0 0)).run Tryz.prog w = .ok (.bool a.isNone) w := fun w a n c => Lib.run_eql_slice_nil w _ _ a n c 0 0 Tryz.underlying44
  rcases A with _ | a
  · obtain rfl : n = 0 := by
      rcases h.2 with h0 | ⟨a, h0, _⟩
      · exact h0
      · cases h0
    have hfs : fcells fs = [] := List.eq_nil_of_length_eq_zero (by have := h.1; omega)
    rw [hfs]
    go_enter Tryz.func236, Tryz.ntmps236
    go_wp2
    go_ret
    exact ⟨none, 0, rfl, World.ownsRow_nil _ _ _ _, Nat.le_refl _, Below.refl _ _⟩
  · have ho := own_new w #[] 110 2 0 rfl (by unfold maxLen; omega) w.heap.size (Nat.le_refl _)
    have hr := h.alloc hB (.cells #[] 110)
    go_enter Tryz.func236, Tryz.ntmps236
    go_wp2_with (at_builtin; refine wpl_append _ rfl _ _ _ rfl w.heap.size _ i0 _ 2 32 Tryz.underlying44 hi0 hz0 hz1 hz2 rfl (by omega) _ _ _ rfl _ _ _ _ _ rfl ho hr (fcells_one fs) (by unfold maxLen; omega) (by omega) (by simp) ?_; intro v1 w3 hown1 hbel1 _)
    go_ret
    rw [Nat.zero_add] at hown1
    obtain ⟨A', c', rfl, hc', -⟩ := own_shape hown1
    exact ⟨A', c', rfl, by simpa using hown1, hc', ((Below.refl _ w).alloc (Nat.le_refl _) _).trans hbel1⟩

/-- Where the first field of a name stands: -1, if there is none. -/
def firstL (fs : List (List UInt8 × List UInt8)) (name : List UInt8) : Nat := (fs.takeWhile fun f => !sameL f.1 name).length
theorem firstL_le (fs : List (List UInt8 × List UInt8)) (name : List UInt8) : firstL fs name ≤ fs.length := (List.takeWhile_prefix _).length_le
theorem noneBefore_snoc (fs : List (List UInt8 × List UInt8)) (name : List UInt8) (k : Nat) (h : k < fs.length) (hk : ((fs.take k).any fun f => sameL f.1 name) = false) :
    (sameL fs[k].1 name = true → firstL fs name = k) ∧ (sameL fs[k].1 name = false → ((fs.take (k + 1)).any fun f => sameL f.1 name) = false) := by
  constructor
  · intro hs
    have e : fs = fs.take k ++ fs[k] :: fs.drop (k + 1) := by rw [← List.drop_eq_getElem_cons h, List.take_append_drop]
    unfold firstL
    rw [e, List.takeWhile_append_of_pos (fun f hf => by have := List.any_eq_false.1 hk f hf; simpa using this), List.takeWhile_cons_of_neg (by simp [hs]), List.append_nil, List.length_take]
    omega
  · intro hs
    rw [list_take_snoc fs k h, List.any_append, hk]; simp [hs]
theorem firstL_none (fs : List (List UInt8 × List UInt8)) (name : List UInt8) (h : (fs.any fun f => sameL f.1 name) = false) : firstL fs name = fs.length := by
  unfold firstL
  induction fs with
  | nil => rfl
  | cons f fs ih =>
    simp only [List.any_cons, Bool.or_eq_false_iff] at h
    rw [List.takeWhile_cons_of_pos (by simp [h.1]), List.length_cons, List.length_cons, ih h.2]
def idxI (a n : Nat) : Int := if a = n then -1 else a

set_option maxRecDepth 100000 in
set_option maxHeartbeats 1600000 in
theorem index_any (A : Option Addr) (n c B : Nat) (fs : List (List UInt8 × List UInt8)) (name : ByteArray) (g : Nat) (w : World) (h : Rd w B 2 A n (fcells fs)) (hB : B ≤ w.heap.size) (hn : n ≤ 1000000) (hok : fsOk fs) (hname : name.size ≤ 1000000)
    (hc : w.cell? ⟨g, 0, none⟩ = some (.string name)) :
    Calls Tryz.prog 270 #[.slice A n c, .func (Fn.func 271) #[] #[.pointer (some ⟨g, 0, none⟩)]] w fun e w' =>
      e = .returned (.int .i64 (idxI (firstL fs name.data.toList) n)) ∧ Below w.heap.size w w' := by
  have hlen := h.flen
  have HLEN := hide hlen
  have hle : n ≤ fs.length := by omega
  have hg : g < w.heap.size := World.block_lt_of_cell? w _ hc
  clear hlen
  go_enter Tryz.func270, Tryz.ntmps270
  go_wp2_with fail
  go_loopw [8] (fun i wr => ∃ k : Nat, k ≤ n ∧ i = .int .i64 k ∧ ((fs.take k).any fun f => sameL f.1 name.data.toList) = false ∧ Below w.heap.size w wr) (fun i _ => n - (intOf i).toNat)
  case atStart => exact ⟨0, Nat.zero_le _, rfl, rfl, Below.refl _ _⟩
  case round =>
    obtain ⟨k, hk, rfl, hno, hb⟩ := hrel
    have hbz := hb.size
    by_cases hlt : k < n
    · have hkl : k < fs.length := by omega
      obtain ⟨b, off, rfl, hbB, e0, e1⟩ := (h.below (hb.mono hB)).fld hlt hkl
      have hcr := (hb.cell (p := ⟨g, 0, none⟩) hg).trans hc
      obtain ⟨q1, q2⟩ := noneBefore_snoc fs name.data.toList k hkl hno
      obtain ⟨hs1, hs2⟩ := hok fs[k] (List.getElem_mem hkl)
      obtain ⟨x, hx⟩ : ∃ x, x = fs[k] := ⟨_, rfl⟩
      rw [← hx] at e0 e1 q1 q2 hs1 hs2
      have hcl := clos_any ⟨x.1.toArray⟩ ⟨x.2.toArray⟩ name g wr hcr (by rw [mk_size]; omega) hname
      rw [mk_list] at hcl
      obtain ⟨sx, hsx⟩ : ∃ sx : ByteArray, sx = ⟨x.1.toArray⟩ := ⟨_, rfl⟩
      obtain ⟨sv, hsv⟩ : ∃ sv : ByteArray, sv = ⟨x.2.toArray⟩ := ⟨_, rfl⟩
      rw [← hsx] at e0 hcl
      rw [← hsv] at e1 hcl
      have Q1 := hide q1
      have Q2 := hide q2
      clear q1 q2 hx hsx hsv hno
      rcases hcase : sameL x.1 name.data.toList with _ | _
      · rw [hcase] at hcl
        have HF := hide (Q2.out hcase)
        clear hcase
        go_wp2_with fail
        refine hcl.mono ?_
        rintro e w2 ⟨rfl, b2⟩
        go_wp2
        go_roundw
        case rel => exact ⟨k + 1, by omega, by go_num, HF.out, hb.trans (b2.mono hbz)⟩
        case measure => simp [intOf]; omega
      · rw [hcase] at hcl
        have HF := hide (Q1.out hcase)
        clear hcase
        go_wp2_with fail
        refine hcl.mono ?_
        rintro e w2 ⟨rfl, b2⟩
        go_wp2
        go_ret
        exact ⟨ret_int (by rw [HF.out, idxI, if_neg (by omega)]), hb.trans (b2.mono hbz)⟩
    · have hfin : firstL fs name.data.toList = n := by
        have hL := HLEN.out
        rw [List.take_of_length_le (by omega)] at hno
        rw [firstL_none _ _ hno]; exact hL
      have HF := hide hfin
      clear hfin hno
      go_wp2
      go_ret
      exact ⟨ret_int (by rw [HF.out, idxI, if_pos rfl]), hb⟩
end Go.Proofs.YtijlaclngibekaaGreatDoor

/- The built-in clear on a cut of a slice of the call's own, and the front that remains. -/
namespace Go.Proofs.YtijlaclngibekaaGreatDoor
open Go.RowKit

section
variable {P : Program}
theorem zeroCells_len (z : Array Value) (n : Nat) : (Builtin.zeroCells z n).toList.length = n * z.size := by simp [Builtin.zeroCells]
theorem zeroCells_mem (z : Array Value) (n : Nat) (h1 : ∀ u ∈ z.toList, u.oneCell' = true) : ∀ u ∈ (Builtin.zeroCells z n).toList, u.oneCell' = true := by
  intro u hu
  simp only [Builtin.zeroCells, Array.toList_map, List.mem_map] at hu
  obtain ⟨i, hi, rfl⟩ := hu
  have hz : 0 < z.size := by
    rcases Nat.eq_zero_or_pos z.size with h0 | h0
    · simp [h0] at hi
    · exact h0
  have hm : i % z.size < z.size := Nat.mod_lt _ hz
  rw [getElem!_pos z _ hm]
  exact h1 _ (by simp)
theorem run_clear_cells (w : World) (t e ty : TypeId) (z : Value) (ht : P.underlying t = some (.slice e)) (hv : ∀ w, (zeroValue e).run P w = .ok z w) (h1 : ∀ u ∈ z.cells.toList, u.oneCell' = true) (b o n c : Nat) (hn : 0 < n)
    (hc : ∀ j, j < n * z.cells.size → (w.cell? ⟨b, o + j, none⟩).isSome = true) (hf : ∀ j, j < n * z.cells.size → w.frozen? ⟨b, o + j, none⟩ = false) :
    (Builtin.clear_ #[t] ty #[.slice (some ⟨b, o, none⟩) n c]).run P w = .ok (.tuple #[]) (w.setCells b o (Builtin.zeroCells z.cells n).toList) := by
  have hst := run_storeCells_cells (P := P) b o (Builtin.zeroCells z.cells n).toList 0 w (by rw [zeroCells_len]; simpa using hc) (by rw [zeroCells_len]; simpa using hf) (zeroCells_mem _ _ h1)
  simp only [Nat.add_zero] at hst
  obtain ⟨m, rfl⟩ : ∃ m, n = m + 1 := ⟨n - 1, by omega⟩
  simp [Builtin.clear_, run_underlying ht, hv, hst]
end

/-- The front of a slice whose back was written over. -/
theorem Ow.front {w : World} {base size n g off c : Nat} {xs : List Value} (h : Ow w base size (.slice (some ⟨g, off, none⟩) n c) n xs) (i : Nat) (hi : i ≤ n) (vs : List Value) (hvs : i * size + vs.length ≤ c * size) :
    Ow (w.setCells g (off + i * size) vs) base size (.slice (some ⟨g, off, none⟩) i c) i (xs.take (i * size)) := by
  have hin : i * size ≤ n * size := Nat.mul_le_mul_right _ hi
  refine ⟨by rw [List.length_take, h.1]; omega, ?_⟩
  rcases h.2 with ⟨hv, _⟩ | ⟨g', off', cap, hv, h1, h2, h3, h4, h5, h6⟩
  · cases hv
  · cases hv
    have h7 : ∀ j, j < vs.length → (w.cell? ⟨g, off + i * size + j, none⟩).isSome = true := fun j hj => by
      have := (h6 (i * size + j) (by omega)).1
      rwa [← Nat.add_assoc] at this
    refine .inr ⟨g, off, c, rfl, h1, by rw [size_setCells]; exact h2, by omega, h4, fun j u hu => ?_, fun j hj => ?_⟩
    · rw [List.getElem?_take] at hu
      split at hu
      · rw [World.cell?_setCells_out g vs _ w _ (fun _ _ => .inl (by simp; omega))]
        exact h5 j u hu
      · cases hu
    · have h8 := h6 j hj
      refine ⟨?_, by rw [World.frozen?_setCells]; exact h8.2⟩
      by_cases hin : i * size ≤ j ∧ j < i * size + vs.length
      · have := World.cell?_setCells_in g vs (off + i * size) w h7 (j - i * size) (by omega)
        rw [show off + j = off + i * size + (j - i * size) by omega, this]; rfl
      · rw [World.cell?_setCells_out g vs _ w _ (fun _ _ => by simp; omega)]
        exact h8.1
theorem Ow.cells {w : World} {base size n g off c : Nat} {xs : List Value} (h : Ow w base size (.slice (some ⟨g, off, none⟩) n c) n xs) (j : Nat) (hj : j < c * size) : (w.cell? ⟨g, off + j, none⟩).isSome = true ∧ w.frozen? ⟨g, off + j, none⟩ = false := by
  rcases h.2 with ⟨hv, _⟩ | ⟨g', off', cap, hv, h1, h2, h3, h4, h5, h6⟩
  · cases hv
  · cases hv; exact h6 j hj
theorem zeroFld (w : World) : (zeroValue 110).run Tryz.prog w = .ok (.agg #[.string ByteArray.empty, .string ByteArray.empty]) w := by kernel_rfl
end Go.Proofs.YtijlaclngibekaaGreatDoor

/- slices.DeleteFunc on a slice of the call's own; field.Drop. -/
namespace Go.Proofs.YtijlaclngibekaaGreatDoor
open Go.RowKit

theorem grown_alloc {w w' : World} {g : Nat} (h : w.grownBy w' (some g)) (o : Obj) : w.grownBy (w'.alloc o) (some g) := grown_trans h (World.grownBy_alloc w' o _)
theorem grown_more {w w' w2 : World} {g : Nat} (h : w.grownBy w' (some g)) (hb : Below w'.heap.size w' w2) : w.grownBy w2 (some g) := grown_trans h (grown_of_below hb)
theorem grown_cell {w w' : World} {g : Nat} (h : w.grownBy w' (some g)) {a : Addr} (ha : a.block < w.heap.size) (hne : a.block ≠ g) : w'.cell? a = w.cell? a :=
  World.cell?_of_block (a := a) (h.block a.block ha (by simp; exact hne))
theorem fcells_split (a b : List (List UInt8 × List UInt8)) : fcells (a ++ b) = fcells a ++ fcells b := (fcells_append a b).symm

/-- The two cells of element i turned. -/
theorem fcells_set (d : List (List UInt8 × List UInt8)) (m x : List UInt8 × List UInt8) (r : List (List UInt8 × List UInt8)) :
    ((fcells (d ++ m :: r)).set (d.length * 2) (.string ⟨x.1.toArray⟩)).set (d.length * 2 + 1) (.string ⟨x.2.toArray⟩) = fcells (d ++ x :: r) := by
  rw [fcells_split, fcells_split]
  rw [← fcells_length d, List.set_append_right _ _ (by omega), List.set_append_right _ _ (by omega)]
  congr 1
  simp [fcells]

theorem firstL_cons (f : List UInt8 × List UInt8) (fs : List (List UInt8 × List UInt8)) (name : List UInt8) : firstL (f :: fs) name = if sameL f.1 name then 0 else firstL fs name + 1 := by
  unfold firstL
  by_cases h : sameL f.1 name = true
  · rw [List.takeWhile_cons_of_neg (by simp [h]), if_pos h]; rfl
  · rw [List.takeWhile_cons_of_pos (by simpa using h), if_neg h]; rfl
theorem dropL_first (name : List UInt8) : ∀ fs : List (List UInt8 × List UInt8), dropL (fs.take (firstL fs name)) name = fs.take (firstL fs name)
  | [] => rfl
  | f :: fs => by
    rw [firstL_cons]
    by_cases h : sameL f.1 name = true
    · rw [if_pos h]; rfl
    · have ih := dropL_first name fs
      rw [if_neg h, List.take_succ_cons]
      unfold dropL at ih ⊢
      rw [List.filter_cons_of_pos (by simpa using h), ih]
theorem same_first (name : List UInt8) : ∀ (fs : List (List UInt8 × List UInt8)) (x : List UInt8 × List UInt8), fs[firstL fs name]? = some x → sameL x.1 name = true
  | [], x, h => by simp at h
  | f :: fs, x, h => by
    rw [firstL_cons] at h
    by_cases hs : sameL f.1 name = true
    · rw [if_pos hs] at h; simp at h; rw [← h]; exact hs
    · rw [if_neg hs, List.getElem?_cons_succ] at h; exact same_first name fs x h

set_option maxRecDepth 100000 in
set_option maxHeartbeats 3200000 in
theorem delete_any (gb off n c base : Nat) (fs : List (List UInt8 × List UInt8)) (name : ByteArray) (g : Nat) (w : World) (h : Ow w base 2 (.slice (some ⟨gb, off, none⟩) n c) n (fcells fs)) (hn : n ≤ 1000000) (hok : fsOk fs) (hname : name.size ≤ 1000000)
    (hc : w.cell? ⟨g, 0, none⟩ = some (.string name)) (hne : g ≠ gb) :
    Calls Tryz.prog 235 #[.slice (some ⟨gb, off, none⟩) n c, .func (Fn.func 271) #[] #[.pointer (some ⟨g, 0, none⟩)]] w fun e w' =>
      ∃ c', e = .returned (.slice (some ⟨gb, off, none⟩) (dropL fs name.data.toList).length c') ∧ (dropL fs name.data.toList).length ≤ c' ∧ Ow w' base 2 (.slice (some ⟨gb, off, none⟩) (dropL fs name.data.toList).length c') (dropL fs name.data.toList).length (fcells (dropL fs name.data.toList)) ∧ w.grownBy w' (some gb) := by
  have hlen := h.rd.flen
  have HLEN := hide hlen
  have hfl := firstL_le fs name.data.toList
  have hix := index_any _ n c _ fs name g w h.rd (Nat.le_refl _) hn hok hname hc
  have hg : g < w.heap.size := World.block_lt_of_cell? w _ hc
  have hgb : gb < w.heap.size := (h.lt gb rfl).2
  have hnc : n ≤ c := by
    obtain ⟨A, c', he, h1, _⟩ := h.shape
    cases he; exact h1
  obtain ⟨p, hp⟩ : ∃ p, p = firstL fs name.data.toList := ⟨_, rfl⟩
  rw [← hp] at hix hfl
  rw [hlen] at hfl
  by_cases hpn : p = n
  · have hid : dropL fs name.data.toList = fs := by
      have hd := dropL_first name.data.toList fs
      rw [← hp, List.take_of_length_le (by omega)] at hd; exact hd
    rw [idxI, if_pos hpn] at hix
    rw [hid]
    have HI := hide hlen
    rw [hlen]
    clear hlen hid hp hfl
    go_enter Tryz.func235, Tryz.ntmps235
    go_wp2_with fail
    refine hix.mono ?_
    rintro e w2 ⟨rfl, b2⟩
    go_wp2
    go_ret
    exact ⟨c, rfl, hnc, h.below b2, grown_more (World.grownBy.refl w _) b2⟩
  · rw [idxI, if_neg hpn] at hix
    have hpl : p < n := by omega
    have hpf : p < fs.length := by omega
    have hst := same_first name.data.toList fs fs[p] (by rw [← hp]; exact List.getElem?_eq_getElem hpf)
    have hd1 : dropL (fs.take (p + 1)) name.data.toList = fs.take p := by
      have hd := dropL_first name.data.toList fs
      rw [← hp] at hd
      rw [dropL_snoc fs _ p hpf, hd, hst, if_pos rfl, List.append_nil]
    have hall : fs.take p ++ ([fs[p]] ++ fs.drop (p + 1)) = fs := by rw [List.singleton_append, ← List.drop_eq_getElem_cons hpf, List.take_append_drop]
    have HD1 := hide hd1
    have HALL := hide hall
    have hp1 : ((p : Int) == -1) = false := by simp
    have HP := hide hp
    clear hlen hst hd1 hall hp
    go_enter Tryz.func235, Tryz.ntmps235
    go_wp2_with fail
    refine hix.mono ?_
    rintro e w2 ⟨rfl, b2⟩
    have hw2 := grown_more (World.grownBy.refl w (some gb)) b2
    have ho2 := h.below b2
    clear hix
    go_wp2_with fail
    go_loopw [5, 6] (fun vi vj wr => ∃ (i k : Nat) (mid : List (List UInt8 × List UInt8)), k ≤ n ∧ i < k ∧ vi = .int .i64 i ∧ vj = .int .i64 k ∧ (dropL (fs.take k) name.data.toList).length = i ∧ mid.length = k - i ∧
      Ow wr base 2 (.slice (some ⟨gb, off, none⟩) n c) n (fcells (dropL (fs.take k) name.data.toList ++ (mid ++ fs.drop k))) ∧ w.grownBy wr (some gb)) (fun _ vj _ => n - (intOf vj).toNat)
    case atStart =>
      refine ⟨p, p + 1, [fs[p]], by omega, by omega, rfl, by go_num, by rw [HD1.out, List.length_take]; omega, by simp, by rw [HD1.out, HALL.out]; exact ho2, hw2⟩
    case round =>
      obtain ⟨i, k, mid, hk, hik, rfl, rfl, hdl, hml, ho, hgr⟩ := hrel
      by_cases hlt : k < n
      · have hkl : k < fs.length := by have := HLEN.out; omega
        have hdr : fs.drop k = fs[k] :: fs.drop (k + 1) := List.drop_eq_getElem_cons hkl
        have hsn := dropL_snoc fs name.data.toList k hkl
        obtain ⟨hs1, hs2⟩ := hok fs[k] (List.getElem_mem hkl)
        obtain ⟨x, hx⟩ : ∃ x, x = fs[k] := ⟨_, rfl⟩
        rw [← hx] at hdr hsn hs1 hs2
        rw [hdr] at ho
        have hcr := (grown_cell hgr (a := ⟨g, 0, none⟩) hg hne).trans hc
        have hgr0 : g < wr.heap.size := Nat.lt_of_lt_of_le hg hgr.size
        obtain ⟨D, hD⟩ : ∃ D, D = dropL (fs.take k) name.data.toList := ⟨_, rfl⟩
        rw [← hD] at ho hsn hdl
        obtain ⟨R, hR⟩ : ∃ R, R = fs.drop (k + 1) := ⟨_, rfl⟩
        rw [← hR] at ho hdr
        have hLk : (D ++ (mid ++ x :: R))[k]? = some x := by
          rw [List.getElem?_append_right (by omega), List.getElem?_append_right (by omega), show k - D.length - mid.length = 0 by omega]; rfl
        obtain ⟨hLl, hLx⟩ := List.getElem?_eq_some_iff.1 hLk
        obtain ⟨c0, c1⟩ := fcells_get _ k hLl
        rw [hLx] at c0 c1
        obtain ⟨_, _, he0, _, _, e0, _⟩ := ho.at_ (j := k * 2) (by omega)
        cases he0
        obtain ⟨_, _, he1, _, _, e1, _⟩ := ho.at_ (j := k * 2 + 1) (by omega)
        cases he1
        rw [c0] at e0
        rw [c1] at e1
        have e1 : wr.cell? ⟨gb, off + k * 2 + 1, none⟩ = some (.string ⟨x.2.toArray⟩) := e1
        have hcl := fun W (h : W.cell? ⟨g, 0, none⟩ = some (.string name)) => clos_any ⟨x.1.toArray⟩ ⟨x.2.toArray⟩ name g W h (by rw [mk_size]; omega) hname
        rw [mk_list] at hcl
        obtain ⟨sx, hsx⟩ : ∃ sx : ByteArray, sx = ⟨x.1.toArray⟩ := ⟨_, rfl⟩
        obtain ⟨sv, hsv⟩ : ∃ sv : ByteArray, sv = ⟨x.2.toArray⟩ := ⟨_, rfl⟩
        have HSX := hide hsx
        have HSV := hide hsv
        rw [← hsx] at e0 hcl
        rw [← hsv] at e1 hcl
        have hca := hcl (wr.alloc (.cells #[.string sx, .string sv] 110)) ((World.cell?_alloc_lt wr _ ⟨g, 0, none⟩ hgr0).trans hcr)
        have HDR := hide hdr
        have HSN := hide hsn
        have HDD := hide hD
        have HR := hide hR
        have HDL := hide hdl
        clear hdr hsn hD hR hsx hsv c0 c1 hLk hLx hx hcl hdl
        have hgbr : gb < wr.heap.size := Nat.lt_of_lt_of_le hgb hgr.size
        rcases hcase : sameL x.1 name.data.toList with _ | _
        · rw [hcase] at hca
          have HC := hide hcase
          clear hcase
          go_wp2_with fail
          refine hca.mono ?_
          rintro e w3 ⟨rfl, b3⟩
          have ho3 := (ho.alloc (.cells #[.string sx, .string sv] 110)).below b3
          have e30 := new_kept (i := 0) b3 (by simp) rfl
          have e31 := new_kept (i := 1) b3 (by simp) rfl
          have hg3 := grown_more (grown_alloc hgr (.cells #[.string sx, .string sv] 110)) b3
          obtain ⟨m0, mid', rfl⟩ : ∃ m0 mid', mid = m0 :: mid' := by
            cases mid with
            | nil => simp at hml; omega
            | cons a l => exact ⟨a, l, rfl⟩
          have hLl2 : (fcells (D ++ (m0 :: mid' ++ x :: R))).length = n * 2 := ho3.1
          obtain ⟨_, _, he0, _, _, f0, z0⟩ := ho3.at_ (j := i * 2) (by omega)
          cases he0
          obtain ⟨_, _, he1, _, _, f1, z1⟩ := ho3.at_ (j := i * 2 + 1) (by omega)
          cases he1
          have hj0 : i * 2 < (fcells (D ++ (m0 :: mid' ++ x :: R))).length := by omega
          have hj1 : i * 2 + 1 < (fcells (D ++ (m0 :: mid' ++ x :: R))).length := by omega
          rw [List.getElem?_eq_getElem hj0] at f0
          rw [List.getElem?_eq_getElem hj1] at f1
          obtain ⟨y0, hy0⟩ : ∃ y, y = (fcells (D ++ (m0 :: mid' ++ x :: R)))[i * 2] := ⟨_, rfl⟩
          obtain ⟨y1, hy1⟩ : ∃ y, y = (fcells (D ++ (m0 :: mid' ++ x :: R)))[i * 2 + 1] := ⟨_, rfl⟩
          rw [← hy0] at f0
          rw [← hy1] at f1
          have ho4 := ho3.store (j := i * 2) (by omega) (.string sx)
          obtain ⟨_, _, he1, _, _, k1, z2⟩ := ho4.at_ (j := i * 2 + 1) (by omega)
          cases he1
          rw [List.getElem?_set_ne (by omega), List.getElem?_eq_getElem hj1, ← hy1] at k1
          have ho5 := ho4.store (j := i * 2 + 1) (by omega) (.string sv)
          have hfin : ((fcells (D ++ (m0 :: mid' ++ x :: R))).set (i * 2) (.string sx)).set (i * 2 + 1) (.string sv) = fcells (D ++ x :: (mid' ++ x :: R)) := by
            have := fcells_set D m0 x (mid' ++ x :: R)
            rw [← HDL.out, HSX.out, HSV.out]; exact this
          rw [hfin] at ho5
          have hg4 := grown_set hg3 (off + i * 2) (.string sx)
          have hg5 := grown_set hg4 (off + (i * 2 + 1)) (.string sv)
          have k1 : (w3.setCell ⟨gb, off + i * 2, none⟩ (.string sx)).cell? ⟨gb, off + i * 2 + 1, none⟩ = some y1 := k1
          have z2 : (w3.setCell ⟨gb, off + i * 2, none⟩ (.string sx)).frozen? ⟨gb, off + i * 2 + 1, none⟩ = false := z2
          have hdn : dropL (fs.take (k + 1)) name.data.toList = D ++ [x] := by rw [HSN.out, HC.out, if_neg (by simp)]
          have HDN := hide hdn
          clear hca b3 e0 e1 hy0 hy1 f1 z1 hj0 hj1 hLl2 hLl hfin hdn ho4 hg4
          go_wp2
          go_roundw
          case rel =>
            refine ⟨i + 1, k + 1, mid' ++ [x], by omega, by omega, by go_num, by go_num, by rw [HDN.out, List.length_append, HDL.out]; rfl, by simp at hml ⊢; omega, ?_, hg5⟩
            rw [HDN.out, ← HR.out, List.append_assoc, List.append_assoc, List.singleton_append, List.singleton_append]; exact ho5
          case measure => simp [intOf]; omega
        · rw [hcase] at hca
          have hdn : dropL (fs.take (k + 1)) name.data.toList = D := by rw [HSN.out, hcase, if_pos rfl, List.append_nil]
          have HDN := hide hdn
          clear hcase hdn
          go_wp2_with fail
          refine hca.mono ?_
          rintro e w3 ⟨rfl, b3⟩
          have ho3 := (ho.alloc (.cells #[.string sx, .string sv] 110)).below b3
          have hg3 := grown_more (grown_alloc hgr (.cells #[.string sx, .string sv] 110)) b3
          go_wp2
          go_roundw
          case rel =>
            refine ⟨i, k + 1, mid ++ [x], by omega, by omega, rfl, by go_num, by rw [HDN.out]; exact HDL.out, by simp; omega, ?_, hg3⟩
            rw [HDN.out, ← HR.out, List.append_assoc, List.singleton_append]; exact ho3
          case measure => simp [intOf]; omega
      · obtain rfl : k = n := by omega
        have hnf : fs.length ≤ k := by have := HLEN.out; omega
        rw [List.drop_of_length_le hnf, List.take_of_length_le hnf, List.append_nil] at ho
        rw [List.take_of_length_le hnf] at hdl
        have hcc := ho.cells
        have hcl : ∀ ty, (Builtin.clear_ #[44] ty #[.slice (some ⟨gb, off + i * 2, none⟩) (k - i) (c - i)]).run Tryz.prog wr = .ok (.tuple #[]) (wr.setCells gb (off + i * 2) (Builtin.zeroCells #[.string ByteArray.empty, .string ByteArray.empty] (k - i)).toList) :=
          fun ty => run_clear_cells wr _ 110 ty _ Tryz.underlying44 zeroFld (by simp [Value.cells, Value.oneCell']) gb (off + i * 2) (k - i) (c - i) (by omega)
            (fun j hj => by rw [Nat.add_assoc]; exact (hcc (i * 2 + j) (by simp [Value.cells] at hj; omega)).1) (fun j hj => by rw [Nat.add_assoc]; exact (hcc (i * 2 + j) (by simp [Value.cells] at hj; omega)).2)
        have hof := ho.front i (by omega) (Builtin.zeroCells #[.string ByteArray.empty, .string ByteArray.empty] (k - i)).toList (by rw [zeroCells_len]; simp; omega)
        rw [fcells_split, List.take_left' (by rw [fcells_length, hdl])] at hof
        have hgs := grown_trans hgr (grown_setCells gb (Builtin.zeroCells #[.string ByteArray.empty, .string ByteArray.empty] (k - i)).toList (off + i * 2) wr)
        have HDL := hide hdl
        clear hdl hcc ho hgr
        go_wp2
        go_ret
        exact ⟨c, by rw [HDL.out]; rfl, by rw [HDL.out]; omega, by rw [HDL.out]; exact hof, hgs⟩
end Go.Proofs.YtijlaclngibekaaGreatDoor

/- field.Drop; the plain laws of Get, Drop and Set. -/
namespace Go.Proofs.YtijlaclngibekaaGreatDoor
open Go.RowKit

set_option maxRecDepth 100000 in
set_option maxHeartbeats 3200000 in
theorem delete_nil (name : ByteArray) (g : Nat) (w : World) (hname : name.size ≤ 1000000) (hc : w.cell? ⟨g, 0, none⟩ = some (.string name)) :
    Calls Tryz.prog 235 #[.slice none 0 0, .func (Fn.func 271) #[] #[.pointer (some ⟨g, 0, none⟩)]] w fun e w' =>
      e = .returned (.slice none 0 0) ∧ Below w.heap.size w w' := by
  have hix := index_any none 0 0 w.heap.size [] name g w Rd.nil_ (Nat.le_refl _) (by omega) (by intro f hf; cases hf) hname hc
  rw [show idxI (firstL [] name.data.toList) 0 = -1 from rfl] at hix
  go_enter Tryz.func235, Tryz.ntmps235
  go_wp2_with fail
  refine hix.mono ?_
  rintro e w2 ⟨rfl, b2⟩
  go_wp2
  go_ret
  exact ⟨rfl, b2⟩

set_option maxRecDepth 100000 in
set_option maxHeartbeats 3200000 in
theorem drop_any (A : Option Addr) (n c B : Nat) (fs : List (List UInt8 × List UInt8)) (name : ByteArray) (w : World) (h : Rd w B 2 A n (fcells fs)) (hB : B ≤ w.heap.size) (hn : n ≤ 1000000) (hok : fsOk fs) (hname : name.size ≤ 1000000) :
    Calls Tryz.prog 191 #[.slice A n c, .string name] w fun e w' => ∃ A' c', e = .returned (.slice A' (dropL fs name.data.toList).length c') ∧
      Ow w' w.heap.size 2 (.slice A' (dropL fs name.data.toList).length c') (dropL fs name.data.toList).length (fcells (dropL fs name.data.toList)) ∧ (dropL fs name.data.toList).length ≤ c' ∧ Below w.heap.size w w' := by
  have hflen := h.flen
  have hcl := clone_any A n c B fs w h hB hn
  clear h
  go_enter Tryz.func191, Tryz.ntmps191
  go_wp2_with fail
  refine hcl.mono ?_
  rintro e w1 ⟨A', c', rfl, ho, hc', b1⟩
  clear hcl
  go_wp2_with fail
  refine (named_any name w1).mono ?_
  rintro e w2 ⟨rfl, hw2⟩
  have hcell : w2.cell? ⟨w1.heap.size, 0, none⟩ = some (.string name) := by rw [hw2]; exact new_kept (n := w1.heap.size + 1) (i := 0) (Below.refl _ _) rfl rfl
  have how := (Ow.of_row ho).alloc (.cells #[.string name] 9)
  rw [← hw2] at how
  have b2 : Below w.heap.size w w2 := by rw [hw2]; exact b1.alloc b1.size _
  have hs2 : w1.heap.size < w2.heap.size := World.block_lt_of_cell? w2 _ hcell
  have hlt := (Ow.of_row ho).lt
  have b1s := b1.size
  clear hw2 ho
  obtain ⟨g, hg⟩ : ∃ g, g = w1.heap.size := ⟨_, rfl⟩
  rw [← hg] at hcell hs2 hlt b1s ⊢
  clear hg
  rcases A' with _ | ad
  · obtain ⟨rfl, rfl⟩ : n = 0 ∧ c' = 0 := by
      rcases how.2 with ⟨h0, h1⟩ | ⟨_, _, _, h0, _⟩
      · cases h0; exact ⟨rfl, rfl⟩
      · cases h0
    obtain rfl : fs = [] := List.eq_nil_of_length_eq_zero hflen
    go_wp2_with fail
    refine (delete_nil name g w2 hname hcell).mono ?_
    rintro e w3 ⟨rfl, b3⟩
    go_wp2
    go_ret
    exact ⟨none, 0, rfl, Ow.nil_, Nat.le_refl _, b2.trans (b3.mono b2.size)⟩
  · obtain ⟨gb, off, rfl⟩ : ∃ gb off, ad = ⟨gb, off, none⟩ := by
      rcases how.2 with ⟨h0, _⟩ | ⟨gb, off, _, h0, _⟩
      · cases h0
      · cases h0; exact ⟨_, _, rfl⟩
    obtain ⟨h1, h2⟩ := hlt gb rfl
    have hdel := delete_any gb off n c' w.heap.size fs name g w2 how hn hok hname hcell (by omega)
    clear how hok
    go_wp2_with fail
    refine hdel.mono ?_
    rintro e w3 ⟨c3, rfl, hc3, ho3, hg3⟩
    go_wp2
    go_ret
    exact ⟨_, c3, rfl, ho3, hc3, b2.grown hg3 b2.size (fun k hk => by cases hk; exact h1)⟩

/- The plain laws. -/
theorem sameL_refl (a : List UInt8) : sameL a a = true := by unfold sameL; simp
/-- 'Set' by recursion. -/
def setR (name value : List UInt8) : List (List UInt8 × List UInt8) → List (List UInt8 × List UInt8)
  | [] => [(name, value)]
  | f :: fs => if sameL f.1 name then (f.1, value) :: dropL fs name else f :: setR name value fs
theorem dropL_cons (f : List UInt8 × List UInt8) (fs : List (List UInt8 × List UInt8)) (name : List UInt8) : dropL (f :: fs) name = if sameL f.1 name then dropL fs name else f :: dropL fs name := by
  unfold dropL
  by_cases h : sameL f.1 name = true
  · rw [List.filter_cons_of_neg (by simp [h]), if_pos h]
  · rw [List.filter_cons_of_pos (by simpa using h), if_neg h]
theorem getL_cons (f : List UInt8 × List UInt8) (fs : List (List UInt8 × List UInt8)) (name : List UInt8) : getL (f :: fs) name = if sameL f.1 name then f.2 :: getL fs name else getL fs name := by
  unfold getL
  by_cases h : sameL f.1 name = true
  · rw [List.filter_cons_of_pos (by simpa using h), if_pos h]; rfl
  · rw [List.filter_cons_of_neg (by simpa using h), if_neg h]
theorem fold_true (name value : List UInt8) : ∀ (fs acc : List (List UInt8 × List UInt8)),
    fs.foldl (fun st f => if sameL f.1 name then (if st.2 then st else (st.1 ++ [(f.1, value)], true)) else (st.1 ++ [f], st.2)) (acc, true) = (acc ++ dropL fs name, true)
  | [], acc => by simp [dropL]
  | f :: fs, acc => by
    rw [List.foldl_cons, dropL_cons]
    by_cases h : sameL f.1 name = true
    · rw [if_pos h, if_pos h, if_pos rfl]; exact fold_true name value fs acc
    · rw [if_neg h, if_neg h, fold_true name value fs (acc ++ [f])]; simp
theorem fold_false (name value : List UInt8) : ∀ (fs acc : List (List UInt8 × List UInt8)),
    (let r := fs.foldl (fun st f => if sameL f.1 name then (if st.2 then st else (st.1 ++ [(f.1, value)], true)) else (st.1 ++ [f], st.2)) (acc, false)
     if r.2 then r.1 else r.1 ++ [(name, value)]) = acc ++ setR name value fs
  | [], acc => by simp [setR]
  | f :: fs, acc => by
    rw [List.foldl_cons]
    by_cases h : sameL f.1 name = true
    · simp [setR, h, fold_true]
    · rw [if_neg h]
      have := fold_false name value fs (acc ++ [f])
      simp only [setR, if_neg h] at this ⊢
      rw [this]; simp
theorem setL_R (fs : List (List UInt8 × List UInt8)) (name value : List UInt8) : setL fs name value = setR name value fs := by
  have := fold_false name value fs []
  rw [List.nil_append] at this
  exact this
theorem getL_drop (name : List UInt8) : ∀ fs : List (List UInt8 × List UInt8), getL (dropL fs name) name = []
  | [] => rfl
  | f :: fs => by
    rw [dropL_cons]
    by_cases h : sameL f.1 name = true
    · rw [if_pos h]; exact getL_drop name fs
    · rw [if_neg h, getL_cons, if_neg h]; exact getL_drop name fs
theorem dropL_drop (name : List UInt8) (fs : List (List UInt8 × List UInt8)) : dropL (dropL fs name) name = dropL fs name := by unfold dropL; rw [List.filter_filter]; simp
theorem getL_set (fs : List (List UInt8 × List UInt8)) (name value : List UInt8) : getL (setL fs name value) name = [value] := by
  rw [setL_R]
  induction fs with
  | nil => rw [setR, getL_cons, if_pos (sameL_refl _)]; rfl
  | cons f fs ih =>
    by_cases h : sameL f.1 name = true
    · rw [setR, if_pos h, getL_cons, if_pos h, getL_drop]
    · rw [setR, if_neg h, getL_cons, if_neg h, ih]
theorem dropL_set (fs : List (List UInt8 × List UInt8)) (name value : List UInt8) : dropL (setL fs name value) name = dropL fs name := by
  rw [setL_R]
  induction fs with
  | nil => rw [setR, dropL_cons, if_pos (sameL_refl _)]
  | cons f fs ih =>
    by_cases h : sameL f.1 name = true
    · rw [setR, if_pos h, dropL_cons, if_pos h, dropL_drop, dropL_cons, if_pos h]
    · rw [setR, if_neg h, dropL_cons, if_neg h, ih, dropL_cons, if_neg h]
theorem setL_set (fs : List (List UInt8 × List UInt8)) (name value : List UInt8) : setL (setL fs name value) name value = setL fs name value := by
  rw [setL_R, setL_R]
  induction fs with
  | nil => simp [setR, sameL_refl, dropL]
  | cons f fs ih =>
    by_cases h : sameL f.1 name = true
    · rw [setR, if_pos h, setR, if_pos h, dropL_drop]
    · rw [setR, if_neg h, setR, if_neg h, ih]
theorem setL_len (fs : List (List UInt8 × List UInt8)) (name value : List UInt8) : (setL fs name value).length ≤ fs.length + 1 := by
  rw [setL_R]
  induction fs with
  | nil => simp [setR]
  | cons f fs ih =>
    by_cases h : sameL f.1 name = true
    · rw [setR, if_pos h]; have := dropL_len fs name; simp; omega
    · rw [setR, if_neg h]; simp; omega
theorem fsOk_drop {fs : List (List UInt8 × List UInt8)} (h : fsOk fs) (name : List UInt8) : fsOk (dropL fs name) := fun f hf => h f (List.mem_filter.1 hf).1
theorem fsOk_set {fs : List (List UInt8 × List UInt8)} (h : fsOk fs) {name value : List UInt8} (hn : name.length ≤ 1000000) (hv : value.length ≤ 1000000) : fsOk (setL fs name value) := by
  rw [setL_R]
  induction fs with
  | nil => intro f hf; simp [setR] at hf; subst hf; exact ⟨hn, hv⟩
  | cons f fs ih =>
    have h1 := h f (by simp)
    have h2 : fsOk fs := fun x hx => h x (by simp [hx])
    by_cases hs : sameL f.1 name = true
    · rw [setR, if_pos hs]
      intro x hx
      rcases List.mem_cons.1 hx with rfl | hx
      · exact ⟨h1.1, hv⟩
      · exact fsOk_drop h2 _ x hx
    · rw [setR, if_neg hs]
      intro x hx
      rcases List.mem_cons.1 hx with rfl | hx
      · exact h1
      · exact ih h2 x hx
end Go.Proofs.YtijlaclngibekaaGreatDoor
/- Which fields are of one link alone; fields without them: plain lists. -/
namespace Go.Proofs.YtijlaclngibekaaGreatDoor

def connL : List UInt8 := [99, 111, 110, 110, 101, 99, 116, 105, 111, 110]
def hopL : List (List UInt8) := [connL, [107, 101, 101, 112, 45, 97, 108, 105, 118, 101], [112, 114, 111, 120, 121, 45, 99, 111, 110, 110, 101, 99, 116, 105, 111, 110], [116, 101], [116, 114, 97, 105, 108, 101, 114], nameTE, [117, 112, 103, 114, 97, 100, 101]]
def hopC : List (List UInt8) := [[67, 111, 110, 110, 101, 99, 116, 105, 111, 110], [75, 101, 101, 112, 45, 65, 108, 105, 118, 101], [80, 114, 111, 120, 121, 45, 67, 111, 110, 110, 101, 99, 116, 105, 111, 110], [84, 69], [84, 114, 97, 105, 108, 101, 114], [84, 114, 97, 110, 115, 102, 101, 114, 45, 69, 110, 99, 111, 100, 105, 110, 103], [85, 112, 103, 114, 97, 100, 101]]
def codeL : List UInt8 := [99, 111, 110, 116, 101, 110, 116, 45, 101, 110, 99, 111, 100, 105, 110, 103]
def hostL : List UInt8 := [104, 111, 115, 116]
def varyL : List UInt8 := [118, 97, 114, 121]
def etagL : List UInt8 := [101, 116, 97, 103]
def stayL : List (List UInt8) := [nameCL, codeL, hostL, varyL, etagL]
def staysB (n : List UInt8) : Bool := stayL.any fun s => sameL s n
def goesB (n : List UInt8) : Bool := !staysB n
/-- Without the fields of all the names. -/
def dropsL (fs : List (List UInt8 × List UInt8)) (names : List (List UInt8)) : List (List UInt8 × List UInt8) := names.foldl dropL fs
def namesL (fs : List (List UInt8 × List UInt8)) : List (List UInt8) := (allL fs connL).filter goesB
def withoutL (fs : List (List UInt8 × List UInt8)) : List (List UInt8 × List UInt8) := dropsL fs (hopL ++ namesL fs)
theorem sameL_iff {a b : List UInt8} : sameL a b = true ↔ lowL a = lowL b := by unfold sameL; simp
theorem sameL_low (a b : List UInt8) : sameL a (lowL b) = sameL a b := by unfold sameL; rw [lowL_idem]
theorem sameL_congr {b c : List UInt8} (h : lowL b = lowL c) (a : List UInt8) : sameL a b = sameL a c := by unfold sameL; rw [h]
theorem dropL_congr {b c : List UInt8} (h : lowL b = lowL c) (fs : List (List UInt8 × List UInt8)) : dropL fs b = dropL fs c := by unfold dropL; simp only [sameL_congr h]
theorem getL_congr {b c : List UInt8} (h : lowL b = lowL c) (fs : List (List UInt8 × List UInt8)) : getL fs b = getL fs c := by unfold getL; simp only [sameL_congr h]
theorem dropsL_filter : ∀ (names : List (List UInt8)) (fs : List (List UInt8 × List UInt8)), dropsL fs names = fs.filter fun f => !names.any fun n => sameL f.1 n
  | [], fs => (List.filter_eq_self.2 fun _ _ => rfl).symm
  | n :: names, fs => by
    have e : dropsL fs (n :: names) = dropsL (dropL fs n) names := rfl
    rw [e, dropsL_filter names]
    unfold dropL
    rw [List.filter_filter]
    congr 1
    funext f
    simp [Bool.and_comm]
theorem dropsL_append (fs : List (List UInt8 × List UInt8)) (a b : List (List UInt8)) : dropsL fs (a ++ b) = dropsL (dropsL fs a) b := by unfold dropsL; rw [List.foldl_append]
theorem dropsL_snoc (fs : List (List UInt8 × List UInt8)) (l : List (List UInt8)) (k : Nat) (h : k < l.length) : dropsL fs (l.take (k + 1)) = dropL (dropsL fs (l.take k)) l[k] := by
  rw [list_take_snoc l k h, dropsL_append]; rfl
theorem dropsL_len (names : List (List UInt8)) (fs : List (List UInt8 × List UInt8)) : (dropsL fs names).length ≤ fs.length := by rw [dropsL_filter]; exact List.length_filter_le _ _
theorem fsOk_drops {fs : List (List UInt8 × List UInt8)} (h : fsOk fs) (names : List (List UInt8)) : fsOk (dropsL fs names) := by
  intro f hf; rw [dropsL_filter] at hf; exact h f (List.mem_filter.1 hf).1
theorem hop_same (fs : List (List UInt8 × List UInt8)) : dropsL fs hopC = dropsL fs hopL := by
  rw [dropsL_filter, dropsL_filter]
  have : ∀ x : List UInt8, (hopC.any fun n => sameL x n) = (hopL.any fun n => sameL x n) := fun x => by
    have h : hopL = hopC.map lowL := by decide
    rw [h, List.any_map]
    exact congrArg (fun f => hopC.any f) (funext fun n => (sameL_low x n).symm)
  simp only [this]
/-- The program's: the names written as they are in heads. -/
theorem withoutL_C (fs : List (List UInt8 × List UInt8)) : dropsL fs (hopC ++ namesL fs) = withoutL fs := by unfold withoutL; rw [dropsL_append, dropsL_append, hop_same]
/-- The reference's: a name that stays is passed over. -/
def skipL (fs : List (List UInt8 × List UInt8)) (names : List (List UInt8)) : List (List UInt8 × List UInt8) := dropsL fs (names.filter goesB)
theorem skipL_snoc (fs : List (List UInt8 × List UInt8)) (l : List (List UInt8)) (k : Nat) (h : k < l.length) : skipL fs (l.take (k + 1)) = if staysB l[k] = true then skipL fs (l.take k) else dropL (skipL fs (l.take k)) l[k] := by
  unfold skipL
  rw [list_take_snoc l k h, List.filter_append, dropsL_append]
  by_cases hs : staysB l[k] = true
  · rw [if_pos hs, List.filter_cons_of_neg (by simp [goesB, hs])]; rfl
  · rw [if_neg hs, List.filter_cons_of_pos (by simp [goesB, hs])]; rfl
theorem withoutL_R (fs : List (List UInt8 × List UInt8)) : skipL fs (hopL ++ allL fs connL) = withoutL fs := by
  unfold skipL withoutL
  rw [List.filter_append]
  have : hopL.filter goesB = hopL := by decide
  rw [this]; rfl
/-- The switch of the reference: five names in small letters. -/
theorem stays_low (n : List UInt8) : staysB n = decide (lowL n ∈ stayL) := by
  rw [Bool.eq_iff_iff, decide_eq_true_iff]
  unfold staysB
  rw [List.any_eq_true]
  have hl : ∀ s ∈ stayL, lowL s = s := by decide
  constructor
  · rintro ⟨s, hs, h⟩
    rw [sameL_iff, hl s hs] at h
    rw [← h]; exact hs
  · intro h
    exact ⟨_, h, by rw [sameL_iff, lowL_idem]⟩
theorem namesL_len (fs : List (List UInt8 × List UInt8)) (h : fsOk fs) : (namesL fs).length ≤ fs.length * 1000001 := by
  have h1 := allV_len _ (getL_mem h connL)
  have h2 := getL_len fs connL
  have h3 : (namesL fs).length ≤ (allL fs connL).length := List.length_filter_le _ _
  have h4 : (allL fs connL).length ≤ (getL fs connL).length * 1000001 := h1
  exact Nat.le_trans h3 (Nat.le_trans h4 (Nat.mul_le_mul_right _ h2))
theorem namesL_mem (fs : List (List UInt8 × List UInt8)) (h : fsOk fs) : ∀ x ∈ namesL fs, x.length ≤ 1000000 := fun x hx => allV_mem _ (getL_mem h connL) x (List.mem_filter.1 hx).1
/-- What is left has none of the names. -/
theorem getL_drops {names : List (List UInt8)} {n m : List UInt8} (hn : n ∈ names) (hm : lowL m = lowL n) (fs : List (List UInt8 × List UInt8)) : getL (dropsL fs names) m = [] := by
  rw [dropsL_filter]
  unfold getL
  rw [List.filter_filter]
  have : (fs.filter fun f => sameL f.1 m && !names.any fun n => sameL f.1 n) = [] := by
    rw [List.filter_eq_nil_iff]
    intro f _ h
    simp only [Bool.and_eq_true, Bool.not_eq_true', List.any_eq_false] at h
    have := h.2 n hn
    rw [sameL_congr hm] at h
    exact this h.1
  rw [this]; rfl
theorem getL_append (a b : List (List UInt8 × List UInt8)) (n : List UInt8) : getL (a ++ b) n = getL a n ++ getL b n := by unfold getL; rw [List.filter_append, List.map_append]
/-- Fields of names that stay are left. -/
theorem getL_stays {names : List (List UInt8)} {m : List UInt8} (hm : ∀ n ∈ names, sameL m n = false) (fs : List (List UInt8 × List UInt8)) : getL (dropsL fs names) m = getL fs m := by
  rw [dropsL_filter]
  unfold getL
  rw [List.filter_filter]
  congr 1
  refine List.filter_congr fun f _ => ?_
  rcases hs : sameL f.1 m with _ | _
  · rfl
  · have : (names.any fun n => sameL f.1 n) = false := by
      rw [List.any_eq_false]
      intro n hn h
      have h1 := hm n hn
      have e1 := sameL_iff.1 hs
      have e2 := sameL_iff.1 h
      have : sameL m n = true := sameL_iff.2 (e1.symm.trans e2)
      rw [h1] at this; cases this
    rw [this]; rfl
end Go.Proofs.YtijlaclngibekaaGreatDoor

/- Heads that go on: plain lists. -/
namespace Go.Proofs.YtijlaclngibekaaGreatDoor

def teC : List UInt8 := [84, 114, 97, 110, 115, 102, 101, 114, 45, 69, 110, 99, 111, 100, 105, 110, 103]
def chunkF : List UInt8 × List UInt8 := (teC, chunkedL)
def connC : List UInt8 := [67, 111, 110, 110, 101, 99, 116, 105, 111, 110]
def closeF : List UInt8 × List UInt8 := (connC, [99, 108, 111, 115, 101])
def md5C : List UInt8 := [67, 111, 110, 116, 101, 110, 116, 45, 77, 68, 53]
def rangesC : List UInt8 := [65, 99, 99, 101, 112, 116, 45, 82, 97, 110, 103, 101, 115]
def codeC : List UInt8 := [67, 111, 110, 116, 101, 110, 116, 45, 69, 110, 99, 111, 100, 105, 110, 103]
def lenC : List UInt8 := [67, 111, 110, 116, 101, 110, 116, 45, 76, 101, 110, 103, 116, 104]
def etagC : List UInt8 := [69, 84, 97, 103]
def varyC : List UInt8 := [86, 97, 114, 121]
def aeC : List UInt8 := [65, 99, 99, 101, 112, 116, 45, 69, 110, 99, 111, 100, 105, 110, 103]
def varyF : List UInt8 × List UInt8 := (varyC, aeC)
def requestF (fs : List (List UInt8 × List UInt8)) (kind : Int) : List (List UInt8 × List UInt8) := if kind = 2 then withoutL fs ++ [chunkF] else withoutL fs
theorem requestF_len (fs : List (List UInt8 × List UInt8)) (kind : Int) : (requestF fs kind).length ≤ fs.length + 1 := by
  have : (withoutL fs).length ≤ fs.length := dropsL_len _ _
  unfold requestF; split <;> simp <;> omega
theorem fsOk_append {a b : List (List UInt8 × List UInt8)} (ha : fsOk a) (hb : fsOk b) : fsOk (a ++ b) := by
  intro f hf
  rcases List.mem_append.1 hf with h | h
  · exact ha f h
  · exact hb f h
theorem fsOk_without {fs : List (List UInt8 × List UInt8)} (h : fsOk fs) : fsOk (withoutL fs) := fsOk_drops h _
theorem fsOk_chunk : fsOk [chunkF] := by intro f hf; rw [List.mem_singleton.1 hf]; decide
theorem requestF_ok {fs : List (List UInt8 × List UInt8)} (h : fsOk fs) (kind : Int) : fsOk (requestF fs kind) := by
  unfold requestF; split
  · exact fsOk_append (fsOk_without h) fsOk_chunk
  · exact fsOk_without h
theorem get_hop {n m : List UInt8} (hn : n ∈ hopL) (hm : lowL m = lowL n) (fs : List (List UInt8 × List UInt8)) : getL (withoutL fs) m = [] := getL_drops (List.mem_append_left _ hn) hm fs
theorem request_conn (fs : List (List UInt8 × List UInt8)) (kind : Int) : getL (requestF fs kind) connC = [] := by
  have h1 : getL (withoutL fs) connC = [] := get_hop (n := connL) (by decide) (by decide) fs
  unfold requestF; split
  · rw [getL_append, h1]; decide
  · exact h1
theorem request_te (fs : List (List UInt8 × List UInt8)) (kind : Int) : getL (requestF fs kind) [84, 69] = [] := by
  have h1 : getL (withoutL fs) [84, 69] = [] := get_hop (n := [116, 101]) (by decide) (by decide) fs
  unfold requestF; split
  · rw [getL_append, h1]; decide
  · exact h1
theorem request_tr (fs : List (List UInt8 × List UInt8)) (kind : Int) : getL (requestF fs kind) teC = if kind = 2 then [chunkedL] else [] := by
  have h1 : getL (withoutL fs) teC = [] := get_hop (n := nameTE) (by decide) (by decide) fs
  unfold requestF; split
  · rw [getL_append, h1]; decide
  · exact h1
/-- Once more. -/
theorem allL_nil {fs : List (List UInt8 × List UInt8)} {n : List UInt8} (h : getL fs n = []) : allL fs n = [] := by unfold allL allV; rw [h]; rfl
theorem drops_same {fs : List (List UInt8 × List UInt8)} {names : List (List UInt8)} (h : ∀ f ∈ fs, ∀ n ∈ names, sameL f.1 n = false) : dropsL fs names = fs := by
  rw [dropsL_filter, List.filter_eq_self]
  intro f hf
  have : (names.any fun n => sameL f.1 n) = false := by
    rw [List.any_eq_false]; intro n hn h1; rw [h f hf n hn] at h1; cases h1
  rw [this]; rfl
theorem without_clean (fs : List (List UInt8 × List UInt8)) : ∀ f ∈ withoutL fs, ∀ n ∈ hopL, sameL f.1 n = false := by
  intro f hf n hn
  unfold withoutL at hf
  rw [dropsL_filter] at hf
  have := (List.mem_filter.1 hf).2
  simp only [Bool.not_eq_true', List.any_eq_false] at this
  have h2 := this n (List.mem_append_left _ hn)
  simpa using h2
theorem without_names {fs : List (List UInt8 × List UInt8)} (h : getL fs connL = []) : withoutL fs = dropsL fs hopL := by
  unfold withoutL namesL; rw [allL_nil h]; simp
theorem without_hops {fs : List (List UInt8 × List UInt8)} (l : List (List UInt8 × List UInt8)) (hc : ∀ f ∈ fs, ∀ n ∈ hopL, sameL f.1 n = false) (hl : dropsL l hopL = []) (hg : getL l connL = []) : withoutL (fs ++ l) = fs := by
  have h0 : getL fs connL = [] := by
    unfold getL
    rw [List.map_eq_nil_iff, List.filter_eq_nil_iff]
    intro f hf h
    rw [hc f hf connL (by decide)] at h; cases h
  rw [without_names (by rw [getL_append, h0, hg]; rfl), dropsL_filter, List.filter_append, ← dropsL_filter, ← dropsL_filter, drops_same hc, hl, List.append_nil]
theorem request_twice (fs : List (List UInt8 × List UInt8)) (kind : Int) : requestF (requestF fs kind) kind = requestF fs kind := by
  have hc := without_clean fs
  have h0 : withoutL (withoutL fs) = withoutL fs := by have := without_hops [] hc rfl rfl; simpa using this
  have h1 : withoutL (withoutL fs ++ [chunkF]) = withoutL fs := without_hops _ hc (by decide) (by decide)
  unfold requestF
  by_cases hk : kind = 2
  · simp only [if_pos hk]; rw [h1]
  · simp only [if_neg hk]; exact h0
end Go.Proofs.YtijlaclngibekaaGreatDoor

/- Responses that go on: plain lists. -/
namespace Go.Proofs.YtijlaclngibekaaGreatDoor

def weakL (t : List UInt8) : List UInt8 := if t.take 2 = [87, 47] then t else 87 :: 47 :: t
def cnameL : Nat → List UInt8
  | 0 => [105, 100, 101, 110, 116, 105, 116, 121]
  | 1 => [103, 122, 105, 112]
  | 2 => [100, 101, 102, 108, 97, 116, 101]
  | _ => []
def turn1 (fs : List (List UInt8 × List UInt8)) : List (List UInt8 × List UInt8) := dropL (dropL (dropL (dropL fs codeC) lenC) md5C) rangesC
def turn2 (fs : List (List UInt8 × List UInt8)) : List (List UInt8 × List UInt8) := if 0 < (getL fs etagC).length then setL fs etagC (weakL ((getL fs etagC).headD [])) else fs
def turn3 (fs : List (List UInt8 × List UInt8)) (tc : Nat) : List (List UInt8 × List UInt8) := if tc ≠ 0 then setL fs codeC (cnameL tc) else fs
def turn4 (fs : List (List UInt8 × List UInt8)) : List (List UInt8 × List UInt8) := if hasL fs varyC aeC = false ∧ hasL fs varyC [42] = false then fs ++ [varyF] else fs
def turnedL (fs : List (List UInt8 × List UInt8)) (tc : Nat) : List (List UInt8 × List UInt8) := turn4 (turn3 (turn2 (turn1 fs)) tc)
def respK (pass : Bool) (kind minor : Int) : Int := if kind = 0 ∨ pass = true ∧ kind = 1 then kind else if minor = 1 then 2 else 3
def respN (pass : Bool) (kind len : Int) : Int := if kind = 0 ∨ pass = true ∧ kind = 1 then len else 0
def respF (fs : List (List UInt8 × List UInt8)) (pass : Bool) (tc : Nat) (kind minor : Int) (keep : Bool) : List (List UInt8 × List UInt8) :=
  (if pass then withoutL fs else turnedL (withoutL fs) tc) ++ (if ¬ (kind = 0 ∨ pass = true ∧ kind = 1) ∧ minor = 1 then [chunkF] else []) ++ (if keep = false ∨ respK pass kind minor = 3 then [closeF] else [])

theorem turn1_drops (fs : List (List UInt8 × List UInt8)) : turn1 fs = dropsL fs [codeC, lenC, md5C, rangesC] := rfl
theorem fsOk_turn1 {fs : List (List UInt8 × List UInt8)} (h : fsOk fs) : fsOk (turn1 fs) := by rw [turn1_drops]; exact fsOk_drops h _
theorem weakL_len (t : List UInt8) : (weakL t).length ≤ t.length + 2 := by unfold weakL; split <;> simp
theorem getL_set_other {n m : List UInt8} (h : sameL n m = false) (v : List UInt8) (fs : List (List UInt8 × List UInt8)) : getL (setL fs n v) m = getL fs m := by
  have hne : ¬ lowL n = lowL m := fun e => by rw [sameL_iff.2 e] at h; cases h
  rw [setL_R]
  have hd : getL (dropL fs n) m = getL fs m := by
    have := getL_stays (names := [n]) (m := m) (by intro x hx; rw [List.mem_singleton.1 hx]; rcases hs : sameL m n with _ | _; rfl; exact absurd (sameL_iff.1 hs).symm hne) fs
    exact this
  clear hd
  induction fs with
  | nil => rw [setR, getL_cons, if_neg (by rw [h]; simp)]
  | cons f fs ih =>
    have hd : getL (dropL fs n) m = getL fs m := by
      have := getL_stays (names := [n]) (m := m) (by intro x hx; rw [List.mem_singleton.1 hx]; rcases hs : sameL m n with _ | _; rfl; exact absurd (sameL_iff.1 hs).symm hne) fs
      exact this
    rw [setR]
    by_cases hf : sameL f.1 n = true
    · rw [if_pos hf, getL_cons, getL_cons, hd]
      have : ¬ sameL f.1 m = true := fun e => hne ((sameL_iff.1 hf).symm.trans (sameL_iff.1 e))
      rw [if_neg this, if_neg this]
    · rw [if_neg hf, getL_cons, getL_cons, ih]
theorem turn2_len (fs : List (List UInt8 × List UInt8)) : (turn2 fs).length ≤ fs.length + 1 := by
  unfold turn2; split
  · exact setL_len _ _ _
  · omega
theorem head_le {fs : List (List UInt8 × List UInt8)} {b : Nat} (hok : ∀ f ∈ fs, f.2.length ≤ b) (n : List UInt8) : ((getL fs n).headD []).length ≤ b := by
  cases hg : getL fs n with
  | nil => simp
  | cons t l =>
    have : t ∈ getL fs n := by rw [hg]; simp
    obtain ⟨f, hf, rfl⟩ := List.mem_map.1 this
    exact hok f (List.mem_filter.1 hf).1
end Go.Proofs.YtijlaclngibekaaGreatDoor
/- SameFields: are two slices of fields the same? -/
namespace Go.Proofs.YtijlaclngibekaaGreatDoor
open Go.RowKit

end Go.Proofs.YtijlaclngibekaaGreatDoor
/- concertinalaw23.light; weak tags, Keeps, the law's answers; SameRequest. -/
namespace Go.Proofs.YtijlaclngibekaaGreatDoor
open Go.RowKit

def keepsB (minor : Int) (fs : List (List UInt8 × List UInt8)) : Bool := if hasL fs connL [99, 108, 111, 115, 101] = true then false else decide (minor = 1) || (decide (minor = 0) && hasL fs connL [107, 101, 101, 112, 45, 97, 108, 105, 118, 101])
theorem hasL_congr {a b : List UInt8} (h : lowL a = lowL b) (fs : List (List UInt8 × List UInt8)) (m : List UInt8) : hasL fs a m = hasL fs b m := by unfold hasL; rw [getL_congr h]

set_option maxRecDepth 100000 in
set_option maxHeartbeats 3200000 in
theorem keeps_any (minor : Int) (A : Option Addr) (n c B : Nat) (fs : List (List UInt8 × List UInt8)) (w : World) (h : Rd w B 2 A n (fcells fs)) (hB : B ≤ w.heap.size) (hn : n ≤ 1000) (hok : fsOk fs) :
    Calls Tryz.prog 107 #[.int .i64 minor, .slice A n c] w fun e w' => e = .returned (.bool (keepsB minor fs)) ∧ Below w.heap.size w w' := by
  have q1 := fun (W : World) (b : Below w.heap.size w W) => has_any A n c B fs ⟨#[67, 111, 110, 110, 101, 99, 116, 105, 111, 110]⟩ ⟨#[99, 108, 111, 115, 101]⟩ W (h.below (b.mono hB)) (Nat.le_trans hB b.size) (by omega) hok (by decide) (by decide)
  have q2 := fun (W : World) (b : Below w.heap.size w W) => has_any A n c B fs ⟨#[67, 111, 110, 110, 101, 99, 116, 105, 111, 110]⟩ ⟨#[107, 101, 101, 112, 45, 97, 108, 105, 118, 101]⟩ W (h.below (b.mono hB)) (Nat.le_trans hB b.size) (by omega) hok (by decide) (by decide)
  have e1 : hasL fs (⟨#[67, 111, 110, 110, 101, 99, 116, 105, 111, 110]⟩ : ByteArray).data.toList (⟨#[99, 108, 111, 115, 101]⟩ : ByteArray).data.toList = hasL fs connL [99, 108, 111, 115, 101] := hasL_congr (by decide) fs _
  have e2 : hasL fs (⟨#[67, 111, 110, 110, 101, 99, 116, 105, 111, 110]⟩ : ByteArray).data.toList (⟨#[107, 101, 101, 112, 45, 97, 108, 105, 118, 101]⟩ : ByteArray).data.toList = hasL fs connL [107, 101, 101, 112, 45, 97, 108, 105, 118, 101] := hasL_congr (by decide) fs _
  rw [e1] at q1
  rw [e2] at q2
  obtain ⟨r, hr⟩ : ∃ r, r = keepsB minor fs := ⟨_, rfl⟩
  rw [← hr]
  unfold keepsB at hr
  obtain ⟨x, hx⟩ : ∃ x, x = hasL fs connL [99, 108, 111, 115, 101] := ⟨_, rfl⟩
  obtain ⟨y, hy⟩ : ∃ y, y = hasL fs connL [107, 101, 101, 112, 45, 97, 108, 105, 118, 101] := ⟨_, rfl⟩
  rw [← hx] at q1
  rw [← hy] at q2
  rw [← hx, ← hy] at hr
  have HR := hide hr
  clear hr hx hy e1 e2 h hok
  rcases x with _ | _
  · by_cases h1 : minor = 1
    · subst h1
      go_enter Tryz.func107, Tryz.ntmps107
      go_wp2_with fail
      refine (q1 w (Below.refl _ _)).mono ?_
      rintro e w1 ⟨rfl, b⟩
      go_wp2
      go_ret
      exact ⟨ret_bool (by rw [HR.out]; rfl), b⟩
    · by_cases h0 : minor = 0
      · subst h0
        go_enter Tryz.func107, Tryz.ntmps107
        go_wp2_with fail
        refine (q1 w (Below.refl _ _)).mono ?_
        rintro e w1 ⟨rfl, b⟩
        go_wp2_with fail
        refine (q2 w1 b).mono ?_
        rintro e w2 ⟨rfl, b2⟩
        go_wp2
        go_ret
        exact ⟨ret_bool (by rw [HR.out]; rfl), b.trans (b2.mono b.size)⟩
      · have e1 : (minor == 1) = false := by simpa using h1
        have e0 : (minor == 0) = false := by simpa using h0
        have HR2 := hide (show r = false by rw [HR.out]; simp [h1, h0])
        clear h1 h0
        go_enter Tryz.func107, Tryz.ntmps107
        go_wp2_with fail
        refine (q1 w (Below.refl _ _)).mono ?_
        rintro e w1 ⟨rfl, b⟩
        go_wp2
        go_ret
        exact ⟨ret_bool (by rw [HR2.out]), b⟩
  · go_enter Tryz.func107, Tryz.ntmps107
    go_wp2_with fail
    refine (q1 w (Below.refl _ _)).mono ?_
    rintro e w1 ⟨rfl, b⟩
    go_wp2
    go_ret
    exact ⟨ret_bool (by rw [HR.out]; rfl), b⟩

def prefB (p s : List UInt8) : Bool := decide (p.length ≤ s.length) && decide (s.take p.length = p)
set_option maxRecDepth 100000 in
set_option maxHeartbeats 3200000 in
theorem wpre_any (s : ByteArray) (w : World) (hs : s.size ≤ 9223372036854775807) :
    Calls Tryz.prog 145 #[.string s, .string ⟨#[87, 47]⟩] w fun e w' => e = .returned (.bool (decide (s.data.toList.take 2 = [87, 47]))) ∧ w = w' := by
  have hz := size_of s
  obtain ⟨r, hr⟩ : ∃ r, r = decide (s.data.toList.take 2 = [87, 47]) := ⟨_, rfl⟩
  rw [← hr]
  by_cases h2 : 2 ≤ s.size
  · have hx : ((s.extract 0 2).toList == [87, 47]) = r := by rw [ByteArray.toList_eq, extract_list, hr, Bool.eq_iff_iff, decide_eq_true_iff]; simp
    clear hr hz
    go_enter Tryz.func145, Tryz.ntmps145
    go_wp2
    go_ret
    exact ⟨rfl, rfl⟩
  · have hx : r = false := by
      rw [hr, decide_eq_false_iff_not]
      intro h
      have := congrArg List.length h
      rw [List.length_take] at this
      simp at this
      omega
    have HX := hide hx
    clear hr hz hx
    go_enter Tryz.func145, Tryz.ntmps145
    go_wp2
    go_ret
    exact ⟨ret_bool (by rw [HX.out]), rfl⟩
theorem weak_bytes (s : ByteArray) : (decide (s.data.toList.take 2 = [87, 47]) = true → (⟨(weakL s.data.toList).toArray⟩ : ByteArray) = s) ∧ (decide (s.data.toList.take 2 = [87, 47]) = false → (⟨(weakL s.data.toList).toArray⟩ : ByteArray) = ⟨#[87, 47]⟩ ++ s) := by
  constructor
  · intro h
    have h' := of_decide_eq_true h
    unfold weakL
    rw [if_pos h']
  · intro h
    have h' := of_decide_eq_false h
    unfold weakL
    rw [if_neg h']
    exact bytes_ext (by simp)
set_option maxRecDepth 100000 in
set_option maxHeartbeats 3200000 in
theorem weak_any (s : ByteArray) (w : World) (hs : s.size ≤ 1000000) :
    Calls Tryz.prog 252 #[.string s] w fun e w' => e = .returned (.string ⟨(weakL s.data.toList).toArray⟩) ∧ Below w.heap.size w w' := by
  have hw := wpre_any s w (by omega)
  obtain ⟨h1, h2⟩ := weak_bytes s
  rcases hp : decide (s.data.toList.take 2 = [87, 47]) with _ | _
  · rw [hp] at hw
    rw [h2 hp]
    clear h1 h2 hp
    go_enter Tryz.func252, Tryz.ntmps252
    go_wp2_with fail
    refine hw.mono ?_
    rintro e w1 ⟨rfl, rfl⟩
    go_wp2
    go_ret
    exact ⟨rfl, Below.refl _ _⟩
  · rw [hp] at hw
    rw [h1 hp]
    clear h1 h2 hp
    go_enter Tryz.func252, Tryz.ntmps252
    go_wp2_with fail
    refine hw.mono ?_
    rintro e w1 ⟨rfl, rfl⟩
    go_wp2
    go_ret
    exact ⟨rfl, Below.refl _ _⟩
end Go.Proofs.YtijlaclngibekaaGreatDoor
