/- FieldSplits returns true for any string. -/
import Derived.Test.YtgdjlmpfjmakkaaGreatDoorSplit
import Derived.Test.YtgdjlmpfjmakkaaGreatDoorTexts
import Derived.Test.YtgdjlmpfjmakkaaGreatDoorGets
namespace Go.Proofs.YtgdjlmpfjmakkaaGreatDoor.FieldSplitsP
open Go.RowKit

theorem dropWhile_first {p : UInt8 → Bool} : ∀ l : List UInt8, l.dropWhile p = [] ∨ ∃ a, (l.dropWhile p).head? = some a ∧ p a = false
  | [] => .inl rfl
  | x :: l => by
    rw [List.dropWhile_cons]
    by_cases h : p x = true
    · rw [if_pos h]; exact dropWhile_first l
    · rw [if_neg h]; exact .inr ⟨x, rfl, by simpa using h⟩
theorem dropWhile_last {p : UInt8 → Bool} : ∀ l : List UInt8, l.dropWhile p = [] ∨ (l.dropWhile p).getLast? = l.getLast?
  | [] => .inl rfl
  | x :: l => by
    rw [List.dropWhile_cons]
    by_cases h : p x = true
    · rw [if_pos h]
      rcases dropWhile_last (p := p) l with h1 | h1
      · exact .inl h1
      · by_cases h2 : l.dropWhile p = []
        · exact .inl h2
        · right
          rw [h1]
          cases l with
          | nil => simp at h2
          | cons y l => simp [List.getLast?_cons]
    · rw [if_neg h]; exact .inr rfl
theorem trim_idem (y : List UInt8) : trimL (trimL y) = trimL y := by
  have h1 : trimL y = [] ∨ ∃ a, (trimL y).head? = some a ∧ blankB a = false := dropWhile_first (p := blankB) _
  have h2 : trimL y = [] ∨ ∃ a, (trimL y).getLast? = some a ∧ blankB a = false := by
    rcases dropWhile_last (p := blankB) (Lib.trimRightS y [32, 9]) with h | h
    · exact .inl h
    · rcases dropWhile_first (p := blankB) y.reverse with h3 | ⟨a, h3, h4⟩
      · left
        have : Lib.trimRightS y [32, 9] = [] := by show (y.reverse.dropWhile blankB).reverse = []; rw [h3]; rfl
        show (Lib.trimRightS y [32, 9]).dropWhile blankB = []
        rw [this]; rfl
      · right
        refine ⟨a, ?_, h4⟩
        show ((Lib.trimRightS y [32, 9]).dropWhile blankB).getLast? = some a
        rw [h]
        show ((y.reverse.dropWhile blankB).reverse).getLast? = some a
        rw [List.getLast?_reverse, h3]
  have := trim_mid [] (trimL y) [] rfl rfl h1 h2
  simpa using this
theorem trimL_length (l : List UInt8) : (trimL l).length ≤ l.length := by
  show ((Lib.trimRightS l [32, 9]).dropWhile blankB).length ≤ _
  have h1 : ∀ (p : UInt8 → Bool) (m : List UInt8), (m.dropWhile p).length ≤ m.length := fun p m => (List.dropWhile_suffix p).length_le
  refine Nat.le_trans (h1 _ _) ?_
  show ((l.reverse.dropWhile blankB).reverse).length ≤ _
  rw [List.length_reverse]
  refine Nat.le_trans (h1 _ _) ?_
  simp
theorem piece_mem {l x : List UInt8} (h : x ∈ pieceL l) : x.length ≤ l.length := by
  unfold pieceL at h
  split at h
  · simp at h
  · simp at h; subst h; exact trimL_length l
theorem split_mem : ∀ (n : Nat) (l : List UInt8), l.length ≤ n → ∀ x ∈ splitL l, x.length ≤ l.length
  | n, l, h, x, hx => by
    by_cases hc : cutL false l < l.length
    · rw [splitL_step l hc, List.mem_append] at hx
      rcases hx with hx | hx
      · exact Nat.le_trans (piece_mem hx) (by simp; omega)
      · match n with
        | 0 => omega
        | n + 1 => exact Nat.le_trans (split_mem n _ (by simp; omega) x hx) (by simp)
    · rw [splitL_last l hc] at hx; exact piece_mem hx

end Go.Proofs.YtgdjlmpfjmakkaaGreatDoor.FieldSplitsP

/- The reference's All; Has of both. -/
namespace Go.Proofs.YtgdjlmpfjmakkaaGreatDoor
open Go.RowKit

def hasM (ss : List (List UInt8)) (m : List UInt8) : Bool := ss.any fun s => sameL s m
def hasV (vs : List (List UInt8)) (m : List UInt8) : Bool := vs.any fun v => hasM (splitL v) m
def hasL (fs : List (List UInt8 × List UInt8)) (name m : List UInt8) : Bool := hasV (getL fs name) m
def allV (vs : List (List UInt8)) : List (List UInt8) := vs.flatMap splitL
def allL (fs : List (List UInt8 × List UInt8)) (name : List UInt8) : List (List UInt8) := allV (getL fs name)
theorem hasM_snoc (ss : List (List UInt8)) (m : List UInt8) (k : Nat) (h : k < ss.length) : hasM (ss.take (k + 1)) m = (hasM (ss.take k) m || sameL ss[k] m) := by
  unfold hasM; rw [list_take_snoc ss k h, List.any_append, List.any_cons, List.any_nil, Bool.or_false]
theorem hasM_of (ss : List (List UInt8)) (m : List UInt8) (k : Nat) (h : k < ss.length) (hs : sameL ss[k] m = true) : hasM ss m = true := by
  unfold hasM; rw [List.any_eq_true]; exact ⟨_, List.getElem_mem h, hs⟩
theorem hasV_snoc (ss : List (List UInt8)) (m : List UInt8) (k : Nat) (h : k < ss.length) : hasV (ss.take (k + 1)) m = (hasV (ss.take k) m || hasM (splitL ss[k]) m) := by
  unfold hasV; rw [list_take_snoc ss k h, List.any_append, List.any_cons, List.any_nil, Bool.or_false]
theorem hasV_of (ss : List (List UInt8)) (m : List UInt8) (k : Nat) (h : k < ss.length) (hs : hasM (splitL ss[k]) m = true) : hasV ss m = true := by
  unfold hasV; rw [List.any_eq_true]; exact ⟨_, List.getElem_mem h, hs⟩
theorem hasM_all (vs : List (List UInt8)) (m : List UInt8) : hasM (allV vs) m = hasV vs m := by
  unfold hasM allV hasV; rw [List.any_flatMap]; rfl
theorem allV_snoc (vs : List (List UInt8)) (k : Nat) (h : k < vs.length) : allV (vs.take (k + 1)) = allV (vs.take k) ++ splitL vs[k] := by
  unfold allV; rw [list_take_snoc vs k h, List.flatMap_append, List.flatMap_cons, List.flatMap_nil, List.append_nil]
theorem allV_len : ∀ (vs : List (List UInt8)), (∀ v ∈ vs, v.length ≤ 1000000) → (allV vs).length ≤ vs.length * 1000001
  | [], _ => by simp [allV]
  | v :: vs, h => by
    have h1 := split_length v
    have h2 := h v (by simp)
    have h3 := allV_len vs fun x hx => h x (by simp [hx])
    have : allV (v :: vs) = splitL v ++ allV vs := by simp [allV]
    rw [this, List.length_append, List.length_cons]; omega
theorem allV_mem (vs : List (List UInt8)) (h : ∀ v ∈ vs, v.length ≤ 1000000) : ∀ x ∈ allV vs, x.length ≤ 1000000 := by
  intro x hx
  obtain ⟨v, hv, hxv⟩ := List.mem_flatMap.1 hx
  exact Nat.le_trans (FieldSplitsP.split_mem _ _ (Nat.le_refl _) x hxv) (h v hv)
theorem getL_mem {fs : List (List UInt8 × List UInt8)} (h : fsOk fs) (name : List UInt8) : ∀ v ∈ getL fs name, v.length ≤ 1000000 := by
  intro v hv
  unfold getL at hv
  obtain ⟨f, hf, rfl⟩ := List.mem_map.1 hv
  exact (h f (List.mem_filter.1 hf).1).2

set_option maxRecDepth 100000 in
set_option maxHeartbeats 3200000 in
theorem all_any (A : Option Addr) (n c B : Nat) (fs : List (List UInt8 × List UInt8)) (name : ByteArray) (w : World) (h : Rd w B 2 A n (fcells fs)) (hB : B ≤ w.heap.size) (hn : n ≤ 1000) (hok : fsOk fs) (hname : name.size ≤ 1000000) :
    Calls Tryz.prog 22 #[.slice A n c, .string name] w fun e w' => ∃ A' c', e = .returned (.slice A' (allL fs name.data.toList).length c') ∧
      w'.ownsRow w.heap.size 9 1 (.slice A' (allL fs name.data.toList).length c') (allL fs name.data.toList).length (scells (allL fs name.data.toList)) ∧ (allL fs name.data.toList).length ≤ c' ∧ Below w.heap.size w w' := by
  obtain ⟨i0, hi0, hz0, hz1, hz2⟩ := info_parts infoStr
  have hg := refget_any A n c B fs name w h hB (by omega) hok hname
  have hmem := getL_mem hok name.data.toList
  have hvl := getL_len fs name.data.toList
  have hfl := h.flen
  rw [hfl] at hvl
  unfold allL
  obtain ⟨vs, hvs⟩ : ∃ vs, vs = getL fs name.data.toList := ⟨_, rfl⟩
  rw [← hvs] at hg hmem hvl ⊢
  have HM := hide hmem
  clear hmem hfl h hok hvs
  go_enter Tryz.func22, Tryz.ntmps22
  go_wp2_with fail
  refine hg.mono ?_
  rintro e w1 ⟨A1, c1, rfl, o1, hc1, b1⟩
  have r1 := Rd.of_own o1
  clear o1
  go_wp2_with fail
  go_loopw [5, 7] (fun o i wr => ∃ k : Nat, k ≤ vs.length ∧ i = .int .i64 k ∧ wr.ownsRow w1.heap.size 9 1 o (allV (vs.take k)).length (scells (allV (vs.take k))) ∧ Below w1.heap.size w1 wr) (fun _ i _ => vs.length - (intOf i).toNat)
  case atStart => exact ⟨0, Nat.zero_le _, rfl, World.ownsRow_nil _ _ _ _, Below.refl _ _⟩
  case round =>
    obtain ⟨k, hk, rfl, ho, hb⟩ := hrel
    by_cases hlt : k < vs.length
    · obtain ⟨a, rfl, -, hcell⟩ := (r1.below hb).text hlt hlt
      have hsn := allV_snoc vs k hlt
      have hal := allV_len (vs.take k) fun v hv => HM.out v (List.mem_of_mem_take hv)
      rw [List.length_take, Nat.min_eq_left hk] at hal
      have hxs := HM.out vs[k] (List.getElem_mem hlt)
      have hbz := hb.size
      obtain ⟨x, hx⟩ : ∃ x, x = vs[k] := ⟨_, rfl⟩
      rw [← hx] at hcell hsn hxs
      have hs := fun w => refsplit_any ⟨x.toArray⟩ w (by rw [mk_size]; omega)
      rw [mk_list] at hs
      have hsl := split_length x
      obtain ⟨ys, hys⟩ : ∃ ys, ys = splitL x := ⟨_, rfl⟩
      rw [← hys] at hs hsn hsl
      obtain ⟨gk, hgk⟩ : ∃ gk, gk = allV (vs.take k) := ⟨_, rfl⟩
      rw [← hgk] at hsn hal ho
      obtain ⟨sx, hsx⟩ : ∃ sx : ByteArray, sx = ⟨x.toArray⟩ := ⟨_, rfl⟩
      rw [← hsx] at hcell hs
      have HS := hide hsn
      clear hsn hx hys hgk hsx
      go_wp2_with fail
      refine (hs _).mono ?_
      rintro e w2 ⟨A2, c2, rfl, o2, hc2, b2⟩
      have r2 := Rd.of_own o2
      have ho2 := own_below ho b2
      have hb2 := hb.trans (b2.mono hbz)
      have hb2z := hb2.size
      clear o2 hs ho
      go_wp2_with (at_builtin; refine wpl_append _ rfl _ _ _ rfl w1.heap.size _ i0 _ 1 16 Tryz.underlying23 hi0 hz0 hz1 hz2 rfl (by omega) _ _ _ rfl _ _ _ _ _ rfl ho2 r2 (scells_one ys) (by simp [maxLen]; omega) (by omega) hb2z ?_; intro v1 w3 hown1 hbel1 _)
      go_roundw
      case rel => exact ⟨k + 1, by omega, by go_num, by rw [HS.out, List.length_append, ← scells_append]; exact hown1, hb2.trans hbel1⟩
      case measure => simp [intOf]; omega
    · rw [List.take_of_length_le (by omega)] at ho
      go_wp2
      go_ret
      obtain ⟨A', c', rfl, hc', -⟩ := own_shape ho
      exact ⟨A', c', rfl, own_base ho b1.size, hc', b1.trans (hb.mono b1.size)⟩

set_option maxRecDepth 100000 in
set_option maxHeartbeats 3200000 in
theorem refhas_any (A : Option Addr) (n c B : Nat) (fs : List (List UInt8 × List UInt8)) (name m : ByteArray) (w : World) (h : Rd w B 2 A n (fcells fs)) (hB : B ≤ w.heap.size) (hn : n ≤ 1000) (hok : fsOk fs) (hname : name.size ≤ 1000000) (hm : m.size ≤ 1000000) :
    Calls Tryz.prog 24 #[.slice A n c, .string name, .string m] w fun e w' => e = .returned (.bool (hasL fs name.data.toList m.data.toList)) ∧ Below w.heap.size w w' := by
  have hg := all_any A n c B fs name w h hB hn hok hname
  have hmem := allV_mem _ (getL_mem hok name.data.toList)
  have hal := allV_len _ (getL_mem hok name.data.toList)
  have hvl := getL_len fs name.data.toList
  have hfl := h.flen
  have hhas : hasL fs name.data.toList m.data.toList = hasM (allL fs name.data.toList) m.data.toList := (hasM_all _ _).symm
  rw [hhas]
  change ∀ x ∈ allL fs name.data.toList, _ at hmem
  change (allL fs name.data.toList).length ≤ _ at hal
  have hal' : (allL fs name.data.toList).length ≤ 2000000000 := by omega
  obtain ⟨vs, hvs⟩ : ∃ vs, vs = allL fs name.data.toList := ⟨_, rfl⟩
  rw [← hvs] at hg hmem hal' ⊢
  have HM := hide hmem
  clear hmem hfl h hok hvs hal hvl hhas
  go_enter Tryz.func24, Tryz.ntmps24
  go_wp2_with fail
  refine hg.mono ?_
  rintro e w1 ⟨A1, c1, rfl, o1, hc1, b1⟩
  have r1 := Rd.of_own o1
  clear o1
  go_wp2_with fail
  go_loopw [8] (fun i wr => ∃ k : Nat, k ≤ vs.length ∧ i = .int .i64 k ∧ hasM (vs.take k) m.data.toList = false ∧ Below w1.heap.size w1 wr) (fun i _ => vs.length - (intOf i).toNat)
  case atStart => exact ⟨0, Nat.zero_le _, rfl, rfl, Below.refl _ _⟩
  case round =>
    obtain ⟨k, hk, rfl, ht, hb⟩ := hrel
    by_cases hlt : k < vs.length
    · obtain ⟨a, rfl, -, hcell⟩ := (r1.below hb).text hlt hlt
      have hsn := hasM_snoc vs m.data.toList k hlt
      have hof := hasM_of vs m.data.toList k hlt
      rw [ht] at hsn
      have hxs := HM.out vs[k] (List.getElem_mem hlt)
      have hbz := hb.size
      obtain ⟨x, hx⟩ : ∃ x, x = vs[k] := ⟨_, rfl⟩
      rw [← hx] at hcell hsn hxs hof
      have hl1 := fun w => reflower_any ⟨x.toArray⟩ w (by rw [mk_size]; omega)
      have hl2 := fun w => reflower_any m w (by omega)
      rw [mk_list] at hl1
      have hle := low_eq x m.data.toList
      obtain ⟨sx, hsx⟩ : ∃ sx : ByteArray, sx = ⟨x.toArray⟩ := ⟨_, rfl⟩
      obtain ⟨l1, hl1'⟩ : ∃ l1 : ByteArray, l1 = ⟨(lowL x).toArray⟩ := ⟨_, rfl⟩
      obtain ⟨l2, hl2'⟩ : ∃ l2 : ByteArray, l2 = ⟨(lowL m.data.toList).toArray⟩ := ⟨_, rfl⟩
      rw [← hsx] at hcell hl1
      rw [← hl1'] at hl1 hle
      rw [← hl2'] at hl2 hle
      clear hx hsx hl1' hl2' ht
      rcases hcase : sameL x m.data.toList with _ | _
      · rw [hcase] at hle hsn
        have HS := hide hsn
        clear hcase hof hsn
        go_wp2_with fail
        refine (hl1 _).mono ?_
        rintro e w2 ⟨rfl, b2⟩
        go_wp2_with fail
        refine (hl2 _).mono ?_
        rintro e w3 ⟨rfl, b3⟩
        have b23 := b2.trans (b3.mono b2.size)
        go_wp2
        go_roundw
        case rel => exact ⟨k + 1, by omega, by go_num, HS.out, hb.trans (b23.mono hbz)⟩
        case measure => simp [intOf]; omega
      · rw [hcase] at hle
        have HF := hide (hof hcase)
        clear hcase hof hsn
        go_wp2_with fail
        refine (hl1 _).mono ?_
        rintro e w2 ⟨rfl, b2⟩
        go_wp2_with fail
        refine (hl2 _).mono ?_
        rintro e w3 ⟨rfl, b3⟩
        have b23 := b2.trans (b3.mono b2.size)
        go_wp2
        go_ret
        exact ⟨ret_bool HF.out.symm, b1.trans ((hb.trans (b23.mono hbz)).mono b1.size)⟩
    · rw [List.take_of_length_le (by omega)] at ht
      have HT := hide ht
      clear ht
      go_wp2
      go_ret
      exact ⟨ret_bool HT.out.symm, b1.trans (hb.mono b1.size)⟩

set_option maxRecDepth 100000 in
set_option maxHeartbeats 3200000 in
theorem has_any (A : Option Addr) (n c B : Nat) (fs : List (List UInt8 × List UInt8)) (name m : ByteArray) (w : World) (h : Rd w B 2 A n (fcells fs)) (hB : B ≤ w.heap.size) (hn : n ≤ 1000000) (hok : fsOk fs) (hname : name.size ≤ 1000000) (hm : m.size ≤ 1000000) :
    Calls Tryz.prog 31 #[.slice A n c, .string name, .string m] w fun e w' => e = .returned (.bool (hasL fs name.data.toList m.data.toList)) ∧ Below w.heap.size w w' := by
  have hg := get_any A n c B fs name w h hB hn hok hname
  have hmem := getL_mem hok name.data.toList
  have hvl := getL_len fs name.data.toList
  have hfl := h.flen
  rw [hfl] at hvl
  unfold hasL
  obtain ⟨vs, hvs⟩ : ∃ vs, vs = getL fs name.data.toList := ⟨_, rfl⟩
  rw [← hvs] at hg hmem hvl ⊢
  have HM := hide hmem
  clear hmem hfl h hok hvs
  go_enter Tryz.func31, Tryz.ntmps31
  go_wp2_with fail
  refine hg.mono ?_
  rintro e w1 ⟨A1, c1, rfl, o1, hc1, b1⟩
  have r1 := Rd.of_own o1
  clear o1
  go_wp2_with fail
  go_loopw [15] (fun i wr => ∃ k : Nat, k ≤ vs.length ∧ i = .int .i64 k ∧ hasV (vs.take k) m.data.toList = false ∧ Below w1.heap.size w1 wr) (fun i _ => vs.length - (intOf i).toNat)
  case atStart => exact ⟨0, Nat.zero_le _, rfl, rfl, Below.refl _ _⟩
  case round =>
    obtain ⟨k, hk, rfl, ht, hb⟩ := hrel
    by_cases hlt : k < vs.length
    · obtain ⟨a, rfl, -, hcell⟩ := (r1.below hb).text hlt hlt
      have hsn := hasV_snoc vs m.data.toList k hlt
      have hof := hasV_of vs m.data.toList k hlt
      rw [ht] at hsn
      have hxs := HM.out vs[k] (List.getElem_mem hlt)
      have hbz := hb.size
      obtain ⟨x, hx⟩ : ∃ x, x = vs[k] := ⟨_, rfl⟩
      rw [← hx] at hcell hsn hxs hof
      have hs := fun w => split_any ⟨x.toArray⟩ w (by rw [mk_size]; omega)
      rw [mk_list] at hs
      have hsl := split_length x
      have hsm := FieldSplitsP.split_mem _ x (Nat.le_refl _)
      obtain ⟨ys, hys⟩ : ∃ ys, ys = splitL x := ⟨_, rfl⟩
      rw [← hys] at hs hsn hsl hsm hof
      obtain ⟨sx, hsx⟩ : ∃ sx : ByteArray, sx = ⟨x.toArray⟩ := ⟨_, rfl⟩
      rw [← hsx] at hcell hs
      have HS := hide hsn
      have HO := hide hof
      have HSM := hide hsm
      clear hsn hx hys hsx hof hsm ht
      go_wp2_with fail
      refine (hs _).mono ?_
      rintro e w2 ⟨A2, c2, rfl, o2, hc2, b2⟩
      have r2 := Rd.of_own o2
      have hb2 := hb.trans (b2.mono hbz)
      have hb2z := hb2.size
      clear o2 hs
      go_wp2_with fail
      go_loopw [22] (fun i wq => ∃ j : Nat, j ≤ ys.length ∧ i = .int .i64 j ∧ hasM (ys.take j) m.data.toList = false ∧ Below w2.heap.size w2 wq) (fun i _ => ys.length - (intOf i).toNat)
      case atStart => exact ⟨0, Nat.zero_le _, rfl, rfl, Below.refl _ _⟩
      case round =>
        obtain ⟨j, hj, rfl, htj, hbj⟩ := hrel
        by_cases hjt : j < ys.length
        · obtain ⟨a2, rfl, -, hcell2⟩ := (r2.below hbj).text hjt hjt
          have hsn2 := hasM_snoc ys m.data.toList j hjt
          have hof2 := hasM_of ys m.data.toList j hjt
          rw [htj] at hsn2
          have hys2 := HSM.out ys[j] (List.getElem_mem hjt)
          have hbjz := hbj.size
          obtain ⟨y, hy⟩ : ∃ y, y = ys[j] := ⟨_, rfl⟩
          rw [← hy] at hcell2 hsn2 hys2 hof2
          have hsame := fun w => fieldsame_any ⟨y.toArray⟩ m w (by rw [mk_size]; omega) (by omega)
          rw [mk_list] at hsame
          obtain ⟨sy, hsy⟩ : ∃ sy : ByteArray, sy = ⟨y.toArray⟩ := ⟨_, rfl⟩
          rw [← hsy] at hcell2 hsame
          clear hy hsy htj hcell
          rcases hcase : sameL y m.data.toList with _ | _
          · rw [hcase] at hsame hsn2
            have HS2 := hide hsn2
            clear hcase hof2 hsn2
            go_wp2_with fail
            refine (hsame _).mono ?_
            rintro e w3 ⟨rfl, b3⟩
            go_wp2
            go_roundw
            case rel => exact ⟨j + 1, by omega, by go_num, HS2.out, hbj.trans (b3.mono hbjz)⟩
            case measure => simp [intOf]; omega
          · rw [hcase] at hsame
            have HF := hide (HO.out (hof2 hcase))
            clear hcase hof2 hsn2
            go_wp2_with fail
            refine (hsame _).mono ?_
            rintro e w3 ⟨rfl, b3⟩
            go_wp2
            go_ret
            have hq := hb2.trans ((hbj.trans (b3.mono hbjz)).mono hb2z)
            exact ⟨ret_bool HF.out.symm, b1.trans (hq.mono b1.size)⟩
        · rw [List.take_of_length_le (by omega)] at htj
          have hfin := HS.out
          rw [htj] at hfin
          have HFin := hide hfin
          clear htj hfin hcell
          go_wp2
          go_roundw
          case rel => exact ⟨k + 1, by omega, by go_num, HFin.out, hb2.trans (hbj.mono hb2z)⟩
          case measure => simp [intOf]; omega
    · rw [List.take_of_length_le (by omega)] at ht
      have HT := hide ht
      clear ht
      go_wp2
      go_ret
      exact ⟨ret_bool HT.out.symm, b1.trans (hb.mono b1.size)⟩
end Go.Proofs.YtgdjlmpfjmakkaaGreatDoor

/- concertinalaw16.light: are fields not too many, and not too long? -/
namespace Go.Proofs.YtgdjlmpfjmakkaaGreatDoor
open Go.RowKit

def okF (f : List UInt8 × List UInt8) : Bool := decide (f.1.length ≤ 600) && decide (f.2.length ≤ 6000)
def lightB (fs : List (List UInt8 × List UInt8)) : Bool := fs.all okF
def lightL (fs : List (List UInt8 × List UInt8)) : Bool := lightB fs && decide (fs.length ≤ 100)
theorem lightB_snoc (fs : List (List UInt8 × List UInt8)) (k : Nat) (h : k < fs.length) : lightB (fs.take (k + 1)) = (lightB (fs.take k) && okF fs[k]) := by
  unfold lightB; rw [list_take_snoc fs k h, List.all_append, List.all_cons, List.all_nil, Bool.and_true]
theorem lightL_of (fs : List (List UInt8 × List UInt8)) (k : Nat) (h : k < fs.length) (hs : okF fs[k] = false) : lightL fs = false := by
  unfold lightL lightB
  rw [Bool.and_eq_false_iff]
  left
  rw [List.all_eq_false]
  exact ⟨_, List.getElem_mem h, by rw [hs]; simp⟩
theorem lightL_ok {fs : List (List UInt8 × List UInt8)} (h : lightL fs = true) : fsOk fs ∧ fs.length ≤ 100 ∧ ∀ f ∈ fs, f.1.length ≤ 600 ∧ f.2.length ≤ 6000 := by
  unfold lightL lightB at h
  simp only [Bool.and_eq_true, decide_eq_true_eq, List.all_eq_true, okF] at h
  refine ⟨fun f hf => ?_, h.2, h.1⟩
  have := h.1 f hf
  omega

end Go.Proofs.YtgdjlmpfjmakkaaGreatDoor
