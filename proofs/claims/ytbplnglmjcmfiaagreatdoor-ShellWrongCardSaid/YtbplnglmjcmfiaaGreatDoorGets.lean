/- Fields in memory; the values of a name. -/
import Derived.Test.YtbplnglmjcmfiaaGreatDoorSplit
namespace Go.Proofs.YtbplnglmjcmfiaaGreatDoor
open Go.RowKit

/-- The cells that hold fields. -/
def fcells : List (List UInt8 × List UInt8) → List Value
  | [] => []
  | f :: l => .string ⟨f.1.toArray⟩ :: .string ⟨f.2.toArray⟩ :: fcells l
theorem fcells_length : ∀ l, (fcells l).length = l.length * 2
  | [] => rfl
  | f :: l => by simp [fcells, fcells_length l]; omega
theorem fcells_append : ∀ a b, fcells a ++ fcells b = fcells (a ++ b)
  | [], b => rfl
  | f :: a, b => by simp [fcells, fcells_append a b]
theorem fcells_one : ∀ l, ∀ u ∈ fcells l, u.oneCell' = true
  | [], u, h => by simp [fcells] at h
  | f :: l, u, h => by
    simp only [fcells, List.mem_cons] at h
    rcases h with rfl | rfl | h
    · rfl
    · rfl
    · exact fcells_one l u h
theorem fcells_get : ∀ (l : List (List UInt8 × List UInt8)) (k : Nat) (h : k < l.length), (fcells l)[k * 2]? = some (.string ⟨l[k].1.toArray⟩) ∧ (fcells l)[k * 2 + 1]? = some (.string ⟨l[k].2.toArray⟩)
  | f :: l, 0, _ => ⟨rfl, rfl⟩
  | f :: l, k + 1, h => by
    have := fcells_get l k (by simpa using h)
    simp only [fcells, show (k + 1) * 2 = k * 2 + 1 + 1 by omega, List.getElem?_cons_succ, List.getElem_cons_succ]
    exact this
theorem own_snoc_fld {w : World} {base e n : Nat} {v : Value} {ls : List (List UInt8 × List UInt8)} {s t : ByteArray} {f : List UInt8 × List UInt8} (h : w.ownsRow base e 2 v (n + 1) (fcells ls ++ (#[Value.string s, .string t]).toList)) (h1 : s.data.toList = f.1) (h2 : t.data.toList = f.2) :
    w.ownsRow base e 2 v (n + 1) (fcells (ls ++ [f])) := by
  rw [← fcells_append]
  have e1 : s = ⟨f.1.toArray⟩ := bytes_ext (by simp [h1])
  have e2 : t = ⟨f.2.toArray⟩ := bytes_ext (by simp [h2])
  subst e1 e2
  exact h
/-- A field's two cells. -/
theorem Rd.fld {w : World} {B n : Nat} {A : Option Addr} {l : List (List UInt8 × List UInt8)} (h : Rd w B 2 A n (fcells l)) {k : Nat} (hk : k < n) (hl : k < l.length) :
    ∃ b off, A = some ⟨b, off, none⟩ ∧ b < B ∧ w.cell? ⟨b, off + k * 2, none⟩ = some (.string ⟨l[k].1.toArray⟩) ∧ w.cell? ⟨b, off + k * 2 + 1, none⟩ = some (.string ⟨l[k].2.toArray⟩) := by
  obtain ⟨a, rfl, hb, hc⟩ := h.at_ hk
  obtain ⟨b, off, spot⟩ := a
  have h0 := hc (k * 2) _ (fcells_get l k hl).1
  have h1 := hc (k * 2 + 1) _ (fcells_get l k hl).2
  have hs : spot = none := by
    have h00 := hc 0 _ (by have := (fcells_get l 0 (by omega)).1; simpa using this)
    simpa [Addr.add] using World.cell?_spot h00
  subst hs
  rw [Addr.add_lit] at h0 h1
  exact ⟨b, off, rfl, hb, h0, h1⟩
theorem Rd.flen {w : World} {B n : Nat} {A : Option Addr} {l : List (List UInt8 × List UInt8)} (h : Rd w B 2 A n (fcells l)) : l.length = n := by have := h.1; rw [fcells_length] at this; omega

/-- A cell of a new block, behind a call that leaves it alone. -/
theorem new_kept {w w2 : World} {cs : Array Value} {t : TypeId} {n i : Nat} {v : Value} (h : Below n (w.alloc (.cells cs t)) w2) (hn : n = w.heap.size + 1) (hi : cs[i]? = some v) : w2.cell? ⟨w.heap.size, i, none⟩ = some v := by
  subst hn
  rw [h.cell (p := ⟨w.heap.size, i, none⟩) (Nat.lt_succ_self _), World.cell?_alloc_new]; exact hi
/-- The values of a name. -/
def getL (fs : List (List UInt8 × List UInt8)) (name : List UInt8) : List (List UInt8) := (fs.filter fun f => sameL f.1 name).map (·.2)
theorem getL_snoc (fs : List (List UInt8 × List UInt8)) (name : List UInt8) (k : Nat) (h : k < fs.length) : getL (fs.take (k + 1)) name = getL (fs.take k) name ++ if sameL fs[k].1 name then [fs[k].2] else [] := by
  unfold getL
  rw [list_take_snoc fs k h, List.filter_append, List.map_append]
  congr 1
  by_cases hs : sameL fs[k].1 name = true
  · rw [if_pos hs]; simp [hs]
  · rw [if_neg hs]; simp [hs]
theorem getL_len (fs : List (List UInt8 × List UInt8)) (name : List UInt8) : (getL fs name).length ≤ fs.length := by
  unfold getL; rw [List.length_map]; exact List.length_filter_le _ _
/-- No text of the fields is too long. -/
def fsOk (fs : List (List UInt8 × List UInt8)) : Prop := ∀ f ∈ fs, f.1.length ≤ 1000000 ∧ f.2.length ≤ 1000000
theorem mk_size (l : List UInt8) : (⟨l.toArray⟩ : ByteArray).size = l.length := by rw [size_of]
theorem mk_list (l : List UInt8) : (⟨l.toArray⟩ : ByteArray).data.toList = l := by simp

set_option maxRecDepth 100000 in
set_option maxHeartbeats 3200000 in
theorem get_any (A : Option Addr) (n c B : Nat) (fs : List (List UInt8 × List UInt8)) (name : ByteArray) (w : World) (h : Rd w B 2 A n (fcells fs)) (hB : B ≤ w.heap.size) (hn : n ≤ 1000000) (hok : fsOk fs) (hname : name.size ≤ 1000000) :
    Calls Tryz.prog 237 #[.slice A n c, .string name] w fun e w' => ∃ A' c', e = .returned (.slice A' (getL fs name.data.toList).length c') ∧
      w'.ownsRow w.heap.size 9 1 (.slice A' (getL fs name.data.toList).length c') (getL fs name.data.toList).length (scells (getL fs name.data.toList)) ∧ (getL fs name.data.toList).length ≤ c' ∧ Below w.heap.size w w' := by
  obtain ⟨i0, hi0, hz0, hz1, hz2⟩ := info_parts infoStr
  have hlen := h.flen
  have HLEN := hide hlen
  have hle : n ≤ fs.length := by omega
  clear hlen
  go_enter Tryz.func237, Tryz.ntmps237
  go_wp2_with fail
  go_loopw [5, 10] (fun o i wr => ∃ k : Nat, k ≤ n ∧ i = .int .i64 k ∧ wr.ownsRow w.heap.size 9 1 o (getL (fs.take k) name.data.toList).length (scells (getL (fs.take k) name.data.toList)) ∧ Below w.heap.size w wr) (fun _ i _ => n - (intOf i).toNat)
  case atStart => exact ⟨0, Nat.zero_le _, rfl, World.ownsRow_nil _ _ _ _, Below.refl _ _⟩
  case round =>
    obtain ⟨k, hk, rfl, ho, hb⟩ := hrel
    by_cases hlt : k < n
    · have hkl : k < fs.length := by omega
      obtain ⟨b, off, rfl, hbB, e0, e1⟩ := (h.below (hb.mono hB)).fld hlt hkl
      have hgs := getL_snoc fs name.data.toList k hkl
      have hgl := getL_len (fs.take k) name.data.toList
      rw [List.length_take] at hgl
      have hbz := hb.size
      obtain ⟨hs1, hs2⟩ := hok fs[k] (List.getElem_mem hkl)
      obtain ⟨x, hx⟩ : ∃ x, x = fs[k] := ⟨_, rfl⟩
      rw [← hx] at e0 e1 hgs hs1 hs2
      have hsm := fun w => fieldsame_any ⟨x.1.toArray⟩ name w (by rw [mk_size]; omega) (by omega)
      rw [mk_list] at hsm
      obtain ⟨gk, hgk⟩ : ∃ gk, gk = getL (fs.take k) name.data.toList := ⟨_, rfl⟩
      rw [← hgk] at hgs hgl ho
      have hgl' : gk.length ≤ 1000000 := by omega
      obtain ⟨sx, hsx⟩ : ∃ sx : ByteArray, sx = ⟨x.1.toArray⟩ := ⟨_, rfl⟩
      obtain ⟨sv, hsv⟩ : ∃ sv : ByteArray, sv = ⟨x.2.toArray⟩ := ⟨_, rfl⟩
      have hsv2 : sv.data.toList = x.2 := by rw [hsv]
      have HSV := hide hsv2
      rw [← hsx] at e0 hsm
      rw [← hsv] at e1
      have HG := hide hgs
      clear hgs hx hgk hsx hsv hgl hs1 hs2 hsv2
      rcases hcase : sameL x.1 name.data.toList with _ | _
      · rw [hcase] at hsm
        have HC := hide hcase
        clear hcase
        go_wp2_with (go_at_call 158; refine (hsm _).mono ?_; rintro e w2 ⟨rfl, b2⟩)
        go_roundw
        case rel => exact ⟨k + 1, by omega, by go_num, by rw [HG.out, HC.out]; simpa using own_below (ho.alloc _) b2, (hb.alloc hbz _).trans (b2.mono (by simp; omega))⟩
        case measure => simp [intOf]; omega
      · rw [hcase] at hsm
        have HC := hide hcase
        clear hcase
        go_wp2_with (first | (go_at_call 158; refine (hsm _).mono ?_; rintro e w2 ⟨rfl, b2⟩; have ho2 := own_below (ho.alloc _) b2; have hb2 := (hb.alloc hbz _).trans (b2.mono (by simp; omega)); have hb2z := hb2.size; have e2 := new_kept (i := 1) b2 (by simp) rfl) | (at_builtin; refine wpl_push rfl _ _ _ rfl w.heap.size i0 _ 1 16 Tryz.underlying40 hi0 hz0 hz1 hz2 rfl (by omega) _ _ _ rfl _ rfl ho2 rfl (by simp [Value.oneCell']) (by simp [maxLen]; omega) (by omega) hb2z ?_; intro v1 w3 hown1 hbel1 _))
        go_roundw
        case rel => exact ⟨k + 1, by omega, by go_num, by rw [HG.out, HC.out, if_pos rfl, List.length_append]; exact own_snoc_str hown1 HSV.out, hb2.trans hbel1⟩
        case measure => simp [intOf]; omega
    · have hfin : getL (fs.take k) name.data.toList = getL fs name.data.toList := by have := HLEN.out; rw [List.take_of_length_le (by omega)]
      rw [hfin] at ho
      clear hfin
      go_wp2
      go_ret
      obtain ⟨A', c', rfl, hc', -⟩ := own_shape ho
      exact ⟨A', c', rfl, ho, hc', hb⟩
end Go.Proofs.YtbplnglmjcmfiaaGreatDoor

/- The reference's Get and All; Has of both. -/
namespace Go.Proofs.YtbplnglmjcmfiaaGreatDoor
open Go.RowKit

theorem low_eq (a b : List UInt8) : ((⟨(lowL a).toArray⟩ : ByteArray).toList == (⟨(lowL b).toArray⟩ : ByteArray).toList) = sameL a b := by rw [ByteArray.toList_eq, ByteArray.toList_eq]; rfl

end Go.Proofs.YtbplnglmjcmfiaaGreatDoor

/- concertinalaw19.light: not too many fields, not too long all together. -/
namespace Go.Proofs.YtbplnglmjcmfiaaGreatDoor
open Go.RowKit

/-- All letters. -/
def sumF (fs : List (List UInt8 × List UInt8)) : Nat := (fs.map fun f => f.1.length + f.2.length).sum
def lightS (most sum : Nat) (fs : List (List UInt8 × List UInt8)) : Bool := decide (fs.length ≤ most) && decide (sumF fs ≤ sum)
theorem sumF_snoc (fs : List (List UInt8 × List UInt8)) (k : Nat) (h : k < fs.length) : sumF (fs.take (k + 1)) = sumF (fs.take k) + fs[k].1.length + fs[k].2.length := by
  unfold sumF
  rw [list_take_snoc fs k h, List.map_append, List.sum_append]
  simp only [List.map_cons, List.map_nil, List.sum_cons, List.sum_nil]; omega
theorem sumF_mem : ∀ (fs : List (List UInt8 × List UInt8)), ∀ f ∈ fs, f.1.length + f.2.length ≤ sumF fs
  | [], f, hf => by cases hf
  | x :: fs, f, hf => by
    have ih := sumF_mem fs f
    unfold sumF at ih ⊢
    simp only [List.map_cons, List.sum_cons]
    rcases List.mem_cons.1 hf with rfl | hf
    · omega
    · have := ih hf; omega
theorem sumF_le (b : Nat) : ∀ (fs : List (List UInt8 × List UInt8)), (∀ f ∈ fs, f.1.length ≤ b ∧ f.2.length ≤ b) → sumF fs ≤ fs.length * (2 * b)
  | [], _ => by simp [sumF]
  | f :: fs, h => by
    have ih := sumF_le b fs (fun x hx => h x (by simp [hx]))
    have h0 := h f (by simp)
    unfold sumF at ih ⊢
    simp only [List.map_cons, List.sum_cons, List.length_cons, Nat.add_mul]
    omega
theorem lightS_ok {most sum : Nat} {fs : List (List UInt8 × List UInt8)} (h : lightS most sum fs = true) (hs : sum ≤ 1000000) : fsOk fs ∧ fs.length ≤ most ∧ sumF fs ≤ sum := by
  unfold lightS at h
  simp at h
  refine ⟨fun f hf => ?_, h.1, h.2⟩
  have := sumF_mem fs f hf
  omega

theorem wrap_small {z : Int} (h0 : 0 ≤ z) (h1 : z < 9223372036854775808) : IntKind.i64.wrap z = z := by simp [IntKind.wrap, IntKind.bits, IntKind.signed]; omega

end Go.Proofs.YtbplnglmjcmfiaaGreatDoor
