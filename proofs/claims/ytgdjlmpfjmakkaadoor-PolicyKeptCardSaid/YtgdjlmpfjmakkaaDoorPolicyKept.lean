/- PolicyKept returns true, whatever its arguments. -/
import Derived.Test.YtgdjlmpfjmakkaaDoorElig
import Derived.Test.YtgdjlmpfjmakkaaDoorFrameTells
import Derived.Test.YtgdjlmpfjmakkaaDoorConfig
import Derived.Test.YtgdjlmpfjmakkaaDoorLaid7
namespace Go.Proofs.YtgdjlmpfjmakkaaDoor.PolicyKeptP
open Go.RowKit
open FrameLengthsP (step_)
open FrameTellsP (of_drew)

def moreF : Nat → List UInt8 × List UInt8
  | 0 => ([67, 97, 99, 104, 101, 45, 99, 111, 110, 116, 114, 111, 108], [97, 44, 32, 78, 111, 45, 84, 114, 97, 110, 115, 102, 111, 114, 109])
  | 1 => ([67, 79, 78, 84, 69, 78, 84, 45, 82, 65, 78, 71, 69], [98, 121, 116, 101, 115, 32, 48, 45, 49, 47, 53])
  | 2 => ([67, 111, 110, 116, 101, 110, 116, 45, 69, 110, 99, 111, 100, 105, 110, 103], [103, 122, 105, 112])
  | _ => ([99, 111, 110, 116, 101, 110, 116, 45, 101, 110, 99, 111, 100, 105, 110, 103], [98, 114, 44, 32, 103, 122, 105, 112])
def moreA : Nat → ByteArray
  | 0 => ⟨#[67, 97, 99, 104, 101, 45, 99, 111, 110, 116, 114, 111, 108]⟩
  | 1 => ⟨#[67, 79, 78, 84, 69, 78, 84, 45, 82, 65, 78, 71, 69]⟩
  | 2 => ⟨#[67, 111, 110, 116, 101, 110, 116, 45, 69, 110, 99, 111, 100, 105, 110, 103]⟩
  | _ => ⟨#[99, 111, 110, 116, 101, 110, 116, 45, 101, 110, 99, 111, 100, 105, 110, 103]⟩
def moreB : Nat → ByteArray
  | 0 => ⟨#[97, 44, 32, 78, 111, 45, 84, 114, 97, 110, 115, 102, 111, 114, 109]⟩
  | 1 => ⟨#[98, 121, 116, 101, 115, 32, 48, 45, 49, 47, 53]⟩
  | 2 => ⟨#[103, 122, 105, 112]⟩
  | _ => ⟨#[98, 114, 44, 32, 103, 122, 105, 112]⟩
theorem more_bytes (z : Nat) (h : z < 4) : moreA z = ⟨(moreF z).1.toArray⟩ ∧ moreB z = ⟨(moreF z).2.toArray⟩ := by
  have : z = 0 ∨ z = 1 ∨ z = 2 ∨ z = 3 := by omega
  rcases this with rfl | rfl | rfl | rfl <;> exact ⟨rfl, rfl⟩
theorem more_ok (z : Nat) (h : z < 4) : (moreF z).1.length ≤ 1000000 ∧ (moreF z).2.length ≤ 1000000 := by
  have : z = 0 ∨ z = 1 ∨ z = 2 ∨ z = 3 := by omega
  rcases this with rfl | rfl | rfl | rfl <;> decide
/-- Fields with one more, after the first k. -/
def midF (fs : List (List UInt8 × List UInt8)) (k : Nat) (f : List UInt8 × List UInt8) : List (List UInt8 × List UInt8) := fs.take k ++ [f] ++ fs.drop k
theorem mid_get (fs : List (List UInt8 × List UInt8)) (k : Nat) (f : List UInt8 × List UInt8) (m : List UInt8) (h : sameL f.1 m = true) : getL (midF fs k f) m = getL (fs.take k) m ++ [f.2] ++ getL (fs.drop k) m := by
  have e : getL [f] m = [f.2] := by rw [getL_cons, if_pos h]; rfl
  unfold midF
  rw [getL_append, getL_append, e]
theorem split_nt : splitL [97, 44, 32, 78, 111, 45, 84, 114, 97, 110, 115, 102, 111, 114, 109] = [[97], [78, 111, 45, 84, 114, 97, 110, 115, 102, 111, 114, 109]] := by
  have h1 : cutL false [97, 44, 32, 78, 111, 45, 84, 114, 97, 110, 115, 102, 111, 114, 109] = 1 := by decide
  have h2 : cutL false [32, 78, 111, 45, 84, 114, 97, 110, 115, 102, 111, 114, 109] = 13 := by decide
  rw [splitL_step _ (by rw [h1]; decide), h1]
  simp only [List.take_succ_cons, List.take_zero, List.drop_succ_cons, List.drop_zero]
  rw [splitL_last [32, 78, 111, 45, 84, 114, 97, 110, 115, 102, 111, 114, 109] (by rw [h2]; decide)]
  decide
theorem split_br : splitL [98, 114, 44, 32, 103, 122, 105, 112] = [[98, 114], [103, 122, 105, 112]] := by
  have h1 : cutL false [98, 114, 44, 32, 103, 122, 105, 112] = 2 := by decide
  have h2 : cutL false [32, 103, 122, 105, 112] = 5 := by decide
  rw [splitL_step _ (by rw [h1]; decide), h1]
  simp only [List.take_succ_cons, List.take_zero, List.drop_succ_cons, List.drop_zero]
  rw [splitL_last [32, 103, 122, 105, 112] (by rw [h2]; decide)]
  decide
theorem split_gz : splitL [103, 122, 105, 112] = [[103, 122, 105, 112]] := by
  have h2 : cutL false [103, 122, 105, 112] = 4 := by decide
  rw [splitL_last [103, 122, 105, 112] (by rw [h2]; decide)]
  decide
theorem coding_mid (a b : List (List UInt8)) (x : List UInt8) (h : ofL x ≠ 0) : codingL (a ++ [x] ++ b) ≠ 0 := by
  rcases a with _ | ⟨y, a⟩
  · rcases b with _ | ⟨z, b⟩
    · exact h
    · show (3 : Nat) ≠ 0; decide
  · rcases a with _ | ⟨y', a⟩
    · show (3 : Nat) ≠ 0; decide
    · show (3 : Nat) ≠ 0; decide
theorem all_mid (fs : List (List UInt8 × List UInt8)) (k : Nat) (f : List UInt8 × List UInt8) (h : sameL f.1 codeL = true) : allL (midF fs k f) codeL = allV (getL (fs.take k) codeL) ++ splitL f.2 ++ allV (getL (fs.drop k) codeL) := by
  unfold allL
  rw [mid_get fs k f codeL h]
  unfold allV
  rw [List.flatMap_append, List.flatMap_append]
  simp
theorem kept_mid (fs : List (List UInt8 × List UInt8)) (k z : Nat) (status : Int) (h : z < 2) : keptL status (midF fs k (moreF z)) = true := by
  have : z = 0 ∨ z = 1 := by omega
  rcases this with rfl | rfl
  · have h1 : hasL (midF fs k (moreF 0)) ccL ntL = true := by
      unfold hasL hasV
      refine List.any_eq_true.2 ⟨(moreF 0).2, ?_, ?_⟩
      · rw [mid_get fs k (moreF 0) ccL (by decide)]; simp
      · show hasM (splitL [97, 44, 32, 78, 111, 45, 84, 114, 97, 110, 115, 102, 111, 114, 109]) ntL = true
        rw [split_nt]; decide
    unfold keptL
    rw [h1]; simp
  · have h1 : 0 < (getL (midF fs k (moreF 1)) crL).length := by rw [mid_get fs k (moreF 1) crL (by decide)]; simp; omega
    unfold keptL
    rw [decide_eq_true h1]; simp
theorem coded_mid (fs : List (List UInt8 × List UInt8)) (k z : Nat) (h : z = 2 ∨ z = 3) : codingL (allL (midF fs k (moreF z)) codeL) ≠ 0 := by
  rcases h with rfl | rfl
  · rw [all_mid fs k (moreF 2) (by decide)]
    show codingL (_ ++ splitL [103, 122, 105, 112] ++ _) ≠ 0
    rw [split_gz]
    exact coding_mid _ _ _ (by decide)
  · rw [all_mid fs k (moreF 3) (by decide)]
    show codingL (_ ++ splitL [98, 114, 44, 32, 103, 122, 105, 112] ++ _) ≠ 0
    rw [split_br, show ([[98, 114], [103, 122, 105, 112]] : List (List UInt8)) = [[98, 114]] ++ [[103, 122, 105, 112]] from rfl, ← List.append_assoc, List.append_assoc (_ ++ _)]
    exact coding_mid _ _ _ (by decide)
theorem elig_mid (least : Int) (ts : List (List UInt8)) (m : List UInt8) (status : Int) (fs : List (List UInt8 × List UInt8)) (k z : Nat) (h : z < 4) : eligL least ts m status (midF fs k (moreF z)) = false := by
  unfold eligL
  by_cases h2 : z < 2
  · rw [kept_mid fs k z status h2]; simp
  · rw [decide_eq_false (coded_mid fs k z (by omega))]; simp
theorem elig_206 (least : Int) (ts : List (List UInt8)) (m : List UInt8) (fs : List (List UInt8 × List UInt8)) : eligL least ts m 206 fs = false := by
  unfold eligL
  rw [show statB 206 = false by decide]; simp
theorem kept_206 (fs : List (List UInt8 × List UInt8)) : keptL 206 fs = true := by unfold keptL; rw [decide_eq_true rfl]; rfl
theorem elig_head (least : Int) (ts : List (List UInt8)) (status : Int) (fs : List (List UInt8 × List UInt8)) : eligL least ts [72, 69, 65, 68] status fs = false := by
  unfold eligL
  simp
theorem ok_mid {fs : List (List UInt8 × List UInt8)} (h : fsOk fs) (k z : Nat) (hz : z < 4) : fsOk (midF fs k (moreF z)) := by
  intro f hf
  unfold midF at hf
  rcases List.mem_append.1 hf with hf | hf
  · rcases List.mem_append.1 hf with hf | hf
    · exact h f (List.mem_of_mem_take hf)
    · rw [List.mem_singleton.1 hf]; exact more_ok z hz
  · exact h f (List.mem_of_mem_drop hf)
theorem fcells_take : ∀ (l : List (List UInt8 × List UInt8)) (k : Nat), (fcells l).take (k * 2) = fcells (l.take k)
  | [], k => by simp [fcells]
  | f :: l, 0 => by simp [fcells]
  | f :: l, k + 1 => by
    rw [show (k + 1) * 2 = k * 2 + 1 + 1 by omega]
    show (_ :: _ :: fcells l).take _ = _
    rw [List.take_succ_cons, List.take_succ_cons, fcells_take l k]; rfl
theorem fcells_drop : ∀ (l : List (List UInt8 × List UInt8)) (k : Nat), (fcells l).drop (k * 2) = fcells (l.drop k)
  | [], k => by simp [fcells]
  | f :: l, 0 => by simp [fcells]
  | f :: l, k + 1 => by
    rw [show (k + 1) * 2 = k * 2 + 1 + 1 by omega]
    show (_ :: _ :: fcells l).drop _ = _
    rw [List.drop_succ_cons, List.drop_succ_cons, fcells_drop l k]; rfl

set_option maxRecDepth 100000 in
set_option maxHeartbeats 25600000 in
set_option linter.unusedSimpArgs false in
theorem walk (A0 A1 : Option Addr) (n0 c0 n1 c1 : Nat) (lv least cp bf tm : Int) (ts : List (List UInt8)) (minor status : Int) (s_ : ByteArray) (A : Option Addr) (n c : Nat) (fs : List (List UInt8 × List UInt8)) (at_ which_ : Int) (w : World)
    (h1 : Rd w w.heap.size 1 A1 n1 (scells ts)) (hn1 : n1 ≤ 9223372036854775807) (hts : ∀ t ∈ ts, t.length ≤ reachBytes) (h : Rd w w.heap.size 2 A n (fcells fs)) (hn : n ≤ 9223372036854775807) (hz : ∀ f ∈ fs, f.1.length ≤ reachBytes ∧ f.2.length ≤ reachBytes) (hnc : n ≤ c) (hw1_ : (Lit.int .u8 at_).wf = true) (hw2_ : (Lit.int .u8 which_).wf = true) :
    Calls Tryd.prog 12 #[.agg #[.slice A0 n0 c0, .slice A1 n1 c1, .int .i64 lv, .int .i64 least, .int .i64 cp, .int .i64 bf, .int .i64 tm], .agg #[.int .i64 minor, .int .i64 status, .string s_, .slice A n c], .int .u8 at_, .int .u8 which_] w fun e w' => e = .returned (.bool true) ∧ Below w.heap.size w w' := by
  obtain ⟨w1, hw1⟩ : ∃ w1, (w.alloc (.cells #[.slice A0 n0 c0, .slice A1 n1 c1, .int .i64 lv, .int .i64 least, .int .i64 cp, .int .i64 bf, .int .i64 tm] 74)).alloc (.cells #[.int .i64 minor, .int .i64 status, .string s_, .slice A n c] 41) = w1 := ⟨_, rfl⟩
  obtain ⟨bC, bR, tW⟩ := two_boxes w #[.slice A0 n0 c0, .slice A1 n1 c1, .int .i64 lv, .int .i64 least, .int .i64 cp, .int .i64 bf, .int .i64 tm] #[.int .i64 minor, .int .i64 status, .string s_, .slice A n c] 74 41
  rw [hw1] at bC bR tW
  have b_ := fun (W : World) (b : Below w1.heap.size w1 W) => tW.trans (b.mono tW.size)
  have hfl := h.flen
  have hll : ts.length = n1 := by have := h1.1; simpa [scells] using this
  have qL := fun (W : World) (b : Below w1.heap.size w1 W) => of_drew (light21_any A n c _ fs W (h.below (b_ W b)) hn hz)
  have qF := fun (W : World) (b : Below w1.heap.size w1 W) => few21_any A1 n1 c1 _ ts W (h1.below (b_ W b)) hn1 hts
  have qA := fun (W : World) (_ : Below w1.heap.size w1 W) => ans21_any W
  obtain ⟨gc, hgc⟩ : ∃ g, w.heap.size = g := ⟨_, rfl⟩
  obtain ⟨gr, hgr⟩ : ∃ g, g = gc + 1 := ⟨_, rfl⟩
  rw [hgc] at bC bR
  rw [← hgr] at bR
  have mk : ∀ W, Below w1.heap.size w1 W → W.cell? ⟨gc, 0, none⟩ = some (.slice A0 n0 c0) ∧ W.cell? ⟨gc, 1, none⟩ = some (.slice A1 n1 c1) ∧ W.cell? ⟨gc, 2, none⟩ = some (.int .i64 lv) ∧ W.cell? ⟨gc, 3, none⟩ = some (.int .i64 least) ∧ W.cell? ⟨gc, 4, none⟩ = some (.int .i64 cp) ∧ W.cell? ⟨gc, 5, none⟩ = some (.int .i64 bf) ∧ W.cell? ⟨gc, 6, none⟩ = some (.int .i64 tm) ∧ W.cell? ⟨gr, 0, none⟩ = some (.int .i64 minor) ∧ W.cell? ⟨gr, 1, none⟩ = some (.int .i64 status) ∧ W.cell? ⟨gr, 2, none⟩ = some (.string s_) ∧ W.cell? ⟨gr, 3, none⟩ = some (.slice A n c) := fun W b => by
    have b1 := bC.below b
    have b2 := bR.below b
    exact ⟨(b1.2 0 _ rfl).1, (b1.2 1 _ rfl).1, (b1.2 2 _ rfl).1, (b1.2 3 _ rfl).1, (b1.2 4 _ rfl).1, (b1.2 5 _ rfl).1, (b1.2 6 _ rfl).1, (b2.2 0 _ rfl).1, (b2.2 1 _ rfl).1, (b2.2 2 _ rfl).1, (b2.2 3 _ rfl).1⟩
  have x3 := (bR.2 3 _ rfl).1
  rcases hL : lightS 100 30000 fs with _ | _
  · rw [hL] at qL
    clear hL hfl hll
    go_enter Tryd.func12, Tryd.ntmps12
    go_upto_region 1 with (fail)
    try rw [hw1]
    try rw [hgc]
    try rw [← hgr]
    clear hw1 hgc hgr
    go_wp2_with fail
    refine (qL w1 (Below.refl _ _)).mono ?_
    rintro e w2 ⟨rfl, k2⟩
    go_upto_region 2 with (fail)
    go_wp2_with fail
    refine (qA w2 k2).mono ?_
    rintro e w3 ⟨rfl, k3⟩
    go_wp2
    go_ret
    exact ⟨rfl, tW.trans ((k2.trans (k3.mono k2.size)).mono tW.size)⟩
  rcases hF : fewT ts with _ | _
  · rw [hL] at qL
    rw [hF] at qF
    clear hL hF hfl hll
    go_enter Tryd.func12, Tryd.ntmps12
    go_upto_region 1 with (fail)
    try rw [hw1]
    try rw [hgc]
    try rw [← hgr]
    clear hw1 hgc hgr
    go_wp2_with fail
    refine (qL w1 (Below.refl _ _)).mono ?_
    rintro e w2 ⟨rfl, k2⟩
    have x4 := (mk _ k2).2.1
    go_wp2_with fail
    refine (qF w2 k2).mono ?_
    rintro e w3 ⟨rfl, hw3⟩
    obtain rfl : w2 = w3 := hw3.symm
    clear hw3
    go_upto_region 2 with (fail)
    go_wp2_with fail
    refine (qA w2 k2).mono ?_
    rintro e w3 ⟨rfl, k3⟩
    go_wp2
    go_ret
    exact ⟨rfl, tW.trans ((k2.trans (k3.mono k2.size)).mono tW.size)⟩
  obtain ⟨hok, h100, -⟩ := lightS_ok hL (by omega)
  rw [hfl] at h100
  obtain ⟨hts2, ht100⟩ := fewT_ok hF
  rw [hll] at ht100
  have hts3 : ∀ t ∈ ts, t.length ≤ 1000000 := fun t ht => by have := hts2 t ht; omega
  rw [hL] at qL
  rw [hF] at qF
  clear hL hF hfl hll hts2
  have hu8 : ∀ x : Int, (Lit.int .u8 x).wf = true → ∃ z : Nat, x = z ∧ z < 256 := fun x hx => by
    simp [Lit.wf, IntKind.min, IntKind.max, IntKind.signed, IntKind.bits] at hx
    exact ⟨x.toNat, by omega, by omega⟩
  obtain ⟨za, rfl, hza⟩ := hu8 _ hw1_
  obtain ⟨zw, rfl, hzw⟩ := hu8 _ hw2_
  clear hu8 hw1_ hw2_
  obtain ⟨i0, hi0, hz0, hz1, hz2⟩ := info_parts infoFld
  obtain ⟨z2, hz2'⟩ : ∃ z, z = zw % 4 := ⟨_, rfl⟩
  have hz24 : z2 < 4 := by omega
  have hzr : (zw : Int).tmod 4 = (z2 : Int) := by rw [Int.tmod_eq_emod_of_nonneg (by omega)]; omega
  obtain ⟨kk, hkk⟩ : ∃ k, k = if n = 0 then 0 else za % n := ⟨_, rfl⟩
  have hkn : kk ≤ n := by rw [hkk]; split; omega; exact Nat.le_of_lt (Nat.mod_lt _ (by omega))
  have hka : ¬ n = 0 → (za : Int).tmod (n : Int) = (kk : Int) := fun h0 => by
    rw [Int.tmod_eq_emod_of_nonneg (by omega), hkk, if_neg h0]; omega
  have hk0 : n = 0 → kk = 0 := fun h0 => by rw [hkk, if_pos h0]
  obtain ⟨ma, hma⟩ : ∃ b, b = moreA z2 := ⟨_, rfl⟩
  obtain ⟨mb, hmb⟩ : ∃ b, b = moreB z2 := ⟨_, rfl⟩
  obtain ⟨fz, hfz⟩ : ∃ f, f = moreF z2 := ⟨_, rfl⟩
  have HMA := hide (show ma = ⟨fz.1.toArray⟩ by rw [hma, hfz]; exact (more_bytes z2 hz24).1)
  have HMB := hide (show mb = ⟨fz.2.toArray⟩ by rw [hmb, hfz]; exact (more_bytes z2 hz24).2)
  have HFZ := hide hfz
  have HMA' := hide hma
  have HMB' := hide hmb
  have hz := hide hz2'
  clear hma hmb hfz hkk hz2'
  have hgr' := hgr.symm
  clear hgr
  go_enter Tryd.func12, Tryd.ntmps12
  go_upto_region 1 with (fail)
  try rw [hw1]
  try rw [hgc]
  try rw [hgr']
  clear hw1 hgc
  go_wp2_with fail
  refine (qL w1 (Below.refl _ _)).mono ?_
  rintro e w2 ⟨rfl, k2⟩
  have x4 := (mk _ k2).2.1
  go_wp2_with fail
  refine (qF w2 k2).mono ?_
  rintro e w3 ⟨rfl, hw3⟩
  obtain rfl : w2 = w3 := hw3.symm
  clear hw3 x4 x3 hgr' qL qF
  obtain ⟨gM, hgM⟩ : ∃ g, w2.heap.size = g := ⟨_, rfl⟩
  obtain ⟨wm, hwm⟩ : ∃ x, w2.alloc (.cells #[.string ⟨#[67, 97, 99, 104, 101, 45, 99, 111, 110, 116, 114, 111, 108]⟩, .string ⟨#[97, 44, 32, 78, 111, 45, 84, 114, 97, 110, 115, 102, 111, 114, 109]⟩, .string ⟨#[67, 79, 78, 84, 69, 78, 84, 45, 82, 65, 78, 71, 69]⟩, .string ⟨#[98, 121, 116, 101, 115, 32, 48, 45, 49, 47, 53]⟩, .string ⟨#[67, 111, 110, 116, 101, 110, 116, 45, 69, 110, 99, 111, 100, 105, 110, 103]⟩, .string ⟨#[103, 122, 105, 112]⟩, .string ⟨#[99, 111, 110, 116, 101, 110, 116, 45, 101, 110, 99, 111, 100, 105, 110, 103]⟩, .string ⟨#[98, 114, 44, 32, 103, 122, 105, 112]⟩] 38) = x := ⟨_, rfl⟩
  have kM : Below w2.heap.size w2 wm := by rw [← hwm]; exact (Below.refl _ _).alloc (Nat.le_refl _) _
  have km : Below w1.heap.size w1 wm := k2.trans (kM.mono k2.size)
  have bM : Box wm gM [.string ⟨#[67, 97, 99, 104, 101, 45, 99, 111, 110, 116, 114, 111, 108]⟩, .string ⟨#[97, 44, 32, 78, 111, 45, 84, 114, 97, 110, 115, 102, 111, 114, 109]⟩, .string ⟨#[67, 79, 78, 84, 69, 78, 84, 45, 82, 65, 78, 71, 69]⟩, .string ⟨#[98, 121, 116, 101, 115, 32, 48, 45, 49, 47, 53]⟩, .string ⟨#[67, 111, 110, 116, 101, 110, 116, 45, 69, 110, 99, 111, 100, 105, 110, 103]⟩, .string ⟨#[103, 122, 105, 112]⟩, .string ⟨#[99, 111, 110, 116, 101, 110, 116, 45, 101, 110, 99, 111, 100, 105, 110, 103]⟩, .string ⟨#[98, 114, 44, 32, 103, 122, 105, 112]⟩] := by rw [← hwm, ← hgM]; exact Box.new w2 _ _
  have hM : ∀ W, Below wm.heap.size wm W → W.cell? ⟨gM, z2 * 2, none⟩ = some (.string ma) ∧ W.cell? ⟨gM, z2 * 2 + 1, none⟩ = some (.string mb) := fun W b => by
    have b1 := bM.below b
    have : z2 = 0 ∨ z2 = 1 ∨ z2 = 2 ∨ z2 = 3 := by omega
    rw [HMA'.out, HMB'.out]
    rcases this with e | e | e | e <;> (rw [e]; exact ⟨(b1.2 _ _ rfl).1, (b1.2 _ _ rfl).1⟩)
  have y3 := (mk _ km).2.2.2.2.2.2.2.2.2.2
  go_upto_if 33 with (fail)
  try rw [hwm]
  clear hwm hgM kM
  go_cut [10] from 34 to 39 (fun s wx => s = .int .i64 (kk : Int) ∧ wx = wm)
  case first =>
    by_cases h0 : n = 0
    · have e0 : decide ((0 : Int) < (n : Int)) = false := by simp; omega
      have hk := hk0 h0
      subst hk
      subst h0
      go_wp2_with fail
      go_meet
      exact ⟨rfl, rfl⟩
    · have e0 : decide ((0 : Int) < (n : Int)) = true := by simp; omega
      have h0' : 0 < n := by omega
      have hk := hka h0
      have hkl : kk ≤ 100 := by omega
      go_wp2_with fail
      go_meet
      exact ⟨by first | rfl | (rw [hk]) | (simp [hk]; done), rfl⟩
  case rest =>
    obtain ⟨rfl, hwc⟩ := hcut
    obtain rfl : wm = wc := hwc.symm
    clear hwc hka hk0 y3
    go_upto_region 7 with (fail)
    have mk7 : ∀ W, Below wm.heap.size wm W → W.cell? ⟨gr, 0, none⟩ = some (.int .i64 minor) ∧ W.cell? ⟨gr, 1, none⟩ = some (.int .i64 status) ∧ W.cell? ⟨gr, 2, none⟩ = some (.string s_) ∧ W.cell? ⟨gr, 3, none⟩ = some (.slice A n c) ∧ W.cell? ⟨gM, z2 * 2, none⟩ = some (.string ma) ∧ W.cell? ⟨gM, z2 * 2 + 1, none⟩ = some (.string mb) := fun W b => by
      have b1 := (mk _ (km.trans (b.mono km.size))).2.2.2.2.2.2.2
      exact ⟨b1.1, b1.2.1, b1.2.2.1, b1.2.2.2, (hM W b).1, (hM W b).2⟩
    have i0' : (0 : Int) ≤ (kk : Int) := by omega
    have i1 : (kk : Int) ≤ (n : Int) := by omega
    have i2 : (z2 : Int) < 4 := by omega
    have i3 : (0 : Int) ≤ (z2 : Int) := by omega
    have hwr : IntKind.i64.wrap (zw : Int) = (zw : Int) := by simp [IntKind.wrap, IntKind.bits, IntKind.signed]; omega
    have i4 : (n : Int) ≤ (c : Int) := by omega
    have i5 : (kk : Int) ≤ (c : Int) := by omega
    have z1 : Below wm.heap.size wm wm.drew := below_drew1
    have rA : Rd wm w.heap.size 2 A n (fcells fs) := h.below (b_ wm km)
    have hwz : w.heap.size ≤ wm.heap.size := (b_ wm km).size
    have rfr : ∀ W, Below wm.heap.size wm W → Rd W w.heap.size 2 A kk (fcells (fs.take kk)) := fun W b => by rw [← fcells_take]; exact (rA.below (b.mono hwz)).front hkn
    have rtl : ∀ W, Below wm.heap.size wm W → Rd W w.heap.size 2 (if c = kk then A else A.map (·.add (kk * 2))) (n - kk) (fcells (fs.drop kk)) := fun W b => by
      have h1 := (rA.below (b.mono hwz)).cut (k := kk) (m := n) (cap := c) hkn (Nat.le_refl _) hnc
      rw [fcells_drop, List.take_of_length_le (by rw [fcells_length, List.length_drop]; have := rA.flen; rw [this]; exact Nat.le_refl _)] at h1
      exact h1
    have hfin : ([] ++ fcells (fs.take kk) ++ [.string ma, .string mb]) ++ fcells (fs.drop kk) = fcells (midF fs kk fz) := by
      unfold midF
      rw [← fcells_append, ← fcells_append, HMA.out, HMB.out]; rfl
    obtain ⟨At, hAt⟩ : ∃ x, (if c = kk then A else A.map (·.add (kk * 2))) = x := ⟨_, rfl⟩
    simp only [hAt] at rtl
    have hcnt : 0 + kk + 1 + (n - kk) = n + 1 := by omega
    go_cut [11] from 40 to 58 (fun s wx => ∃ A' c', s = .slice A' (n + 1) c' ∧ wx.ownsRow wm.heap.size 38 2 (.slice A' (n + 1) c') (n + 1) (fcells (midF fs kk fz)) ∧ Below wm.heap.size wm wx)
    case first =>
      refine CalmP.hideN (fun K0 hQ => ?_)
      refine wp_region_held_drew (S := (fun W : World => W.cell? ⟨gr, 0, none⟩ = some (.int .i64 minor) ∧ W.cell? ⟨gr, 1, none⟩ = some (.int .i64 status) ∧ W.cell? ⟨gr, 2, none⟩ = some (.string s_) ∧ W.cell? ⟨gr, 3, none⟩ = some (.slice A n c) ∧ W.cell? ⟨gM, z2 * 2, none⟩ = some (.string ma) ∧ W.cell? ⟨gM, z2 * 2 + 1, none⟩ = some (.string mb))) (by kernel_rfl) (mk7 _ z1) (fun hHeld => ?_)
      generalize wm.drew = W0 at z1 hHeld ⊢
      refine wpAnyH_take (i := 1) (v := ?_) rfl (by kernel_rfl) (by kernel_rfl) (by kernel_rfl) CalmP.onlyN_panic (Or.inl ⟨by kernel_rfl, ?_⟩) (by assumption) ?_
      rotate_left
      · (intro w_ hSw; (try dsimp only at hSw); go_simp; try with_reducible rfl)
      try simp only [List.getElem_toArray, List.getElem_cons_succ, List.getElem_cons_zero, Act.put, List.setIfInBounds_toArray, List.set_cons_zero, List.set_cons_succ]
      refine wpAnyH_take (i := 2) (v := ?_) rfl (by kernel_rfl) (by kernel_rfl) (by kernel_rfl) CalmP.onlyN_panic (Or.inl ⟨by kernel_rfl, ?_⟩) (by assumption) ?_
      rotate_left
      · (intro w_ hSw; (try dsimp only at hSw); go_simp; try with_reducible rfl)
      try simp only [List.getElem_toArray, List.getElem_cons_succ, List.getElem_cons_zero, Act.put, List.setIfInBounds_toArray, List.set_cons_zero, List.set_cons_succ]
      refine wpAnyH_take (i := 3) (v := ?_) rfl (by kernel_rfl) (by kernel_rfl) (by kernel_rfl) CalmP.onlyN_panic (Or.inl ⟨by kernel_rfl, ?_⟩) (by assumption) ?_
      rotate_left
      · (intro w_ hSw; (try dsimp only at hSw); go_simp; try with_reducible rfl)
      try simp only [List.getElem_toArray, List.getElem_cons_succ, List.getElem_cons_zero, Act.put, List.setIfInBounds_toArray, List.set_cons_zero, List.set_cons_succ]
      refine wpAnyH_take (i := 4) (v := ?_) rfl (by kernel_rfl) (by kernel_rfl) (by kernel_rfl) CalmP.onlyN_panic (Or.inl ⟨by kernel_rfl, ?_⟩) (by assumption) ?_
      rotate_left
      · (intro w_ hSw; (try dsimp only at hSw); go_simp; try with_reducible rfl)
      try simp only [List.getElem_toArray, List.getElem_cons_succ, List.getElem_cons_zero, Act.put, List.setIfInBounds_toArray, List.set_cons_zero, List.set_cons_succ]
      refine wpAnyH_take (i := 6) (v := ?_) rfl (by kernel_rfl) (by kernel_rfl) (by kernel_rfl) CalmP.onlyN_panic (Or.inl ⟨by kernel_rfl, ?_⟩) (by assumption) ?_
      rotate_left
      · (intro w_ hSw; (try dsimp only at hSw); go_simp; try with_reducible rfl)
      try simp only [List.getElem_toArray, List.getElem_cons_succ, List.getElem_cons_zero, Act.put, List.setIfInBounds_toArray, List.set_cons_zero, List.set_cons_succ]
      refine wpAnyH_take (i := 7) (v := ?_) rfl (by kernel_rfl) (by kernel_rfl) (by kernel_rfl) CalmP.onlyN_panic (Or.inl ⟨by kernel_rfl, ?_⟩) (by assumption) ?_
      rotate_left
      · (intro w_ hSw; (try dsimp only at hSw); go_simp; try with_reducible rfl)
      try simp only [List.getElem_toArray, List.getElem_cons_succ, List.getElem_cons_zero, Act.put, List.setIfInBounds_toArray, List.set_cons_zero, List.set_cons_succ]
      refine wpAnyH_take (i := 8) (v := ?_) rfl (by kernel_rfl) (by kernel_rfl) (by kernel_rfl) CalmP.onlyN_panic (Or.inl ⟨by kernel_rfl, ?_⟩) (by assumption) ?_
      rotate_left
      · (intro w_ hSw; (try dsimp only at hSw); go_simp; try with_reducible rfl)
      try simp only [List.getElem_toArray, List.getElem_cons_succ, List.getElem_cons_zero, Act.put, List.setIfInBounds_toArray, List.set_cons_zero, List.set_cons_succ]
      refine wpAnyH_take (i := 9) (v := ?_) rfl (by kernel_rfl) (by kernel_rfl) (by kernel_rfl) CalmP.onlyN_panic (Or.inl ⟨by kernel_rfl, ?_⟩) (by assumption) ?_
      rotate_left
      · (intro w_ hSw; (try dsimp only at hSw); go_simp; try with_reducible rfl)
      try simp only [List.getElem_toArray, List.getElem_cons_succ, List.getElem_cons_zero, Act.put, List.setIfInBounds_toArray, List.set_cons_zero, List.set_cons_succ]
      refine wpAnyH_take (i := 10) (v := ?_) rfl (by kernel_rfl) (by kernel_rfl) (by kernel_rfl) CalmP.onlyN_panic (Or.inl ⟨by kernel_rfl, ?_⟩) (by assumption) ?_
      rotate_left
      · (intro w_ hSw; (try dsimp only at hSw); go_simp; try with_reducible rfl)
      try simp only [List.getElem_toArray, List.getElem_cons_succ, List.getElem_cons_zero, Act.put, List.setIfInBounds_toArray, List.set_cons_zero, List.set_cons_succ]
      refine wpAnyH_take (i := 11) (v := ?_) rfl (by kernel_rfl) (by kernel_rfl) (by kernel_rfl) CalmP.onlyN_panic (Or.inl ⟨by kernel_rfl, ?_⟩) (by assumption) ?_
      rotate_left
      · (intro w_ hSw; (try dsimp only at hSw); go_simp; try with_reducible rfl)
      try simp only [List.getElem_toArray, List.getElem_cons_succ, List.getElem_cons_zero, Act.put, List.setIfInBounds_toArray, List.set_cons_zero, List.set_cons_succ]
      refine wpAnyH_take (i := 14) (v := ?_) rfl (by kernel_rfl) (by kernel_rfl) (by kernel_rfl) CalmP.onlyN_panic (Or.inl ⟨by kernel_rfl, ?_⟩) (by assumption) ?_
      rotate_left
      · (intro w_ hSw; (try dsimp only at hSw); go_simp; try with_reducible rfl)
      try simp only [List.getElem_toArray, List.getElem_cons_succ, List.getElem_cons_zero, Act.put, List.setIfInBounds_toArray, List.set_cons_zero, List.set_cons_succ]
      refine wpAnyH_take (i := 15) (v := ?_) rfl (by kernel_rfl) (by kernel_rfl) (by kernel_rfl) CalmP.onlyN_panic (Or.inl ⟨by kernel_rfl, ?_⟩) (by assumption) ?_
      rotate_left
      · (intro w_ hSw; (try dsimp only at hSw); go_simp; try with_reducible rfl)
      try simp only [List.getElem_toArray, List.getElem_cons_succ, List.getElem_cons_zero, Act.put, List.setIfInBounds_toArray, List.set_cons_zero, List.set_cons_succ]
      refine wpAnyH_take (i := 16) (v := ?_) rfl (by kernel_rfl) (by kernel_rfl) (by kernel_rfl) CalmP.onlyN_panic (Or.inl ⟨by kernel_rfl, ?_⟩) (by assumption) ?_
      rotate_left
      · (intro w_ hSw; (try dsimp only at hSw); go_simp; try with_reducible rfl)
      try simp only [List.getElem_toArray, List.getElem_cons_succ, List.getElem_cons_zero, Act.put, List.setIfInBounds_toArray, List.set_cons_zero, List.set_cons_succ]
      refine wpAnyH_take (i := 17) (v := ?_) rfl (by kernel_rfl) (by kernel_rfl) (by kernel_rfl) CalmP.onlyN_panic (Or.inl ⟨by kernel_rfl, ?_⟩) (by assumption) ?_
      rotate_left
      · (intro w_ hSw; (try dsimp only at hSw); go_simp; try with_reducible rfl)
      try simp only [List.getElem_toArray, List.getElem_cons_succ, List.getElem_cons_zero, Act.put, List.setIfInBounds_toArray, List.set_cons_zero, List.set_cons_succ]
      refine wpAnyH_ready (rs := [0, 12]) (by kernel_rfl) (by simp) ?_
      refine AllReadyH.cons rfl (fun K_ hK => ?_) ?_
      · go_simp
        have kc : Below W0.heap.size W0 (W0.alloc (.cells #[] 38)) := (Below.refl _ _).alloc (Nat.le_refl _) _
        have ow := own_new W0 #[] 38 2 0 rfl (by unfold maxLen; omega) wm.heap.size z1.size
        replace z1 := z1.trans (kc.mono z1.size)
        have hgo' : W0.heap.size < (W0.alloc (.cells #[] 38)).heap.size := by simp
        clear kc
        refine hK.out _ _ (mk7 _ z1) (fun hHeld => ?_)
        clear hK K_
        generalize W0.alloc (.cells #[] 38) = W1 at z1 hHeld ow hgo' ⊢
        generalize W0.heap.size = go at ow hgo' ⊢
        try simp only [List.getElem_toArray, List.getElem_cons_succ, List.getElem_cons_zero, Act.put, List.setIfInBounds_toArray, List.set_cons_zero, List.set_cons_succ]
        refine wpAnyH_ready (rs := [5, 12]) (by kernel_rfl) (by simp) ?_
        refine AllReadyH.cons rfl (fun K_ hK => ?_) ?_
        · refine step_append _ rfl _ _ _ rfl wm.heap.size _ i0 _ 2 32 Tryd.underlying22 hi0 hz0 hz1 hz2 rfl (by omega) _ _ _ rfl _ _ _ _ _ rfl ow (rfr _ z1) (fcells_one (fs.take kk)) (by unfold maxLen; omega) (by omega) z1.size ?_
          intro v5 W2 ow' kz hg
          replace ow := ow'
          replace z1 := z1.trans kz
          clear ow' kz hg
          refine hK.out _ _ (mk7 _ z1) (fun hHeld => ?_)
          clear hK K_
          try simp only [List.getElem_toArray, List.getElem_cons_succ, List.getElem_cons_zero, Act.put, List.setIfInBounds_toArray, List.set_cons_zero, List.set_cons_succ]
          refine wpAnyH_ready (rs := [12]) (by kernel_rfl) (by simp) ?_
          refine AllReadyH.cons rfl (fun K_ hK => ?_) ?_
          · go_simp
            have kc : Below W2.heap.size W2 (W2.alloc (.cells #[.string ma, .string mb] 38)) := (Below.refl _ _).alloc (Nat.le_refl _) _
            have rE := (rd_new W2 #[.string ma, .string mb] 38 2 1 rfl).mono (B' := (W2.alloc (.cells #[.string ma, .string mb] 38)).heap.size) (by simp)
            have hge : W2.heap.size < (W2.alloc (.cells #[.string ma, .string mb] 38)).heap.size := by simp
            replace ow := own_below ow kc
            replace z1 := z1.trans (kc.mono z1.size)
            clear kc
            refine hK.out _ _ (mk7 _ z1) (fun hHeld => ?_)
            clear hK K_
            generalize W2.alloc (.cells #[.string ma, .string mb] 38) = W3 at z1 hHeld ow rE hge ⊢
            generalize W2.heap.size = ge at rE hge ⊢
            try simp only [List.getElem_toArray, List.getElem_cons_succ, List.getElem_cons_zero, Act.put, List.setIfInBounds_toArray, List.set_cons_zero, List.set_cons_succ]
            refine wpAnyH_ready (rs := [13]) (by kernel_rfl) (by simp) ?_
            refine AllReadyH.cons rfl (fun K_ hK => ?_) ?_
            · refine step_append _ rfl _ _ _ rfl wm.heap.size _ i0 _ 2 32 Tryd.underlying22 hi0 hz0 hz1 hz2 rfl (by omega) _ _ _ rfl _ _ _ _ _ rfl ow (rE) (by simp [Value.oneCell']) (by unfold maxLen; omega) (by omega) z1.size ?_
              intro v13 W4 ow' kz hg
              replace ow := ow'
              replace z1 := z1.trans kz
              clear ow' kz hg
              refine hK.out _ _ (mk7 _ z1) (fun hHeld => ?_)
              clear hK K_
              try simp only [List.getElem_toArray, List.getElem_cons_succ, List.getElem_cons_zero, Act.put, List.setIfInBounds_toArray, List.set_cons_zero, List.set_cons_succ]
              refine wpAnyH_ready (rs := [18]) (by kernel_rfl) (by simp) ?_
              refine AllReadyH.cons rfl (fun K_ hK => ?_) ?_
              · refine step_append _ rfl _ _ _ rfl wm.heap.size _ i0 _ 2 32 Tryd.underlying22 hi0 hz0 hz1 hz2 rfl (by omega) _ _ _ rfl _ _ _ _ _ rfl ow (rtl _ z1) (fcells_one (fs.drop kk)) (by unfold maxLen; omega) (by omega) z1.size ?_
                intro v18 W5 ow' kz hg
                replace ow := ow'
                replace z1 := z1.trans kz
                clear ow' kz hg
                rw [hfin, hcnt] at ow
                obtain ⟨A', c', rfl, -, -⟩ := own_shape ow
                refine hK.out _ _ (mk7 _ z1) (fun hHeld => ?_)
                clear hK K_
                try simp only [List.getElem_toArray, List.getElem_cons_succ, List.getElem_cons_zero, Act.put, List.setIfInBounds_toArray, List.set_cons_zero, List.set_cons_succ]
                refine wpAnyH_take (i := 19) (v := ?_) rfl (by kernel_rfl) (by kernel_rfl) (by kernel_rfl) CalmP.onlyN_panic (Or.inl ⟨by kernel_rfl, ?_⟩) (by assumption) ?_
                rotate_left
                · (intro w_ hSw; (try dsimp only at hSw); go_simp; try with_reducible rfl)
                try simp only [List.getElem_toArray, List.getElem_cons_succ, List.getElem_cons_zero, Act.put, List.setIfInBounds_toArray, List.set_cons_zero, List.set_cons_succ]
                refine wpAnyH_done (by kernel_rfl) ?_ _
                refine CalmP.onlyN_here (hQ.out _ _ ?_)
                clear hQ K0
                go_wp2_with fail
                go_meet
                exact ⟨A', c', rfl, ow, z1⟩
              exact AllReadyH.nil
            exact AllReadyH.nil
          exact AllReadyH.nil
        refine AllReadyH.cons rfl (fun K_ hK => ?_) ?_
        · go_simp
          have kc : Below W1.heap.size W1 (W1.alloc (.cells #[.string ma, .string mb] 38)) := (Below.refl _ _).alloc (Nat.le_refl _) _
          have rE := (rd_new W1 #[.string ma, .string mb] 38 2 1 rfl).mono (B' := (W1.alloc (.cells #[.string ma, .string mb] 38)).heap.size) (by simp)
          have hge : W1.heap.size < (W1.alloc (.cells #[.string ma, .string mb] 38)).heap.size := by simp
          replace ow := own_below ow kc
          have hne : W1.heap.size ≠ go := by omega
          replace z1 := z1.trans (kc.mono z1.size)
          have hgo' := Nat.lt_trans hgo' hge
          clear kc
          refine hK.out _ _ (mk7 _ z1) (fun hHeld => ?_)
          clear hK K_
          generalize W1.alloc (.cells #[.string ma, .string mb] 38) = W2 at z1 hHeld ow rE hge hgo' ⊢
          generalize W1.heap.size = ge at rE hge hne ⊢
          try simp only [List.getElem_toArray, List.getElem_cons_succ, List.getElem_cons_zero, Act.put, List.setIfInBounds_toArray, List.set_cons_zero, List.set_cons_succ]
          refine wpAnyH_ready (rs := [5]) (by kernel_rfl) (by simp) ?_
          refine AllReadyH.cons rfl (fun K_ hK => ?_) ?_
          · refine step_append _ rfl _ _ _ rfl wm.heap.size _ i0 _ 2 32 Tryd.underlying22 hi0 hz0 hz1 hz2 rfl (by omega) _ _ _ rfl _ _ _ _ _ rfl ow (rfr _ z1) (fcells_one (fs.take kk)) (by unfold maxLen; omega) (by omega) z1.size ?_
            intro v5 W3 ow' kz hg
            replace rE := rE.grown (row := some go) hg (Nat.le_refl _) (by intro a ha; cases ha; intro e; exact hne (Option.some.inj e).symm)
            replace rE := rE.mono hg.size
            replace ow := ow'
            replace z1 := z1.trans kz
            clear ow' kz hg
            refine hK.out _ _ (mk7 _ z1) (fun hHeld => ?_)
            clear hK K_
            try simp only [List.getElem_toArray, List.getElem_cons_succ, List.getElem_cons_zero, Act.put, List.setIfInBounds_toArray, List.set_cons_zero, List.set_cons_succ]
            refine wpAnyH_ready (rs := [13]) (by kernel_rfl) (by simp) ?_
            refine AllReadyH.cons rfl (fun K_ hK => ?_) ?_
            · refine step_append _ rfl _ _ _ rfl wm.heap.size _ i0 _ 2 32 Tryd.underlying22 hi0 hz0 hz1 hz2 rfl (by omega) _ _ _ rfl _ _ _ _ _ rfl ow (rE) (by simp [Value.oneCell']) (by unfold maxLen; omega) (by omega) z1.size ?_
              intro v13 W4 ow' kz hg
              replace ow := ow'
              replace z1 := z1.trans kz
              clear ow' kz hg
              refine hK.out _ _ (mk7 _ z1) (fun hHeld => ?_)
              clear hK K_
              try simp only [List.getElem_toArray, List.getElem_cons_succ, List.getElem_cons_zero, Act.put, List.setIfInBounds_toArray, List.set_cons_zero, List.set_cons_succ]
              refine wpAnyH_ready (rs := [18]) (by kernel_rfl) (by simp) ?_
              refine AllReadyH.cons rfl (fun K_ hK => ?_) ?_
              · refine step_append _ rfl _ _ _ rfl wm.heap.size _ i0 _ 2 32 Tryd.underlying22 hi0 hz0 hz1 hz2 rfl (by omega) _ _ _ rfl _ _ _ _ _ rfl ow (rtl _ z1) (fcells_one (fs.drop kk)) (by unfold maxLen; omega) (by omega) z1.size ?_
                intro v18 W5 ow' kz hg
                replace ow := ow'
                replace z1 := z1.trans kz
                clear ow' kz hg
                rw [hfin, hcnt] at ow
                obtain ⟨A', c', rfl, -, -⟩ := own_shape ow
                refine hK.out _ _ (mk7 _ z1) (fun hHeld => ?_)
                clear hK K_
                try simp only [List.getElem_toArray, List.getElem_cons_succ, List.getElem_cons_zero, Act.put, List.setIfInBounds_toArray, List.set_cons_zero, List.set_cons_succ]
                refine wpAnyH_take (i := 19) (v := ?_) rfl (by kernel_rfl) (by kernel_rfl) (by kernel_rfl) CalmP.onlyN_panic (Or.inl ⟨by kernel_rfl, ?_⟩) (by assumption) ?_
                rotate_left
                · (intro w_ hSw; (try dsimp only at hSw); go_simp; try with_reducible rfl)
                try simp only [List.getElem_toArray, List.getElem_cons_succ, List.getElem_cons_zero, Act.put, List.setIfInBounds_toArray, List.set_cons_zero, List.set_cons_succ]
                refine wpAnyH_done (by kernel_rfl) ?_ _
                refine CalmP.onlyN_here (hQ.out _ _ ?_)
                clear hQ K0
                go_wp2_with fail
                go_meet
                exact ⟨A', c', rfl, ow, z1⟩
              exact AllReadyH.nil
            exact AllReadyH.nil
          exact AllReadyH.nil
        exact AllReadyH.nil
      refine AllReadyH.cons rfl (fun K_ hK => ?_) ?_
      · go_simp
        have kc : Below W0.heap.size W0 (W0.alloc (.cells #[.string ma, .string mb] 38)) := (Below.refl _ _).alloc (Nat.le_refl _) _
        have rE := (rd_new W0 #[.string ma, .string mb] 38 2 1 rfl).mono (B' := (W0.alloc (.cells #[.string ma, .string mb] 38)).heap.size) (by simp)
        have hge : W0.heap.size < (W0.alloc (.cells #[.string ma, .string mb] 38)).heap.size := by simp
        replace z1 := z1.trans (kc.mono z1.size)
        clear kc
        refine hK.out _ _ (mk7 _ z1) (fun hHeld => ?_)
        clear hK K_
        generalize W0.alloc (.cells #[.string ma, .string mb] 38) = W1 at z1 hHeld rE hge ⊢
        generalize W0.heap.size = ge at rE hge ⊢
        try simp only [List.getElem_toArray, List.getElem_cons_succ, List.getElem_cons_zero, Act.put, List.setIfInBounds_toArray, List.set_cons_zero, List.set_cons_succ]
        refine wpAnyH_ready (rs := [0]) (by kernel_rfl) (by simp) ?_
        refine AllReadyH.cons rfl (fun K_ hK => ?_) ?_
        · go_simp
          have kc : Below W1.heap.size W1 (W1.alloc (.cells #[] 38)) := (Below.refl _ _).alloc (Nat.le_refl _) _
          have ow := own_new W1 #[] 38 2 0 rfl (by unfold maxLen; omega) wm.heap.size z1.size
          have hne : ge ≠ W1.heap.size := by omega
          replace rE := step_ rE kc
          replace z1 := z1.trans (kc.mono z1.size)
          have hgo' : W1.heap.size < (W1.alloc (.cells #[] 38)).heap.size := by simp
          have hge := Nat.lt_trans hge hgo'
          clear kc
          refine hK.out _ _ (mk7 _ z1) (fun hHeld => ?_)
          clear hK K_
          generalize W1.alloc (.cells #[] 38) = W2 at z1 hHeld ow rE hge hgo' ⊢
          generalize W1.heap.size = go at ow hgo' hne ⊢
          try simp only [List.getElem_toArray, List.getElem_cons_succ, List.getElem_cons_zero, Act.put, List.setIfInBounds_toArray, List.set_cons_zero, List.set_cons_succ]
          refine wpAnyH_ready (rs := [5]) (by kernel_rfl) (by simp) ?_
          refine AllReadyH.cons rfl (fun K_ hK => ?_) ?_
          · refine step_append _ rfl _ _ _ rfl wm.heap.size _ i0 _ 2 32 Tryd.underlying22 hi0 hz0 hz1 hz2 rfl (by omega) _ _ _ rfl _ _ _ _ _ rfl ow (rfr _ z1) (fcells_one (fs.take kk)) (by unfold maxLen; omega) (by omega) z1.size ?_
            intro v5 W3 ow' kz hg
            replace rE := rE.grown (row := some go) hg (Nat.le_refl _) (by intro a ha; cases ha; intro e; exact hne (Option.some.inj e).symm)
            replace rE := rE.mono hg.size
            replace ow := ow'
            replace z1 := z1.trans kz
            clear ow' kz hg
            refine hK.out _ _ (mk7 _ z1) (fun hHeld => ?_)
            clear hK K_
            try simp only [List.getElem_toArray, List.getElem_cons_succ, List.getElem_cons_zero, Act.put, List.setIfInBounds_toArray, List.set_cons_zero, List.set_cons_succ]
            refine wpAnyH_ready (rs := [13]) (by kernel_rfl) (by simp) ?_
            refine AllReadyH.cons rfl (fun K_ hK => ?_) ?_
            · refine step_append _ rfl _ _ _ rfl wm.heap.size _ i0 _ 2 32 Tryd.underlying22 hi0 hz0 hz1 hz2 rfl (by omega) _ _ _ rfl _ _ _ _ _ rfl ow (rE) (by simp [Value.oneCell']) (by unfold maxLen; omega) (by omega) z1.size ?_
              intro v13 W4 ow' kz hg
              replace ow := ow'
              replace z1 := z1.trans kz
              clear ow' kz hg
              refine hK.out _ _ (mk7 _ z1) (fun hHeld => ?_)
              clear hK K_
              try simp only [List.getElem_toArray, List.getElem_cons_succ, List.getElem_cons_zero, Act.put, List.setIfInBounds_toArray, List.set_cons_zero, List.set_cons_succ]
              refine wpAnyH_ready (rs := [18]) (by kernel_rfl) (by simp) ?_
              refine AllReadyH.cons rfl (fun K_ hK => ?_) ?_
              · refine step_append _ rfl _ _ _ rfl wm.heap.size _ i0 _ 2 32 Tryd.underlying22 hi0 hz0 hz1 hz2 rfl (by omega) _ _ _ rfl _ _ _ _ _ rfl ow (rtl _ z1) (fcells_one (fs.drop kk)) (by unfold maxLen; omega) (by omega) z1.size ?_
                intro v18 W5 ow' kz hg
                replace ow := ow'
                replace z1 := z1.trans kz
                clear ow' kz hg
                rw [hfin, hcnt] at ow
                obtain ⟨A', c', rfl, -, -⟩ := own_shape ow
                refine hK.out _ _ (mk7 _ z1) (fun hHeld => ?_)
                clear hK K_
                try simp only [List.getElem_toArray, List.getElem_cons_succ, List.getElem_cons_zero, Act.put, List.setIfInBounds_toArray, List.set_cons_zero, List.set_cons_succ]
                refine wpAnyH_take (i := 19) (v := ?_) rfl (by kernel_rfl) (by kernel_rfl) (by kernel_rfl) CalmP.onlyN_panic (Or.inl ⟨by kernel_rfl, ?_⟩) (by assumption) ?_
                rotate_left
                · (intro w_ hSw; (try dsimp only at hSw); go_simp; try with_reducible rfl)
                try simp only [List.getElem_toArray, List.getElem_cons_succ, List.getElem_cons_zero, Act.put, List.setIfInBounds_toArray, List.set_cons_zero, List.set_cons_succ]
                refine wpAnyH_done (by kernel_rfl) ?_ _
                refine CalmP.onlyN_here (hQ.out _ _ ?_)
                clear hQ K0
                go_wp2_with fail
                go_meet
                exact ⟨A', c', rfl, ow, z1⟩
              exact AllReadyH.nil
            exact AllReadyH.nil
          exact AllReadyH.nil
        exact AllReadyH.nil
      exact AllReadyH.nil
    case rest =>
      clear hAt rfr rtl hfin hcnt z1 mk7 hM bM hwr i0' i1 i2 i3 i4 i5
      obtain ⟨A', c', rfl, ow, zk⟩ := hcut
      have rM := Rd.of_own ow
      have z := km.trans (zk.mono km.size)
      clear ow zk km rA hwz
      have b2_ := b_
      obtain ⟨gs, hgs⟩ : ∃ g, wc.heap.size = g := ⟨_, rfl⟩
      rw [hgs] at rM
      have hg1 : w1.heap.size ≤ gs := by rw [← hgs]; exact z.size
      have hg0 : w.heap.size ≤ gs := Nat.le_trans tW.size hg1
      obtain ⟨d0, d1, d2, d3, d4, d5, d6, e0, e1, e2, e3⟩ := mk _ z
      have bs := Box.new wc #[.int .i64 minor, .int .i64 status, .string s_, .slice A n c] 41
      have ka := (Below.refl wc.heap.size wc).alloc (Nat.le_refl _) (.cells #[.int .i64 minor, .int .i64 status, .string s_, .slice A n c] 41)
      rw [hgs] at bs ka
      replace rM := rM.below ka
      replace z := z.trans (ka.mono hg1)
      have hsz := ka.size
      rw [hgs] at hsz
      go_upto_region 9 with (fail)
      try rw [hgs]
      clear d0 d1 d2 d3 d4 d5 d6 e0 e1 e2 e3 ka
      generalize wc.alloc _ = wb at bs rM z hsz ⊢
      clear hgs
      obtain ⟨e0, e1, e2, e3⟩ := bs.four
      obtain ⟨f0, f1, f2, f3⟩ := bs.free4
      go_upto_region 10 with (fail)
      clear e0 e1 e2 e3 f0 f1 f2 f3
      replace bs := bs.set (k := 3) (x := .slice A' (n + 1) c') (by simp)
      replace rM := rM.far (k := 3) (x := .slice A' (n + 1) c') (Nat.le_refl gs)
      replace z := z.setCell (show w1.heap.size ≤ (⟨gs, 3, none⟩ : Addr).block from hg1) (.slice A' (n + 1) c')
      have hsz' : gs ≤ (wb.setCell ⟨gs, 3, none⟩ (.slice A' (n + 1) c')).heap.size := by simpa [World.setCell] using hsz
      clear hsz
      generalize wb.setCell ⟨gs, 3, none⟩ (.slice A' (n + 1) c') = we at bs rM z hsz' ⊢
      replace bs : Box we gs [.int .i64 minor, .int .i64 status, .string s_, .slice A' (n + 1) c'] := bs
      obtain ⟨gt, hgt⟩ : ∃ g, we.heap.size = g := ⟨_, rfl⟩
      have hst : gs < gt := by rw [← hgt]; exact bs.1
      obtain ⟨d0, d1, d2, d3, d4, d5, d6, e0, e1, e2, e3⟩ := mk _ z
      have bt := Box.new we #[.int .i64 minor, .int .i64 status, .string s_, .slice A n c] 41
      have ka := (Below.refl we.heap.size we).alloc (Nat.le_refl _) (.cells #[.int .i64 minor, .int .i64 status, .string s_, .slice A n c] 41)
      replace bs := bs.below ka
      rw [hgt] at bt ka
      replace rM := rM.below (ka.mono (Nat.le_of_lt hst))
      replace z := z.trans (ka.mono (Nat.le_trans hg1 (Nat.le_of_lt hst)))
      go_upto_region 11 with (fail)
      try rw [hgt]
      clear d0 d1 d2 d3 d4 d5 d6 e0 e1 e2 e3 ka hsz'
      generalize we.alloc _ = wf at bs bt rM z ⊢
      clear hgt
      have hne : gs ≠ gt := Nat.ne_of_lt hst
      obtain ⟨e0, e1, e2, e3⟩ := bt.four
      obtain ⟨f0, f1, f2, f3⟩ := bt.free4
      go_upto_region 12 with (fail)
      clear e0 e1 e2 e3 f0 f1 f2 f3
      replace bt := bt.set (k := 1) (x := .int .i64 206) (by simp)
      replace bs := bs.far (k := 1) (x := .int .i64 206) hne
      replace rM := rM.far (k := 1) (x := .int .i64 206) (Nat.le_of_lt hst)
      replace z := z.setCell (show w1.heap.size ≤ (⟨gt, 1, none⟩ : Addr).block from Nat.le_trans hg1 (Nat.le_of_lt hst)) (.int .i64 206)
      generalize wf.setCell ⟨gt, 1, none⟩ (.int .i64 206) = wg at bs bt rM z ⊢
      replace bt : Box wg gt [.int .i64 minor, .int .i64 206, .string s_, .slice A n c] := bt
      have hmid : fsOk (midF fs kk fz) := by rw [HFZ.out]; exact ok_mid hok kk z2 hz24
      have qE1 := fun (W : World) (b : Below w1.heap.size w1 W) (hg : gs ≤ W.heap.size) (r : Rd W gs 2 A' (n + 1) (fcells (midF fs kk fz))) => elig_any A0 A1 n0 c0 n1 c1 lv least cp bf tm minor status s_ ⟨#[71, 69, 84]⟩ A' (n + 1) c' gs _ ts W r ((h1.below (b_ W b)).mono hg0) hg (by omega) (by omega) hmid hts3
      have qE2 := fun (W : World) (b : Below w1.heap.size w1 W) => elig_any A0 A1 n0 c0 n1 c1 lv least cp bf tm minor 206 s_ ⟨#[71, 69, 84]⟩ A n c _ fs ts W (h.below (b_ W b)) (h1.below (b_ W b)) (b_ W b).size (by omega) (by omega) hok hts3
      have qE3 := fun (W : World) (b : Below w1.heap.size w1 W) => elig_any A0 A1 n0 c0 n1 c1 lv least cp bf tm minor status s_ ⟨#[72, 69, 65, 68]⟩ A n c _ fs ts W (h.below (b_ W b)) (h1.below (b_ W b)) (b_ W b).size (by omega) (by omega) hok hts3
      have qK1 := fun (W : World) (b : Below w1.heap.size w1 W) => pkept_any minor 206 s_ A n c _ fs W (h.below (b_ W b)) (b_ W b).size (by omega) hok
      have qK2 := fun (W : World) (hg : gs ≤ W.heap.size) (r : Rd W gs 2 A' (n + 1) (fcells (midF fs kk fz))) => pkept_any minor status s_ A' (n + 1) c' gs _ W r hg (by omega) hmid
      have eM : ∀ m, eligL least ts m status (midF fs kk fz) = false := fun m => by rw [HFZ.out]; exact elig_mid least ts m status fs kk z2 hz24
      have eH : (⟨#[72, 69, 65, 68]⟩ : ByteArray).data.toList = [72, 69, 65, 68] := rfl
      have eK : z2 < 2 → keptL status (midF fs kk fz) = true := fun h2 => by rw [HFZ.out]; exact kept_mid fs kk z2 status h2
      simp only [eM] at qE1
      simp only [elig_206] at qE2
      simp only [eH, elig_head] at qE3
      simp only [kept_206] at qK1
      obtain ⟨kp, hkp⟩ : ∃ b, keptL status (midF fs kk fz) = b := ⟨_, rfl⟩
      rw [hkp] at eK
      simp only [hkp] at qK2
      have w8 : IntKind.u8.wrap (z2 : Int) = (z2 : Int) := by simp [IntKind.wrap, IntKind.bits, IntKind.signed]; omega
      clear hkp eM eH hmid hok hts hts3 h h1 b_ HMA HMB HFZ HMA' HMB' hi0 hz0 hz1 hz2 hz hkn hnc hn hn1
      by_cases hz22 : z2 < 2
      · have hkp := eK hz22
        subst hkp
        have dz : decide ((1 : Int) < (z2 : Int)) = false := decide_eq_false (by omega)
        clear eK
        obtain ⟨d0, d1, d2, d3, d4, d5, d6, e0, e1, e2, e3⟩ := mk _ z
        obtain ⟨g0, g1, g2, g3⟩ := bs.four
        obtain ⟨t0, t1, t2, t3⟩ := bt.four
        have hgs := Nat.le_of_lt bs.1
        go_wp2_with fail
        refine (qA wg z).mono ?_
        rintro e wh1 ⟨rfl, k8⟩
        replace bs := bs.below k8
        replace bt := bt.below k8
        replace rM := rM.below (k8.mono hgs)
        replace z := z.trans (k8.mono z.size)
        clear d0 d1 d2 d3 d4 d5 d6 e0 e1 e2 e3 g0 g1 g2 g3 t0 t1 t2 t3 k8 hgs
        obtain ⟨d0, d1, d2, d3, d4, d5, d6, e0, e1, e2, e3⟩ := mk _ z
        obtain ⟨g0, g1, g2, g3⟩ := bs.four
        obtain ⟨t0, t1, t2, t3⟩ := bt.four
        have hgs := Nat.le_of_lt bs.1
        go_wp2_with fail
        refine (qE1 wh1 z hgs rM).mono ?_
        rintro e wh2 ⟨rfl, k8⟩
        replace bs := bs.below k8
        replace bt := bt.below k8
        replace rM := rM.below (k8.mono hgs)
        replace z := z.trans (k8.mono z.size)
        clear d0 d1 d2 d3 d4 d5 d6 e0 e1 e2 e3 g0 g1 g2 g3 t0 t1 t2 t3 k8 hgs
        obtain ⟨d0, d1, d2, d3, d4, d5, d6, e0, e1, e2, e3⟩ := mk _ z
        obtain ⟨g0, g1, g2, g3⟩ := bs.four
        obtain ⟨t0, t1, t2, t3⟩ := bt.four
        have hgs := Nat.le_of_lt bs.1
        go_wp2_with fail
        refine (qE2 wh2 z).mono ?_
        rintro e wh3 ⟨rfl, k8⟩
        replace bs := bs.below k8
        replace bt := bt.below k8
        replace rM := rM.below (k8.mono hgs)
        replace z := z.trans (k8.mono z.size)
        clear d0 d1 d2 d3 d4 d5 d6 e0 e1 e2 e3 g0 g1 g2 g3 t0 t1 t2 t3 k8 hgs
        obtain ⟨d0, d1, d2, d3, d4, d5, d6, e0, e1, e2, e3⟩ := mk _ z
        obtain ⟨g0, g1, g2, g3⟩ := bs.four
        obtain ⟨t0, t1, t2, t3⟩ := bt.four
        have hgs := Nat.le_of_lt bs.1
        go_wp2_with fail
        refine (qK1 wh3 z).mono ?_
        rintro e wh4 ⟨rfl, k8⟩
        replace bs := bs.below k8
        replace bt := bt.below k8
        replace rM := rM.below (k8.mono hgs)
        replace z := z.trans (k8.mono z.size)
        clear d0 d1 d2 d3 d4 d5 d6 e0 e1 e2 e3 g0 g1 g2 g3 t0 t1 t2 t3 k8 hgs
        obtain ⟨d0, d1, d2, d3, d4, d5, d6, e0, e1, e2, e3⟩ := mk _ z
        obtain ⟨g0, g1, g2, g3⟩ := bs.four
        obtain ⟨t0, t1, t2, t3⟩ := bt.four
        have hgs := Nat.le_of_lt bs.1
        go_wp2_with fail
        refine (qK2 wh4 hgs rM).mono ?_
        rintro e wh5 ⟨rfl, k8⟩
        replace bs := bs.below k8
        replace bt := bt.below k8
        replace rM := rM.below (k8.mono hgs)
        replace z := z.trans (k8.mono z.size)
        clear d0 d1 d2 d3 d4 d5 d6 e0 e1 e2 e3 g0 g1 g2 g3 t0 t1 t2 t3 k8 hgs
        obtain ⟨d0, d1, d2, d3, d4, d5, d6, e0, e1, e2, e3⟩ := mk _ z
        obtain ⟨g0, g1, g2, g3⟩ := bs.four
        obtain ⟨t0, t1, t2, t3⟩ := bt.four
        have hgs := Nat.le_of_lt bs.1
        go_wp2_with fail
        refine (qE3 wh5 z).mono ?_
        rintro e wh6 ⟨rfl, k8⟩
        replace bs := bs.below k8
        replace bt := bt.below k8
        replace rM := rM.below (k8.mono hgs)
        replace z := z.trans (k8.mono z.size)
        clear d0 d1 d2 d3 d4 d5 d6 e0 e1 e2 e3 g0 g1 g2 g3 t0 t1 t2 t3 k8 hgs
        go_wp2
        go_ret
        exact ⟨rfl, b2_ _ z⟩
      · have dz : decide ((1 : Int) < (z2 : Int)) = true := decide_eq_true (by omega)
        clear eK
        obtain ⟨d0, d1, d2, d3, d4, d5, d6, e0, e1, e2, e3⟩ := mk _ z
        obtain ⟨g0, g1, g2, g3⟩ := bs.four
        obtain ⟨t0, t1, t2, t3⟩ := bt.four
        have hgs := Nat.le_of_lt bs.1
        go_wp2_with fail
        refine (qA wg z).mono ?_
        rintro e wh1 ⟨rfl, k8⟩
        replace bs := bs.below k8
        replace bt := bt.below k8
        replace rM := rM.below (k8.mono hgs)
        replace z := z.trans (k8.mono z.size)
        clear d0 d1 d2 d3 d4 d5 d6 e0 e1 e2 e3 g0 g1 g2 g3 t0 t1 t2 t3 k8 hgs
        obtain ⟨d0, d1, d2, d3, d4, d5, d6, e0, e1, e2, e3⟩ := mk _ z
        obtain ⟨g0, g1, g2, g3⟩ := bs.four
        obtain ⟨t0, t1, t2, t3⟩ := bt.four
        have hgs := Nat.le_of_lt bs.1
        go_wp2_with fail
        refine (qE1 wh1 z hgs rM).mono ?_
        rintro e wh2 ⟨rfl, k8⟩
        replace bs := bs.below k8
        replace bt := bt.below k8
        replace rM := rM.below (k8.mono hgs)
        replace z := z.trans (k8.mono z.size)
        clear d0 d1 d2 d3 d4 d5 d6 e0 e1 e2 e3 g0 g1 g2 g3 t0 t1 t2 t3 k8 hgs
        obtain ⟨d0, d1, d2, d3, d4, d5, d6, e0, e1, e2, e3⟩ := mk _ z
        obtain ⟨g0, g1, g2, g3⟩ := bs.four
        obtain ⟨t0, t1, t2, t3⟩ := bt.four
        have hgs := Nat.le_of_lt bs.1
        go_wp2_with fail
        refine (qE2 wh2 z).mono ?_
        rintro e wh3 ⟨rfl, k8⟩
        replace bs := bs.below k8
        replace bt := bt.below k8
        replace rM := rM.below (k8.mono hgs)
        replace z := z.trans (k8.mono z.size)
        clear d0 d1 d2 d3 d4 d5 d6 e0 e1 e2 e3 g0 g1 g2 g3 t0 t1 t2 t3 k8 hgs
        obtain ⟨d0, d1, d2, d3, d4, d5, d6, e0, e1, e2, e3⟩ := mk _ z
        obtain ⟨g0, g1, g2, g3⟩ := bs.four
        obtain ⟨t0, t1, t2, t3⟩ := bt.four
        have hgs := Nat.le_of_lt bs.1
        go_wp2_with fail
        refine (qK1 wh3 z).mono ?_
        rintro e wh4 ⟨rfl, k8⟩
        replace bs := bs.below k8
        replace bt := bt.below k8
        replace rM := rM.below (k8.mono hgs)
        replace z := z.trans (k8.mono z.size)
        clear d0 d1 d2 d3 d4 d5 d6 e0 e1 e2 e3 g0 g1 g2 g3 t0 t1 t2 t3 k8 hgs
        obtain ⟨d0, d1, d2, d3, d4, d5, d6, e0, e1, e2, e3⟩ := mk _ z
        obtain ⟨g0, g1, g2, g3⟩ := bs.four
        obtain ⟨t0, t1, t2, t3⟩ := bt.four
        have hgs := Nat.le_of_lt bs.1
        go_wp2_with fail
        refine (qE3 wh4 z).mono ?_
        rintro e wh6 ⟨rfl, k8⟩
        replace bs := bs.below k8
        replace bt := bt.below k8
        replace rM := rM.below (k8.mono hgs)
        replace z := z.trans (k8.mono z.size)
        clear d0 d1 d2 d3 d4 d5 d6 e0 e1 e2 e3 g0 g1 g2 g3 t0 t1 t2 t3 k8 hgs
        go_wp2
        go_ret
        exact ⟨rfl, b2_ _ z⟩
/-- The settled world that the card begins from. -/
noncomputable def laidWorld (os : Os) : World := laidWorld7 os
end Go.Proofs.YtgdjlmpfjmakkaaDoor.PolicyKeptP
