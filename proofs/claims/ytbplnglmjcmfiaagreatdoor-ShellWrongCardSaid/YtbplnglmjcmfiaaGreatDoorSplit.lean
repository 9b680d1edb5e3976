/- What the members of a value are: plain lists. -/
import Derived.Test.YtbplnglmjcmfiaaGreatDoorTrim
import Derived.Deep.LoopGhost
namespace Go.Proofs.YtbplnglmjcmfiaaGreatDoor

/-- How long the first member is; q: within quotes. -/
def cutL : Bool → List UInt8 → Nat
  | _, [] => 0
  | q, c :: l =>
    if q && c == 92 then
      match l with
      | [] => 1
      | _ :: l' => cutL q l' + 2
    else if c == 34 then cutL (!q) l + 1
    else if !q && c == 44 then 0
    else cutL q l + 1
theorem cutL_le : ∀ (n : Nat) (q : Bool) (l : List UInt8), l.length ≤ n → cutL q l ≤ l.length
  | _, q, [], _ => by simp [cutL]
  | 0, q, c :: l, h => by simp at h
  | n + 1, q, c :: l, h => by
    have h' : l.length ≤ n := by simpa using h
    unfold cutL
    split
    · cases l with
      | nil => simp
      | cons d l' => have := cutL_le n q l' (by simp at h'; omega); simp; omega
    · split
      · have := cutL_le n (!q) l h'; simp; omega
      · split
        · simp
        · have := cutL_le n q l h'; simp; omega
theorem cut_le (q : Bool) (l : List UInt8) : cutL q l ≤ l.length := cutL_le l.length q l (Nat.le_refl _)
/-- A member, if it is one. -/
def pieceL (l : List UInt8) : List (List UInt8) := if trimL l = [] then [] else [trimL l]
/-- The members. -/
def splitL (l : List UInt8) : List (List UInt8) :=
  if _h : cutL false l < l.length then pieceL (l.take (cutL false l)) ++ splitL (l.drop (cutL false l + 1)) else pieceL l
termination_by l.length
decreasing_by simp; omega
theorem splitL_step (l : List UInt8) (h : cutL false l < l.length) : splitL l = pieceL (l.take (cutL false l)) ++ splitL (l.drop (cutL false l + 1)) := by rw [splitL, dif_pos h]
theorem splitL_last (l : List UInt8) (h : ¬ cutL false l < l.length) : splitL l = pieceL l := by rw [splitL, dif_neg h]
theorem pieceL_length (l : List UInt8) : (pieceL l).length ≤ 1 := by unfold pieceL; split <;> simp
theorem splitL_length : ∀ (n : Nat) (l : List UInt8), l.length ≤ n → (splitL l).length ≤ l.length + 1
  | 0, l, h => by
    have : ¬ cutL false l < l.length := by omega
    rw [splitL_last l this]; have := pieceL_length l; omega
  | n + 1, l, h => by
    by_cases hc : cutL false l < l.length
    · rw [splitL_step l hc, List.length_append]
      have h1 := pieceL_length (l.take (cutL false l))
      have h2 := splitL_length n (l.drop (cutL false l + 1)) (by simp; omega)
      simp at h2; omega
    · rw [splitL_last l hc]; have := pieceL_length l; omega
theorem split_length (l : List UInt8) : (splitL l).length ≤ l.length + 1 := splitL_length l.length l (Nat.le_refl _)
/-- No member is empty. -/
theorem splitL_ne : ∀ (n : Nat) (l : List UInt8), l.length ≤ n → ∀ x ∈ splitL l, x ≠ [] ∧ ∃ y, x = trimL y
  | n, l, h, x, hx => by
    have hp : ∀ m : List UInt8, x ∈ pieceL m → x ≠ [] ∧ ∃ y, x = trimL y := fun m hm => by
      unfold pieceL at hm
      split at hm
      · simp at hm
      · rename_i hne
        simp at hm; subst hm; exact ⟨hne, m, rfl⟩
    by_cases hc : cutL false l < l.length
    · rw [splitL_step l hc, List.mem_append] at hx
      rcases hx with hx | hx
      · exact hp _ hx
      · match n with
        | 0 => omega
        | n + 1 => exact splitL_ne n _ (by simp; omega) x hx
    · rw [splitL_last l hc] at hx; exact hp _ hx

/-- The cells that hold texts. -/
def scells (ls : List (List UInt8)) : List Value := ls.map fun l => .string ⟨l.toArray⟩
theorem scells_length (ls : List (List UInt8)) : (scells ls).length = ls.length := by simp [scells]
theorem scells_append (a b : List (List UInt8)) : scells a ++ scells b = scells (a ++ b) := by simp [scells]
theorem scells_one (ls : List (List UInt8)) : ∀ u ∈ scells ls, u.oneCell' = true := by
  intro u hu
  obtain ⟨b, _, rfl⟩ := List.mem_map.1 hu
  rfl
theorem scells_take (l : List (List UInt8)) (k : Nat) : (scells l).take k = scells (l.take k) := by simp [scells, List.map_take]
theorem scells_drop (l : List (List UInt8)) (k : Nat) : (scells l).drop k = scells (l.drop k) := by simp [scells, List.map_drop]
theorem scells_get (ls : List (List UInt8)) (k : Nat) (h : k < ls.length) : (scells ls)[k]? = some (.string ⟨ls[k].toArray⟩) := by simp [scells, h]
theorem own_snoc_str {w : World} {base e n : Nat} {v : Value} {ls : List (List UInt8)} {s : ByteArray} {b : List UInt8} (h : w.ownsRow base e 1 v (n + 1) (scells ls ++ (#[Value.string s]).toList)) (hx : s.data.toList = b) : w.ownsRow base e 1 v (n + 1) (scells (ls ++ [b])) := by
  subst hx; simpa [scells, bytes_of] using h

/-- A step of the scan. -/
theorem cutL_cons (q : Bool) (c : UInt8) (l : List UInt8) : cutL q (c :: l) =
    if q && c == 92 then (match l with | [] => 1 | _ :: l' => cutL q l' + 2) else if c == 34 then cutL (!q) l + 1 else if !q && c == 44 then 0 else cutL q l + 1 := by
  conv => lhs; unfold cutL
theorem cutL_esc (c : UInt8) (l : List UInt8) (h : c = 92) : cutL true (c :: l) = match l with | [] => 1 | _ :: l' => cutL true l' + 2 := by subst h; rw [cutL_cons, if_pos (by decide)]
theorem cutL_quote (q : Bool) (c : UInt8) (l : List UInt8) (h : c = 34) : cutL q (c :: l) = cutL (!q) l + 1 := by
  subst h; rw [cutL_cons, if_neg (by cases q <;> decide), if_pos (by decide)]
theorem cutL_comma (c : UInt8) (l : List UInt8) (h : c = 44) : cutL false (c :: l) = 0 := by subst h; rw [cutL_cons, if_neg (by decide), if_neg (by decide), if_pos (by decide)]
theorem cutL_other (q : Bool) (c : UInt8) (l : List UInt8) (h1 : ¬ (q = true ∧ c = 92)) (h2 : c ≠ 34) (h3 : ¬ (q = false ∧ c = 44)) : cutL q (c :: l) = cutL q l + 1 := by
  rw [cutL_cons, if_neg (by simpa using h1), if_neg (by simpa using h2), if_neg (by simpa using h3)]
end Go.Proofs.YtbplnglmjcmfiaaGreatDoor

/- field.cut, field.Split and the reference's Split: the members of a value. -/
namespace Go.Proofs.YtbplnglmjcmfiaaGreatDoor
open Go.RowKit

/-- cut at a place of the scan: what a byte does. -/
theorem cut_at {s : ByteArray} {k : Nat} {q : Bool} {b : UInt8} (hk : k < s.size) (hb : s[k] = b) (h : cutL false s.data.toList = k + cutL q (s.data.toList.drop k)) :
    (q = true ∧ b = 92 → (k + 1 = s.size → cutL false s.data.toList = s.size) ∧ (k + 2 ≤ s.size → cutL false s.data.toList = (k + 2) + cutL q (s.data.toList.drop (k + 2)))) ∧
    (b = 34 → cutL false s.data.toList = (k + 1) + cutL (!q) (s.data.toList.drop (k + 1))) ∧
    (q = false ∧ b = 44 → cutL false s.data.toList = k) ∧
    (¬ (q = true ∧ b = 92) → b ≠ 34 → ¬ (q = false ∧ b = 44) → cutL false s.data.toList = (k + 1) + cutL q (s.data.toList.drop (k + 1))) := by
  have hd := drop_cons s k hk
  rw [hb] at hd
  rw [hd] at h
  refine ⟨?_, ?_, ?_, ?_⟩
  · rintro ⟨rfl, rfl⟩
    rw [cutL_esc _ _ rfl] at h
    constructor
    · intro he
      rw [drop_all s (k + 1) (by omega)] at h
      simp at h; omega
    · intro he
      rw [drop_cons s (k + 1) (by omega)] at h
      simp only [show k + 1 + 1 = k + 2 from rfl] at h
      omega
  · intro he
    rw [cutL_quote q b _ he] at h; omega
  · rintro ⟨rfl, he⟩
    rw [cutL_comma b _ he] at h; omega
  · intro h1 h2 h3
    rw [cutL_other q b _ h1 h2 h3] at h; omega
theorem byte_eq_num (b : UInt8) (n : Nat) (hn : n < 256) : (((b.toNat : Int) == (n : Int)) = true ↔ b = UInt8.ofNat n) := by
  simp only [beq_iff_eq]
  constructor
  · intro h; exact UInt8.toNat_inj.1 (by simp; omega)
  · rintro rfl; simp; omega

set_option maxRecDepth 100000 in
set_option maxHeartbeats 3200000 in
theorem cut_any (s : ByteArray) (w : World) (hs : s.size ≤ 140737488355328) :
    Calls Tryz.prog 154 #[.string s] w fun e w' => e = .returned (.int .i64 (cutL false s.data.toList)) ∧ w = w' := by
  have HL := hide (size_of s)
  go_enter Tryz.func154, Tryz.ntmps154
  go_wp2_with fail
  go_loopg [3, 4] (s.size + 1) (fun g v i w' => ∃ (k : Nat) (q : Bool), g + k = s.size + 1 ∧ i = .int .i64 k ∧ v = .bool q ∧ w' = w ∧ ((k ≤ s.size ∧ cutL false s.data.toList = k + cutL q (s.data.toList.drop k)) ∨ (k = s.size + 1 ∧ cutL false s.data.toList = s.size)))
  case atStart => exact ⟨0, false, by omega, rfl, rfl, rfl, .inl ⟨Nat.zero_le _, by simp⟩⟩
  case round =>
    obtain ⟨k, q, hk, rfl, rfl, hw, hc⟩ := hrel
    obtain rfl : w = wr := hw.symm
    by_cases hlt : k < s.size
    · have hc1 : cutL false s.data.toList = k + cutL q (s.data.toList.drop k) := by
        rcases hc with h | h
        · exact h.2
        · omega
      obtain ⟨b, hb⟩ : ∃ b, s[k] = b := ⟨_, rfl⟩
      obtain ⟨c1, c2, c3, c4⟩ := cut_at hlt hb hc1
      have C1 := hide c1
      have C2 := hide c2
      have C3 := hide c3
      have C4 := hide c4
      have e92 := byte_eq_num b 92 (by decide)
      have e34 := byte_eq_num b 34 (by decide)
      have e44 := byte_eq_num b 44 (by decide)
      have HK := hide hk
      clear hc hc1 c1 c2 c3 c4 hk
      have n92 : ∀ h : ¬ b = 92, ((b.toNat : Int) == 92) = false := fun h => by rw [Bool.eq_false_iff]; exact fun e => h (e92.1 e)
      have n34 : ∀ h : ¬ b = 34, ((b.toNat : Int) == 34) = false := fun h => by rw [Bool.eq_false_iff]; exact fun e => h (e34.1 e)
      have n44 : ∀ h : ¬ b = 44, ((b.toNat : Int) == 44) = false := fun h => by rw [Bool.eq_false_iff]; exact fun e => h (e44.1 e)
      rcases q with _ | _
      · by_cases h34 : b = 34
        · have x1 := e34.2 h34
          have hn := C2.out h34
          have HN := hide hn
          clear hn e92 e34 e44 n92 n34 n44 h34
          go_wp2
          go_roundg (s.size + 1 - (k + 1))
          case measure => have := HK.out; omega
          case rel => have := HK.out; exact ⟨k + 1, true, by omega, by go_num, rfl, rfl, .inl ⟨by omega, HN.out⟩⟩
        · have x1 := n34 h34
          by_cases h44 : b = 44
          · have x2 := e44.2 h44
            have hn := C3.out ⟨rfl, h44⟩
            have HN := hide hn
            clear hn e92 e34 e44 n92 n34 n44 h34 h44
            go_wp2
            go_ret
            exact ⟨ret_int (by rw [HN.out]), rfl⟩
          · have x2 := n44 h44
            have hn := C4.out (by simp) h34 (by simp [h44])
            have HN := hide hn
            clear hn e92 e34 e44 n92 n34 n44 h34 h44
            go_wp2
            go_roundg (s.size + 1 - (k + 1))
            case measure => have := HK.out; omega
            case rel => have := HK.out; exact ⟨k + 1, false, by omega, by go_num, rfl, rfl, .inl ⟨by omega, HN.out⟩⟩
      · by_cases h92 : b = 92
        · have x1 := e92.2 h92
          obtain ⟨hn1, hn2⟩ := C1.out ⟨rfl, h92⟩
          have HN1 := hide hn1
          have HN2 := hide hn2
          clear hn1 hn2 e92 e34 e44 n92 n34 n44 h92
          go_wp2
          go_roundg (s.size + 1 - (k + 2))
          case measure => have := HK.out; omega
          case rel =>
            have := HK.out
            refine ⟨k + 2, true, by omega, by go_num, rfl, rfl, ?_⟩
            by_cases he : k + 1 = s.size
            · exact .inr ⟨by omega, HN1.out he⟩
            · exact .inl ⟨by omega, HN2.out (by omega)⟩
        · have x1 := n92 h92
          by_cases h34 : b = 34
          · have x2 := e34.2 h34
            have hn := C2.out h34
            have HN := hide hn
            clear hn e92 e34 e44 n92 n34 n44 h34 h92
            go_wp2
            go_roundg (s.size + 1 - (k + 1))
            case measure => have := HK.out; omega
            case rel => have := HK.out; exact ⟨k + 1, false, by omega, by go_num, rfl, rfl, .inl ⟨by omega, HN.out⟩⟩
          · have x2 := n34 h34
            have hn := C4.out (by simp [h92]) h34 (by simp)
            have HN := hide hn
            clear hn e92 e34 e44 n92 n34 n44 h34 h92
            go_wp2
            go_roundg (s.size + 1 - (k + 1))
            case measure => have := HK.out; omega
            case rel => have := HK.out; exact ⟨k + 1, true, by omega, by go_num, rfl, rfl, .inl ⟨by omega, HN.out⟩⟩
    · have hfin : cutL false s.data.toList = s.size := by
        have hl := HL.out
        rcases hc with h | h
        · rw [h.2, drop_all s k (by omega)]; simp [cutL]; omega
        · exact h.2
      have HF := hide hfin
      clear hfin hc
      go_wp2
      go_ret
      exact ⟨ret_int (by rw [HF.out]), rfl⟩
theorem infoStr : (Tryz.prog.info? 9).map (fun i => (i.zero, i.size, i.bytes)) = some (some (.string ByteArray.empty), 1, 16) := by kernel_rfl
theorem isEmpty_mk (l : List UInt8) : (⟨l.toArray⟩ : ByteArray).toList.isEmpty = l.isEmpty := by rw [ByteArray.toList_eq]
theorem splitL_piece (l : List UInt8) (outs : List (List UInt8)) (L : List UInt8) (h : splitL L = outs ++ splitL l) :
    (cutL false l < l.length → splitL L = (outs ++ pieceL (l.take (cutL false l))) ++ splitL (l.drop (cutL false l + 1))) ∧ (¬ cutL false l < l.length → splitL L = outs ++ pieceL (l.take (cutL false l))) := by
  constructor
  · intro hc; rw [h, splitL_step l hc, List.append_assoc]
  · intro hc; rw [h, splitL_last l hc, List.take_of_length_le (by omega)]

set_option maxRecDepth 100000 in
set_option maxHeartbeats 3200000 in
theorem split_any (s : ByteArray) (w : World) (hs : s.size ≤ 1048576) :
    Calls Tryz.prog 101 #[.string s] w fun e w' => ∃ A c, e = .returned (.slice A (splitL s.data.toList).length c) ∧
      w'.ownsRow w.heap.size 9 1 (.slice A (splitL s.data.toList).length c) (splitL s.data.toList).length (scells (splitL s.data.toList)) ∧ (splitL s.data.toList).length ≤ c ∧ Below w.heap.size w w' := by
  obtain ⟨i0, hi0, hz0, hz1, hz2⟩ := info_parts infoStr
  have htot := split_length s.data.toList
  rw [← size_of] at htot
  go_enter Tryz.func101, Tryz.ntmps101
  go_wp2_with fail
  go_loopw [0, 3] (fun v o wr => ∃ (t : ByteArray) (outs : List (List UInt8)), v = .string t ∧ t.size ≤ s.size ∧ splitL s.data.toList = outs ++ splitL t.data.toList ∧
    wr.ownsRow w.heap.size 9 1 o outs.length (scells outs) ∧ Below w.heap.size w wr) (fun v _ _ => strLen v)
  case atStart => exact ⟨s, [], rfl, Nat.le_refl _, rfl, World.ownsRow_nil _ _ _ _, Below.refl _ _⟩
  case round =>
    obtain ⟨t, outs, rfl, ht, hsp, ho, hb⟩ := hrel
    obtain ⟨p1, p2⟩ := splitL_piece _ _ _ hsp
    have hcl := cut_le false t.data.toList
    rw [← size_of] at hcl p1 p2
    have hlen : outs.length ≤ s.size + 1 := by have := congrArg List.length hsp; rw [List.length_append] at this; omega
    have hcut := cut_any t
    have htr := trim_any (t.extract 0 (cutL false t.data.toList))
    have hext : (t.extract 0 (cutL false t.data.toList)).data.toList = t.data.toList.take (cutL false t.data.toList) := by rw [extract_list, List.drop_zero]
    have hexs : (t.extract 0 (cutL false t.data.toList)).size ≤ 140737488355328 := by rw [size_of, hext, List.length_take, ← size_of]; omega
    rw [hext] at htr
    obtain ⟨n, hn⟩ : ∃ n, n = cutL false t.data.toList := ⟨_, rfl⟩
    rw [← hn] at hcl p1 p2 hcut htr hext hexs
    have hdr : (t.extract (n + 1) t.size).data.toList = t.data.toList.drop (n + 1) := by rw [extract_list, take_all t _ (Nat.le_refl _)]
    have hds : (t.extract (n + 1) t.size).size = t.size - (n + 1) := by rw [size_of, hdr, List.length_drop, ← size_of]
    rw [← hdr] at p1
    obtain ⟨tr, htrr⟩ : ∃ tr, tr = trimL (t.data.toList.take n) := ⟨_, rfl⟩
    have hpc : pieceL (t.data.toList.take n) = if tr = [] then [] else [tr] := by rw [pieceL, htrr]
    rw [← htrr] at htr
    rw [hpc] at p1 p2
    have P1 := hide p1
    have P2 := hide p2
    have HDS := hide hds
    have hbz := hb.size
    clear p1 p2 hsp hext hdr hds hpc htrr hn
    rcases htre : tr with _ | ⟨x, tr'⟩
    · subst htre
      have hem := isEmpty_mk ([] : List UInt8)
      by_cases hnt : n < t.size
      · have hne : ((n : Int) == (t.size : Int)) = false := by simp; omega
        have h1 : (n : Int) + 1 ≤ (t.size : Int) := by omega
        go_wp2_with (first | (go_at_call 154; refine (hcut _ (by omega)).mono ?_; rintro e w' ⟨rfl, rfl⟩) | (go_at_call 155; refine (htr _ hexs).mono ?_; rintro e w' ⟨rfl, hB⟩))
        go_roundw
        case rel => exact ⟨t.extract (n + 1) t.size, outs, rfl, by have := HDS.out; omega, by have := P1.out hnt; simpa using this, own_below ho hB, hb.trans (hB.mono hbz)⟩
        case measure => have := HDS.out; simp only [strLen]; omega
      · have hne : ((n : Int) == (t.size : Int)) = true := by simp; omega
        go_wp2_with (first | (go_at_call 154; refine (hcut _ (by omega)).mono ?_; rintro e w' ⟨rfl, rfl⟩) | (go_at_call 155; refine (htr _ hexs).mono ?_; rintro e w' ⟨rfl, hB⟩))
        go_ret
        have hfin : splitL s.data.toList = outs := by have := P2.out hnt; simpa using this
        rw [hfin]
        obtain ⟨A, c, rfl, hc, -⟩ := own_shape ho
        exact ⟨A, c, rfl, own_below ho hB, hc, hb.trans (hB.mono hbz)⟩
    · subst htre
      have hem := isEmpty_mk (x :: tr')
      by_cases hnt : n < t.size
      · have hne : ((n : Int) == (t.size : Int)) = false := by simp; omega
        have h1 : (n : Int) + 1 ≤ (t.size : Int) := by omega
        go_wp2_with (first | (go_at_call 154; refine (hcut _ (by omega)).mono ?_; rintro e w' ⟨rfl, rfl⟩) | (go_at_call 155; refine (htr _ hexs).mono ?_; rintro e w' ⟨rfl, hB⟩; have hoB := own_below ho hB; have hbB := hb.trans (hB.mono hbz); have hbBz := hbB.size) | (at_builtin; refine wpl_push rfl _ _ _ rfl w.heap.size i0 _ 1 16 Tryz.underlying40 hi0 hz0 hz1 hz2 rfl (by omega) _ _ _ rfl _ rfl hoB rfl (by simp [Value.oneCell']) (by simp [maxLen]; omega) (by omega) hbBz ?_; intro v1 w1 hown1 hbel1 _))
        go_roundw
        case rel => exact ⟨t.extract (n + 1) t.size, outs ++ [x :: tr'], rfl, by have := HDS.out; omega, by have := P1.out hnt; simpa using this, by rw [List.length_append]; exact own_snoc_str hown1 (by simp), hbB.trans hbel1⟩
        case measure => have := HDS.out; simp only [strLen]; omega
      · have hne : ((n : Int) == (t.size : Int)) = true := by simp; omega
        go_wp2_with (first | (go_at_call 154; refine (hcut _ (by omega)).mono ?_; rintro e w' ⟨rfl, rfl⟩) | (go_at_call 155; refine (htr _ hexs).mono ?_; rintro e w' ⟨rfl, hB⟩; have hoB := own_below ho hB; have hbB := hb.trans (hB.mono hbz); have hbBz := hbB.size) | (at_builtin; refine wpl_push rfl _ _ _ rfl w.heap.size i0 _ 1 16 Tryz.underlying40 hi0 hz0 hz1 hz2 rfl (by omega) _ _ _ rfl _ rfl hoB rfl (by simp [Value.oneCell']) (by simp [maxLen]; omega) (by omega) hbBz ?_; intro v1 w1 hown1 hbel1 _))
        go_ret
        have hfin : splitL s.data.toList = outs ++ [x :: tr'] := by have := P2.out hnt; simpa using this
        rw [hfin, List.length_append]
        have hown2 := own_snoc_str (b := x :: tr') hown1 (by simp)
        obtain ⟨A, c, rfl, hc, -⟩ := own_shape hown2
        exact ⟨A, c, rfl, hown2, hc, hbB.trans hbel1⟩
end Go.Proofs.YtbplnglmjcmfiaaGreatDoor

/- concertinalaw16.answers returns true. -/
namespace Go.Proofs.YtbplnglmjcmfiaaGreatDoor
open Go.RowKit
theorem split_ab : (splitL [97, 44, 32, 98]).length = 2 := by
  have h1 : cutL false [97, 44, 32, 98] = 1 := by decide
  have h2 : cutL false [32, 98] = 2 := by decide
  rw [splitL_step _ (by rw [h1]; decide), h1]
  simp only [List.take_succ_cons, List.take_zero, List.drop_succ_cons, List.drop_zero]
  rw [splitL_last [32, 98] (by rw [h2]; decide)]
  decide
theorem low_A : lowL [65] = [97] := by decide
theorem good_ab : goodNameL [97, 45, 98] = true := by decide
end Go.Proofs.YtbplnglmjcmfiaaGreatDoor

/- The reference's Split. -/
namespace Go.Proofs.YtbplnglmjcmfiaaGreatDoor
open Go.RowKit

theorem cut_at' {s : ByteArray} {k C : Nat} {q : Bool} {b : UInt8} (hk : k < s.size) (hb : s[k] = b) (h : C = k + cutL q (s.data.toList.drop k)) :
    (q = true ∧ b = 92 → (k + 1 = s.size → C = k + 1) ∧ (k + 2 ≤ s.size → C = (k + 2) + cutL q (s.data.toList.drop (k + 2)))) ∧
    (b = 34 → C = (k + 1) + cutL (!q) (s.data.toList.drop (k + 1))) ∧
    (q = false ∧ b = 44 → C = k) ∧
    (¬ (q = true ∧ b = 92) → b ≠ 34 → ¬ (q = false ∧ b = 44) → C = (k + 1) + cutL q (s.data.toList.drop (k + 1))) := by
  have hd := drop_cons s k hk
  rw [hb] at hd
  rw [hd] at h
  refine ⟨?_, ?_, ?_, ?_⟩
  · rintro ⟨rfl, rfl⟩
    rw [cutL_esc _ _ rfl] at h
    constructor
    · intro he
      rw [drop_all s (k + 1) (by omega)] at h
      simp at h; omega
    · intro he
      rw [drop_cons s (k + 1) (by omega)] at h
      simp only [show k + 1 + 1 = k + 2 from rfl] at h
      omega
  · intro he
    rw [cutL_quote q b _ he] at h; omega
  · rintro ⟨rfl, he⟩
    rw [cutL_comma b _ he] at h; omega
  · intro h1 h2 h3
    rw [cutL_other q b _ h1 h2 h3] at h; omega

/-- What holds at the head of a round. -/
def SpRel (s : ByteArray) (k f : Nat) (q : Bool) (outs : List (List UInt8)) : Prop :=
  (k ≤ s.size ∧ f ≤ k ∧ splitL s.data.toList = outs ++ splitL (s.data.toList.drop f) ∧ cutL false (s.data.toList.drop f) + f = k + cutL q (s.data.toList.drop k)) ∨ (k = s.size + 1 ∧ splitL s.data.toList = outs)
theorem SpRel.length {s : ByteArray} {k f : Nat} {q : Bool} {outs : List (List UInt8)} (h : SpRel s k f q outs) : outs.length ≤ s.size + 1 := by
  have := split_length s.data.toList
  rw [← size_of] at this
  rcases h with ⟨_, _, h, _⟩ | ⟨_, h⟩
  · rw [h, List.length_append] at this; omega
  · rw [h] at this; omega
/-- The end of a member. -/
theorem SpRel.piece {s : ByteArray} {k f : Nat} {q : Bool} {outs : List (List UInt8)} (hk : k ≤ s.size) (hf : f ≤ k) (h1 : splitL s.data.toList = outs ++ splitL (s.data.toList.drop f)) (h2 : cutL false (s.data.toList.drop f) + f = k) :
    SpRel s (k + 1) (k + 1) q (outs ++ pieceL ((s.data.toList.drop f).take (k - f))) ∨ (q = true ∧ k < s.size) := by
  have hc : cutL false (s.data.toList.drop f) = k - f := by omega
  have hl : (s.data.toList.drop f).length = s.size - f := by rw [List.length_drop, ← size_of]
  have hp := splitL_piece _ _ _ h1
  rw [hc, hl] at hp
  by_cases hlt : k < s.size
  · cases q
    · left
      have := hp.1 (by omega)
      refine .inl ⟨by omega, Nat.le_refl _, ?_, by omega⟩
      rw [this, List.drop_drop]
      congr 3; omega
    · exact .inr ⟨rfl, hlt⟩
  · left
    exact .inr ⟨by omega, hp.2 (by omega)⟩

end Go.Proofs.YtbplnglmjcmfiaaGreatDoor
