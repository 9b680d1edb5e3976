/- A part of a printed head ends nowhere; what a side holds at a head's place. No program here. -/
import Derived.Test.YtfifoimnebbflaaGreatDoorPrintsReq
import Derived.Test.YtfifoimnebbflaaGreatDoorLinkE
import Derived.Test.YtfifoimnebbflaaGreatDoorRefReqG
namespace Go.Proofs.YtfifoimnebbflaaGreatDoor
open Go.RowKit

theorem endE_part {first : List UInt8} {fs : List (List UInt8 × List UInt8)} (hf : (13 : UInt8) ∉ first) (hall : fs.all fldOk = true) (hl : (headB first fs).length ≤ 16384) (q : Nat) (hq : q < (headB first fs).length) :
    endE ((headB first fs).take q) = 5 := by
  have hno := no_end_before (fs.map fldTx) first [] hf (fun x hx => by
    obtain ⟨f, hfm, rfl⟩ := List.mem_map.1 hx
    exact ⟨(tx_facts (List.all_eq_true.1 hall f hfm)).1, by simp [fldTx]⟩)
  have hE := headB_end first fs
  rw [List.append_nil, ← hE] at hno
  generalize (first ++ (fs.map fldTx).flatMap (fun x => crlfL ++ x)) = X at hno hE
  have hlen : (headB first fs).length = X.length + 4 := by rw [hE]; simp [endL]
  have hq' : ((headB first fs).take q).length = q := by rw [List.length_take]; omega
  have hi : endI ((headB first fs).take q) = -1 := by
    refine endI_miss (k := X.length) (Or.inl (by omega)) fun j hj => ?_
    rcases hb : Lib.occAt ((headB first fs).take q) endL j with _ | _
    · rfl
    · have := ((occ_take _ _ _ _).1 hb).1
      rw [hno j hj] at this; cases this
  rw [(end_miss hi).1, hq', if_neg (by omega)]
theorem req_part {m t : List UInt8} {minor : Int} {fs : List (List UInt8 × List UInt8)} (h : preqE m t minor fs = 0) (q : Nat) (hq : q < (preqB m t minor fs).length) :
    endE ((preqB m t minor fs).take q) = 5 := by
  unfold preqE at h
  unfold preqB at hq ⊢
  rcases hg : reqGood m t minor with _ | _
  · rw [hg] at h; simp at h
  · rw [hg, if_pos rfl] at h
    rw [hg, if_pos rfl] at hq
    rw [if_pos rfl]
    obtain ⟨h1, h2, h3, h4⟩ := print_zero h
    rw [h4] at hq ⊢
    unfold reqGood at hg
    simp only [Bool.and_eq_true, decide_eq_true_eq] at hg
    obtain ⟨g1, g2, g3, g4⟩ := hg
    obtain ⟨mi, rfl⟩ : ∃ k : Nat, minor = k := ⟨minor.toNat, by omega⟩
    have hmi : mi < 2 := by omega
    rw [Int.toNat_natCast] at h3 hq ⊢
    exact endE_part (reqFirst_no13 g1 g2 hmi) h2 (by omega) q hq
/-- What stands at 'pos' of the text, 'at' bytes of it fed. -/
def heldAt (all : List UInt8) (pos at_ : Nat) : List UInt8 := (all.take at_).drop pos
theorem heldAt_len {all : List UInt8} {pos at_ : Nat} (h : at_ ≤ all.length) : (heldAt all pos at_).length = at_ - pos := by
  unfold heldAt; rw [List.length_drop, List.length_take]; omega
theorem heldAt_feed {all : List UInt8} {pos at_ k : Nat} (h1 : pos ≤ at_) (h2 : at_ ≤ k) (_h3 : k ≤ all.length) : heldAt all pos at_ ++ (all.take k).drop at_ = heldAt all pos k := by
  unfold heldAt
  have e : all.take k = all.take at_ ++ (all.take k).drop at_ := by
    conv => lhs; rw [← List.take_append_drop at_ (all.take k)]
    rw [List.take_take, Nat.min_eq_left h2]
  conv => rhs; rw [e]
  rw [List.drop_append_of_le_length (by rw [List.length_take]; omega)]
theorem heldAt_drop {all : List UInt8} {pos at_ k : Nat} : (heldAt all pos at_).drop k = heldAt all (pos + k) at_ := by
  unfold heldAt; rw [List.drop_drop]
theorem held_head {P rest pre : List UInt8} {at_ : Nat} (h1 : pre.length ≤ at_) :
    heldAt (pre ++ (P ++ rest)) pre.length at_ = (P ++ rest).take (at_ - pre.length) := by
  unfold heldAt
  rw [List.take_append, List.take_of_length_le h1, List.drop_left]
theorem held_part {P rest pre : List UInt8} {at_ : Nat} (h1 : pre.length ≤ at_) (h2 : at_ < pre.length + P.length) :
    heldAt (pre ++ (P ++ rest)) pre.length at_ = P.take (at_ - pre.length) := by
  rw [held_head h1, List.take_append_of_le_length (by omega)]
theorem held_full {P rest pre : List UInt8} {at_ : Nat} (h2 : pre.length + P.length ≤ at_) :
    heldAt (pre ++ (P ++ rest)) pre.length at_ = P ++ rest.take (at_ - pre.length - P.length) := by
  rw [held_head (by omega), List.take_append, List.take_of_length_le (by omega)]
/-- The heads with their bodies, one behind the other. -/
def backL : List (List UInt8 × List UInt8) → List UInt8
  | [] => []
  | m :: ms => m.1 ++ (m.2 ++ backL ms)
theorem backL_app (a b : List (List UInt8 × List UInt8)) : backL (a ++ b) = backL a ++ backL b := by
  induction a with
  | nil => rfl
  | cons m a ih => simp [backL, ih]
theorem backL_snoc (a : List (List UInt8 × List UInt8)) (m : List UInt8 × List UInt8) : backL (a ++ [m]) = backL a ++ m.1 ++ m.2 := by
  rw [backL_app]; simp [backL]
theorem backL_len (a : List (List UInt8 × List UInt8)) (h : ∀ m ∈ a, m.1.length ≤ 2000 ∧ m.2.length ≤ 500) : (backL a).length ≤ 2500 * a.length := by
  induction a with
  | nil => simp [backL]
  | cons m a ih =>
    have := ih fun x hx => h x (by simp [hx])
    have := h m (by simp)
    simp only [backL, List.length_append, List.length_cons]; omega
theorem backL_at (a : List (List UInt8 × List UInt8)) (i : Nat) (hi : i < a.length) : backL a = backL (a.take i) ++ (a[i].1 ++ (a[i].2 ++ backL (a.drop (i + 1)))) := by
  conv => lhs; rw [← List.take_append_drop i a, backL_app, List.drop_eq_getElem_cons hi]
  rfl
end Go.Proofs.YtfifoimnebbflaaGreatDoor

/- What law LinkBack's calls answer: Head at a message's place, Feed of the next part. -/
namespace Go.Proofs.YtfifoimnebbflaaGreatDoor
open Go.RowKit
set_option linter.unusedVariables false
set_option linter.unusedSimpArgs false

structure Rq where
  m : ByteArray
  t : ByteArray
  mi : Int
  B : Option Addr
  nf : Nat
  cf : Nat
  fs : List (List UInt8 × List UInt8)
deriving Inhabited
def Rq.P (q : Rq) : List UInt8 := preqB q.m.data.toList q.t.data.toList q.mi q.fs
def Rq.E (q : Rq) : Nat := preqE q.m.data.toList q.t.data.toList q.mi q.fs
theorem back_head (q : Rq) (hE : q.E = 0) (pre rest : List UInt8) (s r mo at_ : Nat) (d : Option Nat) (mx : Int) (W : World) (h1 : pre.length ≤ at_)
    (h : IsSide W s r mo false d (heldAt (pre ++ (q.P ++ rest)) pre.length at_)) (hm : W.cell? ⟨0, 0, none⟩ = some (.int .i64 mx)) :
    Calls Tryz.prog 9 #[.pointer (some ⟨s, 0, none⟩)] W fun e w' => ∃ A c N E, e = .returned (.tuple #[.slice A N c, .int .i64 (E : Nat)]) ∧
      ((at_ < pre.length + q.P.length ∧ E = 5 ∧ N = 0 ∧ IsSide w' s r mo false d (heldAt (pre ++ (q.P ++ rest)) pre.length at_)) ∨
       (pre.length + q.P.length ≤ at_ ∧ E = 0 ∧ N = q.P.length ∧ Rd w' w'.heap.size 1 A N (bcells q.P) ∧ IsSide w' s r mo false d (heldAt (pre ++ (q.P ++ rest)) (pre.length + q.P.length) at_))) ∧ W.grownBy w' (some r) := by
  refine (linkhead_any s r mo false d _ mx W h hm).mono ?_
  rintro e w' ⟨A, c, rfl, rd, sd, g⟩
  by_cases hlt : at_ < pre.length + q.P.length
  · have e1 := held_part (P := q.P) (rest := rest) h1 hlt
    have e2 : endE (heldAt (pre ++ (q.P ++ rest)) pre.length at_) = 5 := by rw [e1]; exact req_part hE _ (by show _ < q.P.length; omega)
    have x1 : hdE (heldAt (pre ++ (q.P ++ rest)) pre.length at_) false = 5 := by unfold hdE; rw [e2]; rfl
    have x2 : hdO (heldAt (pre ++ (q.P ++ rest)) pre.length at_) = [] := by unfold hdO; rw [e2]; rfl
    rw [x2] at sd
    refine ⟨A, c, _, _, rfl, .inl ⟨hlt, x1, by rw [x2]; rfl, sd⟩, g⟩
  · have e1 := held_full (P := q.P) (rest := rest) (pre := pre) (at_ := at_) (by omega)
    have hh := (head_req hE).2.2.2.2.2.2 (rest.take (at_ - pre.length - q.P.length))
    have e2 : endE (heldAt (pre ++ (q.P ++ rest)) pre.length at_) = 0 := by rw [e1]; exact hh.1
    have e3 : endN (heldAt (pre ++ (q.P ++ rest)) pre.length at_) = q.P.length := by rw [e1]; exact hh.2
    have x1 : hdE (heldAt (pre ++ (q.P ++ rest)) pre.length at_) false = 0 := by unfold hdE; rw [e2]; rfl
    have x2 : hdO (heldAt (pre ++ (q.P ++ rest)) pre.length at_) = q.P := by
      unfold hdO; rw [e2, if_pos rfl, e3, e1, List.take_append_of_le_length (Nat.le_refl _), List.take_length]
    rw [x2] at sd rd
    rw [heldAt_drop] at sd
    exact ⟨A, c, _, _, rfl, .inr ⟨by omega, x1, by rw [x2], by rw [x2]; exact rd, sd⟩, g⟩
theorem back_feed (all : List UInt8) (s r mo pos at_ k : Nat) (d : Option Nat) (A : Option Addr) (n c B : Nat) (w : World) (h : IsSide w s r mo false d (heldAt all pos at_)) (h1 : pos ≤ at_) (h2 : at_ ≤ k) (h3 : k ≤ all.length) (hmo : all.length ≤ mo)
    (hn : n = k - at_) (hy : Rd w B 1 A n (bcells ((all.take k).drop at_))) (hB : B ≤ w.heap.size) (hnc : n ≤ c) :
    Calls Tryz.prog 10 #[.pointer (some ⟨s, 0, none⟩), .slice A n c] w fun e w' => e = .returned (.int .i64 (n : Nat)) ∧ ∃ d', IsSide w' s r mo false d' (heldAt all pos k) ∧ (d' = d ∨ ∀ g, d' = some g → w.heap.size ≤ g) ∧ w.grownBy w' (some r) := by
  have hmo2 := h.2.2.2.2
  have hl := heldAt_len (all := all) (pos := pos) (at_ := at_) (by omega)
  have e1 : min n (mo - (heldAt all pos at_).length) = n := by omega
  have e2 : ((all.take k).drop at_).take n = (all.take k).drop at_ := List.take_of_length_le (by rw [List.length_drop, List.length_take]; omega)
  have q := linkfeed_any s r mo d (heldAt all pos at_) A n c B ((all.take k).drop at_) w h hy hB (by omega) hnc
  rw [e1, e2, heldAt_feed h1 h2 h3] at q
  exact q
/-- The same with a body begun: its bytes lie in the body and in the ring. -/
theorem back_feedB (all rs bs : List UInt8) (s r mo pos at_ k b cb : Nat) (own : Option Nat) (left : Int) (d : Option Nat) (A : Option Addr) (n c B : Nat) (w : World) (h : IsSideB w s r mo d rs b own left cb bs) (hh : bs ++ rs = heldAt all pos at_) (h1 : pos ≤ at_) (h2 : at_ ≤ k) (h3 : k ≤ all.length) (hmo : all.length ≤ mo)
    (hn : n = k - at_) (hy : Rd w B 1 A n (bcells ((all.take k).drop at_))) (hB : B ≤ w.heap.size) (hnc : n ≤ c) :
    Calls Tryz.prog 10 #[.pointer (some ⟨s, 0, none⟩), .slice A n c] w fun e w' => e = .returned (.int .i64 (n : Nat)) ∧ ∃ d' rs', IsSideB w' s r mo d' rs' b own left cb bs ∧ bs ++ rs' = heldAt all pos k ∧ (d' = d ∨ ∀ g, d' = some g → w.heap.size ≤ g) ∧ w.grownBy w' (some r) := by
  have hmo2 := h.2.2.2.2.1
  have hl := heldAt_len (all := all) (pos := pos) (at_ := at_) (by omega)
  have hlen : rs.length + bs.length = at_ - pos := by rw [← hl, ← hh, List.length_append]; omega
  have e1 : min n (mo - (rs.length + bs.length)) = n := by omega
  have e2 : ((all.take k).drop at_).take n = (all.take k).drop at_ := List.take_of_length_le (by rw [List.length_drop, List.length_take]; omega)
  have q := linkfeedB_any s r mo d rs b own left cb bs A n c B ((all.take k).drop at_) w h hy hB (by omega) hnc (by omega)
  rw [e1, e2] at q
  refine q.mono ?_
  rintro e w' ⟨rfl, d', h4, h5, h6⟩
  exact ⟨rfl, d', _, h4, by rw [← List.append_assoc, hh, heldAt_feed h1 h2 h3], h5, h6⟩
end Go.Proofs.YtfifoimnebbflaaGreatDoor
