/- script.file: the state that lines are read into. -/
import Derived.Test.YtbplnglmjcmfiaaGreatDoorScrSplit
import Derived.Test.YtbplnglmjcmfiaaGreatDoorScrByt
namespace Go.Proofs.YtbplnglmjcmfiaaGreatDoor
open Go.RowKit
set_option linter.unusedVariables false
set_option linter.unusedSimpArgs false

def rcells (rs : List (List UInt8 × List UInt8 × Nat)) : List Value := rs.flatMap fun r => [.string ⟨r.1.toArray⟩, .string ⟨r.2.1.toArray⟩, .int .i64 (r.2.2 : Nat)]
/-- Where an act's data lie: address and capacity. -/
abbrev Pl := Option Addr × Nat
def acells : List (Nat × Nat × Nat × List UInt8) → List Pl → List Value
  | a :: al, p :: ps => .int .i64 (a.1 : Nat) :: .int .i64 (a.2.1 : Nat) :: .int .i64 (a.2.2.1 : Nat) :: .slice p.1 a.2.2.2.length p.2 :: acells al ps
  | _, _ => []
theorem acells_snoc : ∀ (al : List (Nat × Nat × Nat × List UInt8)) (ps : List Pl) (a : Nat × Nat × Nat × List UInt8) (p : Pl), al.length = ps.length → acells (al ++ [a]) (ps ++ [p]) = acells al ps ++ [.int .i64 (a.1 : Nat), .int .i64 (a.2.1 : Nat), .int .i64 (a.2.2.1 : Nat), .slice p.1 a.2.2.2.length p.2]
  | [], [], a, p, _ => rfl
  | [], _ :: _, a, p, h => by simp at h
  | _ :: _, [], a, p, h => by simp at h
  | x :: al, y :: ps, a, p, h => by
    simp only [List.cons_append, acells]
    rw [acells_snoc al ps a p (by simpa using h)]
/-- An act's data: read where they lie, apart from the blocks named. -/
def Dat (w : World) (f : Nat) (S : List (Option Nat)) (d : List UInt8) (p : Pl) : Prop := d.length ≤ p.2 ∧ p.2 ≤ maxLen ∧ Rd w w.heap.size 1 p.1 d.length (bcells d) ∧ ∀ a, p.1 = some a → f < a.block ∧ a.block < w.heap.size ∧ some a.block ∉ S
def Dats (w : World) (f : Nat) (S : List (Option Nat)) (al : List (Nat × Nat × Nat × List UInt8)) (ps : List Pl) : Prop := al.length = ps.length ∧ ∀ i (h : i < al.length) (h' : i < ps.length), Dat w f S al[i].2.2.2 ps[i]
/-- The rows of a file: owned, apart, and the acts' data. -/
def Rows (w : World) (f : Nat) (F : Scr.Fl) (vR vT vA : Value) (ps : List Pl) : Prop :=
  Ow w (f + 1) 3 vR F.rts.length (rcells F.rts) ∧ Ow w (f + 1) 1 vT F.tys.length (scells F.tys) ∧ Ow w (f + 1) 4 vA F.acs.length (acells F.acs ps) ∧
  (∀ x, vR.ownBlock = some x → vT.ownBlock ≠ some x ∧ vA.ownBlock ≠ some x) ∧ (∀ x, vT.ownBlock = some x → vA.ownBlock ≠ some x) ∧
  Dats w f [vR.ownBlock, vT.ownBlock, vA.ownBlock] F.acs ps
def FBox (w : World) (f : Nat) (F : Scr.Fl) (vR vT vA : Value) : Prop := Box w f [vR, vT, .int .i64 (F.a : Nat), .int .i64 (F.b : Nat), .int .i64 (F.c : Nat), .int .i64 (F.d : Nat), .int .i64 (F.e : Nat), vA]
/-- A file of the call's own at block f. -/
def IsFile (w : World) (f : Nat) (F : Scr.Fl) : Prop := ∃ (vR vT vA : Value) (ps : List Pl), FBox w f F vR vT vA ∧ Rows w f F vR vT vA ps
theorem Dats.keep {w w' : World} {f : Nat} {S : List (Option Nat)} {al : List (Nat × Nat × Nat × List UInt8)} {ps : List Pl} (h : Dats w f S al ps) {row : Option Nat} (hg : w.grownBy w' row) (hr : row ∈ S ∨ row = none ∨ row = some f) : Dats w' f S al ps := by
  refine ⟨h.1, fun i h1 h2 => ?_⟩
  obtain ⟨k1, k2, k3, k4⟩ := h.2 i h1 h2
  refine ⟨k1, k2, ⟨k3.1, k3.2.imp id ?_⟩, fun a ha => ⟨(k4 a ha).1, Nat.lt_of_lt_of_le (k4 a ha).2.1 hg.size, (k4 a ha).2.2⟩⟩
  rintro ⟨a, ha, hb, hc⟩
  obtain ⟨g1, -, g2⟩ := k4 a ha
  have hne : some a.block ≠ row := by
    rcases hr with hr | rfl | rfl
    · intro e; exact g2 (e ▸ hr)
    · simp
    · intro e; have := Option.some.inj e; omega
  refine ⟨a, ha, Nat.lt_of_lt_of_le hb hg.size, fun j u hu => ?_⟩
  have hbk : w'.heap[(a.add j).block]? = w.heap[(a.add j).block]? := by rw [addr_add_block]; exact hg.block _ hb hne
  rw [World.cell?_of_block hbk]
  exact hc j u hu
theorem Rows.keep {w w' : World} {f : Nat} {F : Scr.Fl} {vR vT vA : Value} {ps : List Pl} (h : Rows w f F vR vT vA ps) {row : Option Nat} (hg : w.grownBy w' row) (hr : row = none ∨ row = some f) : Rows w' f F vR vT vA ps := by
  obtain ⟨oR, oT, oA, d1, d2, ds⟩ := h
  have ap : ∀ {size n : Nat} {v : Value} {xs : List Value}, Ow w (f + 1) size v n xs → v.ownBlock = none ∨ v.ownBlock ≠ row := fun {size n v xs} o => by
    rcases hv : v.ownBlock with _ | x
    · exact .inl rfl
    · right
      rcases hr with rfl | rfl
      · simp
      · intro e
        have h1 := (o.lt x hv).1
        have h2 := Option.some.inj e
        omega
  exact ⟨oR.kept hg (ap oR), oT.kept hg (ap oT), oA.kept hg (ap oA), d1, d2, ds.keep hg (.inr hr)⟩
theorem Rows.below {w w' : World} {f : Nat} {F : Scr.Fl} {vR vT vA : Value} {ps : List Pl} (h : Rows w f F vR vT vA ps) (hb : Below w.heap.size w w') : Rows w' f F vR vT vA ps := h.keep (grown_of_below hb) (.inl rfl)
theorem IsFile.below {w w' : World} {f : Nat} {F : Scr.Fl} (h : IsFile w f F) (hb : Below w.heap.size w w') : IsFile w' f F := by
  obtain ⟨vR, vT, vA, ps, bx, rw⟩ := h
  exact ⟨vR, vT, vA, ps, bx.below hb, rw.below hb⟩
theorem IsFile.lt {w : World} {f : Nat} {F : Scr.Fl} (h : IsFile w f F) : f < w.heap.size := by obtain ⟨_, _, _, _, bx, _⟩ := h; exact bx.1
/-- A cell of the file is stored. -/
theorem grown_cell (w : World) (f k : Nat) (x : Value) : w.grownBy (w.setCell ⟨f, k, none⟩ x) (some f) := grown_set (World.grownBy.refl w (some f)) k x
end Go.Proofs.YtbplnglmjcmfiaaGreatDoor
