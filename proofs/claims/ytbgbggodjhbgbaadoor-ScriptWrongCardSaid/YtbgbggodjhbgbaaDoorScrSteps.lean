/- script.Print's steps: what each of the printer's calls leaves, beside a box of the call's own. -/
import Derived.Test.YtbgbggodjhbgbaaDoorScrNums
import Derived.Test.YtbgbggodjhbgbaaDoorChunk0
namespace Go.Proofs.YtbgbggodjhbgbaaDoor
open Go.RowKit
set_option linter.unusedVariables false
set_option linter.unusedSimpArgs false

/-- The printer at p, laid in the world w4, holds the text T. -/
def PrA (w4 W : World) (p : Nat) (T : List UInt8) : Prop := ∃ u row, IsPr W p u row T false ∧ PrStep w4 W p none row
/-- .. and a box beside it. -/
def PrB (w4 W : World) (p : Nat) (T : List UInt8) (g : Nat) (cs : List Value) : Prop := ∃ u row, IsPr W p u row T false ∧ PrStep w4 W p none row ∧ Box W g cs ∧ g ≠ p ∧ row ≠ some g
section
variable {w4 W W' : World} {p g : Nat} {T : List UInt8} {cs : List Value}
theorem PrB.a (h : PrB w4 W p T g cs) : PrA w4 W p T := by obtain ⟨u, row, h1, h2, -⟩ := h; exact ⟨u, row, h1, h2⟩
theorem PrB.box (h : PrB w4 W p T g cs) : Box W g cs := by obtain ⟨u, row, h1, h2, h3, -⟩ := h; exact h3
theorem PrA.below (h : PrA w4 W p T) (hp : p < w4.heap.size) : Below p w4 W := by obtain ⟨u, row, h1, h2⟩ := h; exact h2.below hp (by intro g e; cases e)
theorem PrB.below_ (h : PrB w4 W p T g cs) (hp : p < w4.heap.size) : Below p w4 W := h.a.below hp
theorem PrA.lt (h : PrA w4 W p T) : p < W.heap.size := by obtain ⟨u, row, h1, h2⟩ := h; exact h1.lt
theorem PrA.newbox (h : PrA w4 W p T) (cv : Array Value) (t : TypeId) : PrB w4 (W.alloc (.cells cv t)) p T W.heap.size cv.toList := by
  obtain ⟨u, row, h1, h2⟩ := h
  have hb : Below W.heap.size W (W.alloc (.cells cv t)) := (Below.refl _ _).alloc (Nat.le_refl _) _
  exact ⟨u, row, h1.below hb, h2.trans (PrStep.of_below hb), Box.new W cv t, Nat.ne_of_gt h1.lt, fun e => by have := h1.row_lt _ e; omega⟩
theorem PrB.keep (h : PrB w4 W p T g cs) (hb : Below W.heap.size W W') : PrB w4 W' p T g cs := by
  obtain ⟨u, row, h1, h2, h3, h4, h5⟩ := h
  exact ⟨u, row, h1.below hb, h2.trans (PrStep.of_below hb), h3.below hb, h4, h5⟩
theorem Box.prstep {a b : World} {r r' : Option Nat} (h : Box a g cs) (hs : PrStep a b p r r') (hg : g ≠ p) (hr : r ≠ some g) : Box b g cs := by
  have e : b.heap[g]? = a.heap[g]? := hs.block h.1 hg hr
  exact ⟨Nat.lt_of_lt_of_le h.1 hs.size, fun j u hu => ⟨(World.cell?_of_block (a := ⟨g, j, none⟩) e).trans (h.2 j u hu).1, (World.frozen?_of_block (a := ⟨g, j, none⟩) e).trans (h.2 j u hu).2⟩⟩
theorem step_str (b : ByteArray) (h : PrB w4 W p T g cs) (hl : T.length + b.size ≤ 50000000) :
    Calls Tryd.prog 15 #[.pointer (some ⟨p, 0, none⟩), .string b] W fun e w' => (∃ k, e = .returned (.tuple #[.int .i64 k, .nilIface])) ∧ PrB w4 w' p (T ++ b.data.toList) g cs := by
  obtain ⟨u, row, h1, h2, h3, h4, h5⟩ := h
  refine (pr_str p u row T false b W h1 (by omega)).mono ?_
  rintro e w' ⟨he, row', k1, k2⟩
  exact ⟨he, true, row', k1, h2.trans k2, h3.prstep k2 h4 h5, h4, k2.far h3.1 h5⟩
theorem step_byte (c : UInt8) (h : PrB w4 W p T g cs) (hl : T.length ≤ 50000000) :
    Calls Tryd.prog 17 #[.pointer (some ⟨p, 0, none⟩), .int .u8 (c.toNat : Int)] W fun e w' => e = .returned .nilIface ∧ PrB w4 w' p (T ++ [c]) g cs := by
  obtain ⟨u, row, h1, h2, h3, h4, h5⟩ := h
  refine (pr_byte p u row T false c W h1 (by omega)).mono ?_
  rintro e w' ⟨he, row', k1, k2⟩
  exact ⟨he, true, row', k1, h2.trans k2, h3.prstep k2 h4 h5, h4, k2.far h3.1 h5⟩
theorem PrB.post {row : Option Nat} {T' : List UInt8} (h2 : PrStep w4 W p none row) (h3 : Box W g cs) (h4 : g ≠ p) (h5 : row ≠ some g) (k : PrPost W p row T' W') : PrB w4 W' p T' g cs := by
  obtain ⟨u', row', k1, k2⟩ := k
  exact ⟨u', row', k1, h2.trans k2, h3.prstep k2 h4 h5, h4, k2.far h3.1 h5⟩
theorem step_nums (l : List Nat) (h : PrB w4 W p T g cs) (hp : p < w4.heap.size) (hl : T.length ≤ 50000000) (hm : ∀ k ∈ l, k ≤ Scr.maxI) (h5 : l.length ≤ 5) (hG : ∀ X, Below p w4 X → Glo X) :
    Calls Tryd.prog 16 #[.pointer (some ⟨p, 0, none⟩), .slice (some ⟨W.heap.size, 0, none⟩) l.length l.length] (W.alloc (.cells (icells l).toArray 3)) fun e w' => e = .returned (.tuple #[]) ∧ PrB w4 w' p (T ++ numsT l) g cs := by
  have hb : Below W.heap.size W (W.alloc (.cells (icells l).toArray 3)) := (Below.refl _ _).alloc (Nat.le_refl _) _
  have hbp := h.below_ hp
  have rn := rd_new W (icells l).toArray 3 1 l.length (by simp [icells])
  have hsz : (W.alloc (.cells (icells l).toArray 3)).heap.size = W.heap.size + 1 := Array.size_push _
  rw [← hsz] at rn
  obtain ⟨u, row, h1, h2, h3, h4, h6⟩ := h
  have hr := h1.row_lt
  have hpl := h1.lt
  refine (scrnums_any p u row T l (some ⟨W.heap.size, 0, none⟩) l.length l.length _ (h1.below hb) rn (fun a e => by cases e; exact ⟨by simp only; omega, fun e2 => by have := (hr _ e2).2; simp only at this; omega⟩) hm (fun X b => hG X (hbp.trans ((hb.mono (Nat.le_of_lt hpl)).trans b))) hl h5).mono ?_
  rintro e w' ⟨rfl, k⟩
  exact ⟨rfl, PrB.post (h2.trans (PrStep.of_below hb)) (h3.below hb) h4 h6 k⟩
theorem step_hex (l : List UInt8) (A : Option Addr) (n c : Nat) (h : PrB w4 W p T g cs) (hb : Below W.heap.size W W') (ho : Ow W' W.heap.size 1 (.slice A n c) n (bcells l)) (hl : T.length ≤ 50000000) (h5 : l.length ≤ 10000000) :
    Calls Tryd.prog 18 #[.pointer (some ⟨p, 0, none⟩), .slice A n c] W' fun e w' => e = .returned (.tuple #[]) ∧ PrB w4 w' p (T ++ 32 :: Scr.hexL l) g cs := by
  obtain ⟨u, row, h1, h2, h3, h4, h6⟩ := h
  have hr := h1.row_lt
  have hpl := h1.lt
  have hlo := ho.lt
  refine (scrhex_any p u row T l A n c _ (h1.below hb) ho.rd (fun _ a e => by
    subst e
    have h7 := hlo a.block rfl
    exact ⟨by omega, fun e2 => by have := (hr _ e2).2; omega⟩) hl h5).mono ?_
  rintro e w' ⟨rfl, k⟩
  exact ⟨rfl, PrB.post (h2.trans (PrStep.of_below hb)) (h3.below hb) h4 h6 k⟩
theorem step_hexold (l : List UInt8) (A : Option Addr) (n c B : Nat) (h : PrB w4 W p T g cs) (hr0 : Rd W B 1 A n (bcells l)) (hB : B ≤ p) (hl : T.length ≤ 50000000) (h5 : l.length ≤ 10000000) :
    Calls Tryd.prog 18 #[.pointer (some ⟨p, 0, none⟩), .slice A n c] W fun e w' => e = .returned (.tuple #[]) ∧ PrB w4 w' p (T ++ 32 :: Scr.hexL l) g cs := by
  obtain ⟨u, row, h1, h2, h3, h4, h6⟩ := h
  have hr := h1.row_lt
  have hpl := h1.lt
  have hup : Rd W W.heap.size 1 A n (bcells l) := ⟨hr0.1, hr0.2.imp id fun ⟨a, e, hb, hc⟩ => ⟨a, e, by omega, hc⟩⟩
  refine (scrhex_any p u row T l A n c _ h1 hup (fun h0 a e => by
    have h7 : a.block < B := by
      obtain ⟨a', e', hb', -⟩ := hr0.at_ (k := 0) h0
      rw [e] at e'; cases e'; exact hb'
    exact ⟨by omega, fun e2 => by have := (hr _ e2).1; omega⟩) hl h5).mono ?_
  rintro e w' ⟨rfl, k⟩
  exact ⟨rfl, PrB.post h2 h3 h4 h6 k⟩
end
end Go.Proofs.YtbgbggodjhbgbaaDoor
