/- Bytes in memory, and the bytes of strings. -/
import Derived.Test.YtgdjlmpfjmakkaaDoorWords
namespace Go.Proofs.YtgdjlmpfjmakkaaDoor
open Go.RowKit

/-- The cells that hold bytes. -/
def bcells (l : List UInt8) : List Value := l.map fun b => .int .u8 b.toNat
theorem bcells_length (l : List UInt8) : (bcells l).length = l.length := by simp [bcells]
theorem bcells_take (l : List UInt8) (k : Nat) : (bcells l).take k = bcells (l.take k) := by simp [bcells, List.map_take]
theorem bcells_drop (l : List UInt8) (k : Nat) : (bcells l).drop k = bcells (l.drop k) := by simp [bcells, List.map_drop]
theorem bcells_append (l l' : List UInt8) : bcells l ++ bcells l' = bcells (l ++ l') := by simp [bcells]
theorem bcells_nil : bcells [] = [] := rfl
theorem bcells_one (l : List UInt8) : ∀ u ∈ bcells l, u.oneCell' = true := by
  intro u hu
  obtain ⟨b, _, rfl⟩ := List.mem_map.1 hu
  rfl
theorem bcells_get (l : List UInt8) (k : Nat) (h : k < l.length) : (bcells l)[k]? = some (.int .u8 l[k].toNat) := by simp [bcells, h]
theorem Rd.byte {w : World} {B n : Nat} {A : Option Addr} {l : List UInt8} (h : Rd w B 1 A n (bcells l)) {k : Nat} (hk : k < n) :
    ∃ a, A = some a ∧ a.block < B ∧ w.cell? (a.add k) = some (.int .u8 (l.getD k 0).toNat) := by
  obtain ⟨a, rfl, hb, hc⟩ := h.at_ hk
  have hl : l.length = n := by have := h.1; simpa [bcells] using this
  refine ⟨a, rfl, hb, hc k _ ?_⟩
  simp [bcells, show k < l.length by omega]
theorem byte_bne (a b : UInt8) : ((a.toNat : Int) != (b.toNat : Int)) = !(a == b) := by
  rw [Bool.eq_iff_iff]; simp [bne_iff_ne, ← UInt8.toNat_inj]; omega
theorem list_take_snoc {α : Type} (l : List α) (k : Nat) (h : k < l.length) : l.take (k + 1) = l.take k ++ [l[k]] := by
  rw [List.take_add_one, List.getElem?_eq_getElem h]; rfl
/-- Numbers that fit are bytes. -/
theorem bytes_of_ints (zs : List Int) (h : ∀ z ∈ zs, (Lit.int .u8 z).wf = true) : ∃ l : List UInt8, zs.map (Value.int .u8) = bcells l ∧ l.length = zs.length := by
  refine ⟨zs.map fun z => UInt8.ofNat z.toNat, ?_, by simp⟩
  simp only [bcells, List.map_map]
  refine List.map_congr_left fun z hz => ?_
  have := h z hz
  have hm : IntKind.u8.min = 0 := by decide
  have hM : IntKind.u8.max = 255 := by decide
  simp [Lit.wf, hm, hM] at this
  simp
  omega
end Go.Proofs.YtgdjlmpfjmakkaaDoor
