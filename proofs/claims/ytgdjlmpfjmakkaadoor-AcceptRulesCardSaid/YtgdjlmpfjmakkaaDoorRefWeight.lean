/- The reference's Weight. -/
import Derived.Test.YtgdjlmpfjmakkaaDoorWeight
namespace Go.Proofs.YtgdjlmpfjmakkaaDoor
open Go.RowKit

theorem pad3_at (t : List UInt8) (k : Nat) (hk : k < 3) : (pad3 t)[k]? = some ((t[k]?).getD 48) := by
  unfold pad3
  rw [List.getElem?_take, if_pos hk, List.getElem?_append]
  split
  · rename_i h
    rw [List.getElem?_eq_getElem h]; rfl
  · rename_i h
    rw [List.getElem?_eq_none (l := t) (by omega)]
    have : ∀ j, j < 3 → ([48, 48, 48] : List UInt8)[j]? = some 48 := by decide
    rw [this _ (by omega)]; rfl
theorem decV_consk (c : UInt8) (l : List UInt8) : ∀ k, k ≤ l.length → decV (c :: l.take k) = (c.toNat - 48) * 10 ^ k + decV (l.take k)
  | 0, _ => by simp [decV]
  | k + 1, h => by
    have ih := decV_consk c l k (by omega)
    have e : c :: l.take (k + 1) = (c :: l.take k) ++ [l[k]] := by rw [list_take_snoc l k (by omega)]; rfl
    rw [e, decV_snoc, ih, decV_take l k (by omega), Nat.pow_succ, Nat.mul_add]
    rw [show 10 * ((c.toNat - 48) * 10 ^ k) = (c.toNat - 48) * (10 ^ k * 10) by rw [← Nat.mul_assoc, Nat.mul_comm 10, Nat.mul_assoc, Nat.mul_comm 10]]
    omega

end Go.Proofs.YtgdjlmpfjmakkaaDoor
