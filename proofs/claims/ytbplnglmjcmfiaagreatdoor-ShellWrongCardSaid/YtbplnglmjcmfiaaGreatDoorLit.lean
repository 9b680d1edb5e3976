/- A slice that is read has an address that is written out. -/
import Derived.Test.YtbplnglmjcmfiaaGreatDoorOwn
namespace Go.Proofs.YtbplnglmjcmfiaaGreatDoor
open Go.RowKit

theorem Rd.lit {w : World} {B size n : Nat} {A : Option Addr} {xs : List Value} (h : Rd w B size A n xs) {k : Nat} (hk : k < n) (h0 : 0 < size) :
    ∃ b off, A = some ⟨b, off, none⟩ ∧ b < B ∧ ∀ j u, xs[j]? = some u → w.cell? ⟨b, off + j, none⟩ = some u := by
  obtain ⟨a, rfl, hb, hc⟩ := h.at_ hk
  obtain ⟨b, off, spot⟩ := a
  have hlen : 0 < xs.length := by rw [h.1]; exact Nat.mul_pos (by omega) h0
  have hs : spot = none := by
    have h00 := hc 0 _ (List.getElem?_eq_getElem hlen)
    simpa [Addr.add] using World.cell?_spot h00
  subst hs
  refine ⟨b, off, rfl, hb, fun j u hu => ?_⟩
  have := hc j u hu
  rwa [Addr.add_lit] at this
end Go.Proofs.YtbplnglmjcmfiaaGreatDoor
