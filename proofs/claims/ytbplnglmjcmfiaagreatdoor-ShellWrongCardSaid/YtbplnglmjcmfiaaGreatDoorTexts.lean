/- concertinaref01.Texts: are two slices of texts the same? -/
import Derived.Test.YtbplnglmjcmfiaaGreatDoorProg
import Derived.Test.YtbplnglmjcmfiaaGreatDoorSplit
import Derived.Deep.QuietTactic
import Derived.BigQuiet
namespace Go.Proofs.YtbplnglmjcmfiaaGreatDoor
open Go.RowKit
theorem Rd.text {w : World} {B n : Nat} {A : Option Addr} {l : List (List UInt8)} (h : Rd w B 1 A n (scells l)) {k : Nat} (hk : k < n) (hl : k < l.length) :
    ∃ a, A = some a ∧ a.block < B ∧ w.cell? (a.add k) = some (.string ⟨l[k].toArray⟩) := by
  obtain ⟨a, rfl, hb, hc⟩ := h.at_ hk
  exact ⟨a, rfl, hb, hc k _ (scells_get l k hl)⟩
theorem mk_bne (a b : List UInt8) : ((⟨a.toArray⟩ : ByteArray).toList == (⟨b.toArray⟩ : ByteArray).toList) = (a == b) := by rw [ByteArray.toList_eq, ByteArray.toList_eq]
end Go.Proofs.YtbplnglmjcmfiaaGreatDoor
