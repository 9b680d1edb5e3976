/- chunk.Chunk, chunk.Last; law 18's answers. -/
import Derived.Test.YtbgbggodjhbgbaaDoorHexd
import Derived.Test.YtbgbggodjhbgbaaDoorAppStr
import Derived.Lib.SlBytesConst
namespace Go.Proofs.YtbgbggodjhbgbaaDoor
open Go.RowKit

theorem infoU8c : (Tryd.prog.info? 5).map (fun i => (i.zero, i.size, i.bytes)) = some (some (.int .u8 0), 1, 1) := by kernel_rfl
def chunkL (b : List UInt8) : List UInt8 := if b = [] then [] else hexd b.length ++ [13, 10] ++ b ++ [13, 10]
theorem conv_ow (W : World) (s : ByteArray) (hs : s.size ≤ 1000000) :
    ∃ A c w', (convert 9 38 (.string s)).run Tryd.prog W = .ok (.slice A s.size c) w' ∧ Ow w' W.heap.size 1 (.slice A s.size c) s.size (bcells s.data.toList) ∧ Below W.heap.size W w' := by
  have hcv := run_bytes_of_string (P := Tryd.prog) W 9 38 5 s Tryd.underlying9 Tryd.underlying38 Tryd.underlying5
  obtain ⟨c, hc⟩ : ∃ c, c = grownCap W s.size 0 5 := ⟨_, rfl⟩
  have hc1 : s.size ≤ c := by rw [hc]; exact grownCap_ge _ _ _ _
  have hc2 : c ≤ maxLen := by rw [hc]; exact grownCap_le_maxLen _ _ _ _ (by simp [maxLen]; omega)
  rw [← hc] at hcv
  have ho := ow_of_string W 5 s c hc1 hc2
  exact ⟨_, _, _, hcv, ho, (Below.refl _ _).drew.alloc (Nat.le_refl _) _⟩
def abcL : List UInt8 := [51, 13, 10, 97, 98, 99, 13, 10]
theorem chunk_abc : chunkL [97, 98, 99] = abcL := by
  unfold chunkL
  rw [if_neg (by decide), show ([97, 98, 99] : List UInt8).length = 3 from rfl, hexd_low (by decide)]
  decide
end Go.Proofs.YtbgbggodjhbgbaaDoor
