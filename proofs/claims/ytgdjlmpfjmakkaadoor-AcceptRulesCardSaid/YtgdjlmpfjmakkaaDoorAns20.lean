/- concertinalaw20.answers returns true. -/
import Derived.Test.YtgdjlmpfjmakkaaDoorQ
import Derived.Test.YtgdjlmpfjmakkaaDoorAns19
namespace Go.Proofs.YtgdjlmpfjmakkaaDoor
open Go.RowKit

theorem w_half : weightL [48, 46, 53] = (500, true) := by decide
def ansV : List UInt8 := [103, 122, 105, 112, 59, 113, 61, 48, 46, 53, 44, 32, 42, 59, 113, 61, 48]
theorem ans_split : splitL ansV = [[103, 122, 105, 112, 59, 113, 61, 48, 46, 53], [42, 59, 113, 61, 48]] := by
  have h1 : cutL false ansV = 10 := by decide
  have h2 : cutL false [32, 42, 59, 113, 61, 48] = 6 := by decide
  rw [splitL_step _ (by rw [h1]; decide), h1]
  simp only [ansV, List.take_succ_cons, List.take_zero, List.drop_succ_cons, List.drop_zero]
  rw [splitL_last [32, 42, 59, 113, 61, 48] (by rw [h2]; decide)]
  decide
theorem ans_mem : membersL [ansV] = [([103, 122, 105, 112], 500), ([42], 0)] := by
  have e : membersL [ansV] = memL (splitL ansV) := by simp [membersL, allV]
  rw [e, ans_split]
  decide
theorem ans_q : qL [ansV] identL = 0 := by
  unfold qL
  rw [if_neg (by simp), ans_mem]
  decide
theorem rd_text (w : World) (s : ByteArray) : Rd (w.alloc (.cells #[.string s] 9)) (w.heap.size + 1) 1 (some ⟨w.heap.size, 0, none⟩) 1 (scells [s.data.toList]) := rd_new w #[.string s] 9 1 1 rfl

set_option maxRecDepth 100000 in
set_option maxHeartbeats 1600000 in
theorem ans20_any (w : World) : Calls Tryd.prog 30 #[] w fun e w' => e = .returned (.bool true) ∧ Below w.heap.size w w' := by
  have h1 := weight_any ⟨#[48, 46, 53]⟩ w (by decide)
  change Calls Tryd.prog 65 _ w (fun e w' => e = .returned (.tuple #[.int .i64 (weightL [48, 46, 53]).1, .bool (weightL [48, 46, 53]).2]) ∧ Below w.heap.size w w') at h1
  rw [w_half] at h1
  have h2 := fun (W : World) => q_any (some ⟨W.heap.size, 0, none⟩) 1 1 (W.heap.size + 1) [ansV] ⟨#[105, 100, 101, 110, 116, 105, 116, 121]⟩ _ (rd_text W ⟨#[103, 122, 105, 112, 59, 113, 61, 48, 46, 53, 44, 32, 42, 59, 113, 61, 48]⟩) (by simp) (by omega) (by intro v hv; rw [List.mem_singleton.1 hv]; decide)
  change ∀ W : World, Calls Tryd.prog 32 _ _ (fun e w' => e = .returned (.int .i64 (qL [ansV] identL)) ∧ _) at h2
  rw [ans_q] at h2
  go_enter Tryd.func30, Tryd.ntmps30
  go_wp2_with fail
  refine h1.mono ?_
  rintro e w1 ⟨rfl, b1⟩
  go_wp2_with fail
  refine (h2 w1).mono ?_
  rintro e w2 ⟨rfl, b2⟩
  go_wp2
  go_ret
  exact ⟨rfl, (b1.alloc b1.size _).trans (b2.mono (by have := b1.size; simp; omega))⟩
end Go.Proofs.YtgdjlmpfjmakkaaDoor
