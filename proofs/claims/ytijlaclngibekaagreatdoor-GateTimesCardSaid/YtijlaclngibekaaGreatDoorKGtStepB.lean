/- gate.Gate.step of an exchange that waits for its response. -/
import Derived.Test.YtijlaclngibekaaGreatDoorKGtStep
namespace Go.Proofs.YtijlaclngibekaaGreatDoor
open Go.RowKit
set_option linter.unusedVariables false
set_option linter.unusedSimpArgs false

theorem ConnB.stay3 {w w' : World} {p c s r1 r2 x s3 r3 r4 b Bf : Nat} {idle turn : Int} (h : ConnB w p c s r1 r2 x s3 r3 r4 b Bf true idle turn) (hs : Stay w w' [some r3]) (hn : ∃ d, IsSide w' s3 r3 Bf false d []) : ConnB w' p c s r1 r2 x s3 r3 r4 b Bf true idle turn := by
  obtain ⟨hx, hside, ⟨d2, hr2, hd2⟩, ⟨vf, vk, vl, v12, v13, hex⟩, -, ⟨n, d4, xs, hr, hnn, hd4⟩, ho, ho2⟩ := h
  obtain ⟨d1, hs1⟩ : ∃ d, IsSide w s r1 Bf false d [] := by simpa [SideS] using hside
  refine ⟨hx.stay hs (by simp; omega), ?_, ⟨d2, ring_stay hr2 hs (by simp; omega), hd2⟩, ⟨vf, vk, vl, v12, v13, hex.stay hs (by simp; omega)⟩, hn, ⟨n, d4, xs, ring_kept hr hs (by simp; omega) (fun g hg => by have := hd4 g hg; simp; omega), hnn, hd4⟩, ho, ho2⟩
  exact ⟨d1, side_stay hs1 hs (by simp; omega) (by simp; omega)⟩
set_option maxRecDepth 100000 in
set_option maxHeartbeats 1600000 in
theorem gtstep_rest (g0 p mb c s r1 r2 x s3 r3 r4 b Bf : Nat) (T idle turn mx : Int) (w : World) (hG : GateC w g0 p mb c Bf T) (h : ConnB w p c s r1 r2 x s3 r3 r4 b Bf true idle turn) (hm : ∀ W, Below (p + 1) w W → W.cell? ⟨1, 0, none⟩ = some (.int .i64 mx)) :
    Calls Tryz.prog 34 #[.pointer (some ⟨p, 0, none⟩), .pointer (some ⟨c, 0, none⟩)] w fun e w' => e = .returned (.bool false) ∧ ConnB w' p c s r1 r2 x s3 r3 r4 b Bf true idle turn ∧ Below (p + 1) w w' := by
  have hlt := hG.lt
  have ho := h.o
  have ho2 := h.o2
  have q1 := gtsend_done p c s r1 r2 x s3 r3 r4 b Bf (.pointer (some ⟨p, 0, none⟩)) idle turn w hG.o4 h
  have q2 : ∀ W, Stay w W [] → Calls Tryz.prog 56 #[.pointer (some ⟨p, 0, none⟩), .pointer (some ⟨c, 0, none⟩)] W fun e w' => e = .returned (.bool false) ∧ ConnB w' p c s r1 r2 x s3 r3 r4 b Bf true idle turn ∧ Below (p + 1) w w' := fun W st => by
    obtain ⟨hx, hside, ⟨d2, hr2, hd2⟩, ⟨vf, vk, vl, v12, v13, hex⟩, ⟨d3, hs3⟩, ⟨n, d4, xs, hr, hnn, hd4⟩, -, -⟩ := id h
    have hs0 := hside
    obtain ⟨d1, hs1⟩ : ∃ d, IsSide w s r1 Bf false d [] := by simpa [SideS] using hside
    have hW : ConnB W p c s r1 r2 x s3 r3 r4 b Bf true idle turn :=
      ⟨hx.stay st (by simp), ⟨d1, side_stay hs1 st (by simp) (by simp)⟩, ⟨d2, ring_stay hr2 st (by simp), hd2⟩, ⟨vf, vk, vl, v12, v13, hex.stay st (by simp)⟩, ⟨d3, side_stay hs3 st (by simp) (by simp)⟩, ⟨n, d4, xs, ring_kept hr st (by simp) (by simp), hnn, hd4⟩, ho, ho2⟩
    have bW : Below (p + 1) w W := st.below (by simp) hlt
    refine (gtanswer_no g0 p mb c s r1 r2 x s3 r3 r4 b Bf T idle turn mx true W (hG.below bW) hW (hm W bW)).mono ?_
    rintro e w' ⟨rfl, hn, hs⟩
    exact ⟨rfl, hW.stay3 hs hn, bW.trans (hs.below (by simp; omega) (Nat.le_trans hlt st.size))⟩
  have cB : ∀ W, ConnB W p c s r1 r2 x s3 r3 r4 b Bf true idle turn → W.cell? ⟨c, 2, none⟩ = some (.pointer (some ⟨x, 0, none⟩)) ∧ W.cell? ⟨x, 15, none⟩ = some (.bool false) := fun W hW => by
    obtain ⟨vf, vk, vl, v12, v13, hex⟩ := hW.ex
    exact ⟨(hW.box.2 2 _ rfl).1, (hex.2 15 _ rfl).1⟩
  obtain ⟨c2, -⟩ := cB w h
  clear h hG hm
  go_enter Tryz.func34, Tryz.ntmps34
  go_wp2_with fail
  refine q1.mono ?_
  rintro e w1 ⟨rfl, k, hk⟩
  have st1 : Stay w w1 [] := hk ▸ Stay.drewN k []
  have c2' : w1.cell? ⟨c, 2, none⟩ = some (.pointer (some ⟨x, 0, none⟩)) := by rw [hk]; exact c2
  have q3 := q2 w1 st1
  clear hk q2 q1 c2
  go_wp2_with fail
  refine q3.mono ?_
  rintro e w2 ⟨rfl, hB, b2⟩
  obtain ⟨d2, x15⟩ := cB w2 hB
  have q4 := gtfinish_no c x w2 d2 x15
  clear q3 c2' cB
  go_wp2_with fail
  refine q4.mono ?_
  rintro e w3 ⟨rfl, rfl⟩
  go_wp2_with fail
  go_ret
  exact ⟨rfl, hB, b2⟩
set_option maxRecDepth 100000 in
set_option maxHeartbeats 1600000 in
theorem gtstep_first (g0 p mb c s r1 r2 x s3 r3 r4 b Bf : Nat) (T idle turn mx : Int) (w : World) (hG : GateC w g0 p mb c Bf T) (h : ConnB w p c s r1 r2 x s3 r3 r4 b Bf false idle turn) (hm : ∀ W, Below (p + 1) w W → W.cell? ⟨1, 0, none⟩ = some (.int .i64 mx)) :
    Calls Tryz.prog 34 #[.pointer (some ⟨p, 0, none⟩), .pointer (some ⟨c, 0, none⟩)] w fun e w' => e = .returned (.bool true) ∧ ConnB w' p c s r1 r2 x s3 r3 r4 b Bf true idle turn ∧ Below (p + 1) w w' := by
  have hlt := hG.lt
  have ho := h.o
  have ho2 := h.o2
  have q1 := gtsend_first p c s r1 r2 x s3 r3 r4 b Bf (.pointer (some ⟨p, 0, none⟩)) idle turn w hG.o4 hlt h
  have q2 : ∀ W, ConnB W p c s r1 r2 x s3 r3 r4 b Bf true idle turn → Below (p + 1) w W → Calls Tryz.prog 56 #[.pointer (some ⟨p, 0, none⟩), .pointer (some ⟨c, 0, none⟩)] W fun e w' => e = .returned (.bool false) ∧ ConnB w' p c s r1 r2 x s3 r3 r4 b Bf true idle turn ∧ Below (p + 1) w w' := fun W hW bW => by
    refine (gtanswer_no g0 p mb c s r1 r2 x s3 r3 r4 b Bf T idle turn mx true W (hG.below bW) hW (hm W bW)).mono ?_
    rintro e w' ⟨rfl, hn, hs⟩
    exact ⟨rfl, hW.stay3 hs hn, bW.trans (hs.below (by simp; omega) (Nat.le_trans hlt bW.size))⟩
  have cB : ∀ W, ConnB W p c s r1 r2 x s3 r3 r4 b Bf true idle turn → W.cell? ⟨c, 2, none⟩ = some (.pointer (some ⟨x, 0, none⟩)) ∧ W.cell? ⟨x, 15, none⟩ = some (.bool false) := fun W hW => by
    obtain ⟨vf, vk, vl, v12, v13, hex⟩ := hW.ex
    exact ⟨(hW.box.2 2 _ rfl).1, (hex.2 15 _ rfl).1⟩
  obtain ⟨c2, -⟩ := h.box.2 2 _ rfl
  clear h hG hm
  go_enter Tryz.func34, Tryz.ntmps34
  go_wp2_with fail
  refine q1.mono ?_
  rintro e w1 ⟨rfl, hB1, b1⟩
  obtain ⟨c2', -⟩ := cB w1 hB1
  have q3 := q2 w1 hB1 b1
  clear q2 q1 c2
  go_wp2_with fail
  refine q3.mono ?_
  rintro e w2 ⟨rfl, hB, b2⟩
  obtain ⟨d2, x15⟩ := cB w2 hB
  have q4 := gtfinish_no c x w2 d2 x15
  clear q3 c2' cB
  go_wp2_with fail
  refine q4.mono ?_
  rintro e w3 ⟨rfl, rfl⟩
  go_wp2_with fail
  go_ret
  exact ⟨rfl, hB, b2⟩
end Go.Proofs.YtijlaclngibekaaGreatDoor
