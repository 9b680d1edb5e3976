/- EditTwice returns true, whatever its arguments. -/
import Derived.Test.YtgdjlmpfjmakkaaDoorEditResponses
import Derived.Test.YtgdjlmpfjmakkaaDoorEditReq
namespace Go.Proofs.YtgdjlmpfjmakkaaDoor.EditTwiceP
open Go.RowKit
open FrameLengthsP (step_ rd_put rd_two)
open FrameSmugglesP (allocs allocs_size allocs_below allocs_cell allocs_rd)
open FrameTellsP (of_drew cell_keep)
open EditResponsesP (light_small)

theorem resp_pass (fs : List (List UInt8 × List UInt8)) (kind : Int) : respF fs true 0 kind 1 true = withoutL fs ++ (if ¬ (kind = 0 ∨ kind = 1) then [chunkF] else []) := by
  have h3 : ¬ (respK true kind 1 = 3) := by
    unfold respK
    split
    · rename_i h
      rcases h with h | ⟨_, h⟩ <;> omega
    · simp
  unfold respF
  rw [if_pos rfl, if_neg (c := true = false ∨ respK true kind 1 = 3) (fun h => h.elim (by simp) h3), List.append_nil]
  simp
theorem resp_twice (fs : List (List UInt8 × List UInt8)) (kind len : Int) : respF (respF fs true 0 kind 1 true) true 0 (respK true kind 1) 1 true = respF fs true 0 kind 1 true ∧ respK true (respK true kind 1) 1 = respK true kind 1 ∧ respN true (respK true kind 1) (respN true kind len) = respN true kind len := by
  have hc := without_clean fs
  have h0 : withoutL (withoutL fs) = withoutL fs := by have := without_hops [] hc rfl rfl; simpa using this
  have h1 : withoutL (withoutL fs ++ [chunkF]) = withoutL fs := without_hops _ hc (by decide) (by decide)
  rw [resp_pass, resp_pass]
  by_cases hk : kind = 0 ∨ kind = 1
  · have e1 : respK true kind 1 = kind := by unfold respK; rw [if_pos (by simpa using hk)]
    have e2 : respN true kind len = len := by unfold respN; rw [if_pos (by simpa using hk)]
    rw [e1, e2, if_neg (fun h => h hk), List.append_nil, List.append_nil, h0]
    exact ⟨rfl, e1, e2⟩
  · have e1 : respK true kind 1 = 2 := by unfold respK; rw [if_neg (by simpa using hk), if_pos rfl]
    have e2 : respN true kind len = 0 := by unfold respN; rw [if_neg (by simpa using hk)]
    rw [e1, e2, if_pos hk, if_pos (by decide), h1]
    exact ⟨rfl, rfl, rfl⟩
theorem resp_small {fs : List (List UInt8 × List UInt8)} (h : ∀ f ∈ fs, f.1.length ≤ 500000 ∧ f.2.length ≤ 500000) (kind : Int) : ∀ f ∈ respF fs true 0 kind 1 true, f.1.length ≤ 500000 ∧ f.2.length ≤ 500000 := by
  rw [resp_pass]
  intro f hf
  rcases List.mem_append.1 hf with hf | hf
  · exact without_le h f hf
  · split at hf
    · rw [List.mem_singleton.1 hf]; decide
    · simp at hf
theorem resp_len (fs : List (List UInt8 × List UInt8)) (kind : Int) : (respF fs true 0 kind 1 true).length ≤ fs.length + 1 := by
  rw [resp_pass, List.length_append]
  have : (withoutL fs).length ≤ fs.length := dropsL_len _ _
  split <;> simp <;> omega

set_option maxRecDepth 100000 in
set_option maxHeartbeats 6400000 in
theorem walk (m t : ByteArray) (minor : Int) (A : Option Addr) (n c : Nat) (fs : List (List UInt8 × List UInt8)) (rminor status : Int) (rs : ByteArray) (A' : Option Addr) (n' c' : Nat) (fs' : List (List UInt8 × List UInt8)) (kind len : Int) (w : World)
    (h : Rd w w.heap.size 2 A n (fcells fs)) (hn : n ≤ 9223372036854775807) (hz : ∀ f ∈ fs, f.1.length ≤ reachBytes ∧ f.2.length ≤ reachBytes) (h' : Rd w w.heap.size 2 A' n' (fcells fs')) (hn' : n' ≤ 9223372036854775807) (hz' : ∀ f ∈ fs', f.1.length ≤ reachBytes ∧ f.2.length ≤ reachBytes) (_hk : (Lit.int .i64 kind).wf = true) (_hl : (Lit.int .i64 len).wf = true) :
    Calls Tryd.prog 9 #[.agg #[.string m, .string t, .int .i64 minor, .slice A n c], .agg #[.int .i64 rminor, .int .i64 status, .string rs, .slice A' n' c'], .agg #[.int .i64 kind, .int .i64 len]] w fun e w' => e = .returned (.bool true) ∧ Below w.heap.size w w' := by
  have hl := fun (W : World) (r : Rd W W.heap.size 2 A n (fcells fs)) => of_drew (light23_any A n c _ fs W r hn hz)
  have hl' := fun (W : World) (r : Rd W W.heap.size 2 A' n' (fcells fs')) => of_drew (light23_any A' n' c' _ fs' W r hn' hz')
  have hfl := h.flen
  have hfl' := h'.flen
  obtain ⟨objs, hobjs⟩ : ∃ l : List Obj, l = [.cells #[.string m, .string t, .int .i64 minor, .slice A n c] 24, .cells #[.int .i64 rminor, .int .i64 status, .string rs, .slice A' n' c'] 41, .cells #[.int .i64 kind, .int .i64 len] 26] := ⟨_, rfl⟩
  have hW : ((w.alloc (.cells #[.string m, .string t, .int .i64 minor, .slice A n c] 24)).alloc (.cells #[.int .i64 rminor, .int .i64 status, .string rs, .slice A' n' c'] 41)).alloc (.cells #[.int .i64 kind, .int .i64 len] 26) = allocs w objs := by rw [hobjs]; rfl
  have tW := allocs_below objs w
  have b1 : Box (allocs w objs) w.heap.size [.string m, .string t, .int .i64 minor, .slice A n c] := box_allocs objs w 0 _ _ (by rw [hobjs]; rfl)
  have b2 : Box (allocs w objs) (w.heap.size + 1) [.int .i64 rminor, .int .i64 status, .string rs, .slice A' n' c'] := box_allocs objs w 1 _ _ (by rw [hobjs]; rfl)
  have b3 : Box (allocs w objs) (w.heap.size + 1 + 1) [.int .i64 kind, .int .i64 len] := box_allocs objs w 2 _ _ (by rw [hobjs]; rfl)
  clear hobjs
  have r1 := step_ h tW
  have r2 := step_ h' tW
  clear h h'
  rcases hL : lightS 70 5000 fs with _ | _
  · rw [hL] at hl
    go_enter Tryd.func9, Tryd.ntmps9
    go_upto_region 1 with (fail)
    generalize allocs w objs = w1 at b1 b2 b3 r1 r2 tW ⊢
    obtain ⟨x0, x1, x2, x3⟩ := b1.four
    go_wp2_with fail
    refine (hl _ r1).mono ?_
    rintro e w2 ⟨rfl, k2⟩
    have t2 := tW.trans (k2.mono tW.size)
    go_upto_region 2 with (fail)
    go_wp2_with fail
    refine (ans23_any w2).mono ?_
    rintro e w' ⟨rfl, hB⟩
    go_wp2
    go_ret
    exact ⟨rfl, t2.trans (hB.mono t2.size)⟩
  rcases hL' : lightS 70 5000 fs' with _ | _
  · rw [hL] at hl
    rw [hL'] at hl'
    go_enter Tryd.func9, Tryd.ntmps9
    go_upto_region 1 with (fail)
    generalize allocs w objs = w1 at b1 b2 b3 r1 r2 tW ⊢
    obtain ⟨x0, x1, x2, x3⟩ := b1.four
    go_wp2_with fail
    refine (hl _ r1).mono ?_
    rintro e w2 ⟨rfl, k2⟩
    have t2 := tW.trans (k2.mono tW.size)
    replace r2 := step_ r2 k2
    obtain ⟨y0, y1, y2, y3⟩ := (b2.below k2).four
    go_wp2_with fail
    refine (hl' _ r2).mono ?_
    rintro e w3 ⟨rfl, k3⟩
    have t3 := t2.trans (k3.mono t2.size)
    go_upto_region 2 with (fail)
    go_wp2_with fail
    refine (ans23_any w3).mono ?_
    rintro e w' ⟨rfl, hB⟩
    go_wp2
    go_ret
    exact ⟨rfl, t3.trans (hB.mono t3.size)⟩
  rw [hL] at hl
  rw [hL'] at hl'
  obtain ⟨hok, h70, -⟩ := lightS_ok hL (by omega)
  obtain ⟨-, h70', hsum'⟩ := lightS_ok hL' (by omega)
  have hok5 := light_small hsum'
  have hok6 := resp_small hok5 kind
  have hqok := requestF_ok hok kind
  have hql := requestF_len fs kind
  have hpl := resp_len fs' kind
  have htw := request_twice fs kind
  obtain ⟨e1, e2, e3⟩ := resp_twice fs' kind len
  rw [hfl] at h70 hql
  rw [hfl'] at h70' hpl
  have g1 := fun (W : World) (r : Rd W W.heap.size 2 A n (fcells fs)) => editreq_any m t minor A n c _ fs kind len W r (Nat.le_refl _) (by omega) hok
  have g2 := fun (W : World) (r : Rd W W.heap.size 2 A' n' (fcells fs')) => editresp_any rminor status rs A' n' c' _ fs' true 0 0 kind len 1 true W r (Nat.le_refl _) (by omega) hok5 (.inl rfl)
  have hz0 : (0 : Int).toNat = 0 := rfl
  simp only [hz0] at g2
  obtain ⟨qs, hqs⟩ : ∃ l, l = requestF fs kind := ⟨_, rfl⟩
  obtain ⟨ps, hps⟩ : ∃ l, l = respF fs' true 0 kind 1 true := ⟨_, rfl⟩
  obtain ⟨K', hK⟩ : ∃ l, l = respK true kind 1 := ⟨_, rfl⟩
  obtain ⟨N', hN⟩ : ∃ l, l = respN true kind len := ⟨_, rfl⟩
  rw [← hqs] at htw hqok hql
  rw [← hps, ← hK] at e1
  rw [← hK] at e2
  rw [← hK, ← hN] at e3
  rw [← hps] at hok6 hpl
  simp only [← hqs] at g1
  simp only [← hps, ← hK, ← hN] at g2
  have g3 := fun (A : Option Addr) (L c : Nat) (hL : L ≤ 100) (W : World) (r : Rd W W.heap.size 2 A L (fcells qs)) => editreq_any m t 1 A L c _ qs kind len W r (Nat.le_refl _) (by omega) hqok
  have g4 := fun (A : Option Addr) (L c : Nat) (hL : L ≤ 100) (W : World) (r : Rd W W.heap.size 2 A L (fcells ps)) => editresp_any 1 status rs A L c _ ps true 0 0 K' N' 1 true W r (Nat.le_refl _) (by omega) hok6 (.inl rfl)
  simp only [hz0] at g4
  simp only [htw] at g3
  simp only [e1, e2, e3] at g4
  obtain ⟨L, hLL⟩ : ∃ L, qs.length = L := ⟨_, rfl⟩
  simp only [hLL] at g1 g3
  rw [hLL] at hql
  clear hqs hps hK hN e1 e2 e3 htw hqok hok5 hok6 hok hsum' hL hL' hz hz' hfl hfl' hz0 hLL
  have HPL := hide hpl
  clear hpl
  go_enter Tryd.func9, Tryd.ntmps9
  go_upto_region 1 with (fail)
  generalize allocs w objs = w1 at b1 b2 b3 r1 r2 tW ⊢
  clear hW
  obtain ⟨x0, x1, x2, x3⟩ := b1.four
  go_wp2_with fail
  refine (hl _ r1).mono ?_
  rintro e w2 ⟨rfl, k⟩
  replace b1 := b1.below k
  replace b2 := b2.below k
  replace b3 := b3.below k
  replace r1 := step_ r1 k
  replace r2 := step_ r2 k
  have t2 := tW.trans (k.mono tW.size)
  clear x0 x1 x2 x3 k tW hl
  obtain ⟨y0, y1, y2, y3⟩ := b2.four
  go_wp2_with fail
  refine (hl' _ r2).mono ?_
  rintro e w3 ⟨rfl, k⟩
  replace b1 := b1.below k
  replace b2 := b2.below k
  replace b3 := b3.below k
  replace r1 := step_ r1 k
  replace r2 := step_ r2 k
  have t3 := t2.trans (k.mono t2.size)
  clear y0 y1 y2 y3 k t2 hl'
  go_upto_region 3 with (fail)
  obtain ⟨x0, x1, x2, x3⟩ := b1.four
  obtain ⟨z0, z1⟩ := b3.two
  go_wp2_with fail
  refine (g1 w3 r1).mono ?_
  rintro e w4 ⟨Ax, cx, rfl, ox, hcx, k4⟩
  go_upto_region 4 with (fail)
  have k := k4.alloc k4.size (.cells #[.string m, .string t, .int .i64 1, .slice Ax L cx] 24)
  have bx := Box.new w4 #[.string m, .string t, .int .i64 1, .slice Ax L cx] 24
  have rx := (ox.alloc (.cells #[.string m, .string t, .int .i64 1, .slice Ax L cx] 24)).rd
  replace b2 := b2.below k
  replace b3 := b3.below k
  replace r2 := step_ r2 k
  have t4 := t3.trans (k.mono t3.size)
  obtain ⟨gx, hgx⟩ : ∃ g, g = w4.heap.size := ⟨_, rfl⟩
  rw [← hgx] at bx
  rw [← hgx]
  generalize w4.alloc _ = w5 at bx rx b2 b3 r2 t4 ⊢
  clear hgx k k4 ox g1 t3 x0 x1 x2 x3 z0 z1 b1 r1
  obtain ⟨x0, x1, x2, x3⟩ := bx.four
  obtain ⟨z0, z1⟩ := b3.two
  go_wp2_with fail
  refine (g3 Ax L cx (by omega) w5 rx).mono ?_
  rintro e w6 ⟨Ay, cy, rfl, oy, hcy, k6⟩
  go_upto_region 6 with (fail)
  obtain ⟨objs2, ho2⟩ : ∃ l : List Obj, l = [.cells #[.string m, .string t, .int .i64 1, .slice Ay L cy] 24, .cells #[.bool true, .int .i64 0, .int .i64 0] 43] := ⟨_, rfl⟩
  have hW2 : (w6.alloc (.cells #[.string m, .string t, .int .i64 1, .slice Ay L cy] 24)).alloc (.cells #[.bool true, .int .i64 0, .int .i64 0] 43) = allocs w6 objs2 := by rw [ho2]; rfl
  have by_ : Box (allocs w6 objs2) w6.heap.size [.string m, .string t, .int .i64 1, .slice Ay L cy] := box_allocs objs2 w6 0 _ _ (by rw [ho2]; rfl)
  have bp : Box (allocs w6 objs2) (w6.heap.size + 1) [.bool true, .int .i64 0, .int .i64 0] := box_allocs objs2 w6 1 _ _ (by rw [ho2]; rfl)
  have ka := allocs_below objs2 w6
  have k := k6.trans (ka.mono k6.size)
  have ry := step_ oy.rd ka
  replace b2 := b2.below k
  replace b3 := b3.below k
  replace bx := bx.below k
  replace r2 := step_ r2 k
  replace rx := step_ rx k
  have t5 := t4.trans (k.mono t4.size)
  obtain ⟨gy, hgy⟩ : ∃ g, g = w6.heap.size := ⟨_, rfl⟩
  rw [← hgy] at by_ bp
  rw [← hgy, hW2]
  generalize allocs w6 objs2 = w7 at bx rx by_ bp ry b2 b3 r2 t5 ⊢
  clear hgy k k6 ka oy g3 t4 x0 x1 x2 x3 z0 z1 ho2 hW2 objs2
  obtain ⟨x0, x1, x2, x3⟩ := b2.four
  obtain ⟨y0, y1, y2⟩ := bp.three
  obtain ⟨z0, z1⟩ := b3.two
  go_wp2_with fail
  refine (g2 w7 r2).mono ?_
  rintro e w8 ⟨Aa, na, ca, rfl, oa, hca, k8⟩
  have hna := ow_flen oa
  go_upto_region 7 with (fail)
  obtain ⟨objs2, ho2⟩ : ∃ l : List Obj, l = [.cells #[.int .i64 1, .int .i64 status, .string rs, .slice Aa na ca] 41, .cells #[.int .i64 K', .int .i64 N'] 26] := ⟨_, rfl⟩
  have hW2 : (w8.alloc (.cells #[.int .i64 1, .int .i64 status, .string rs, .slice Aa na ca] 41)).alloc (.cells #[.int .i64 K', .int .i64 N'] 26) = allocs w8 objs2 := by rw [ho2]; rfl
  have ba : Box (allocs w8 objs2) w8.heap.size [.int .i64 1, .int .i64 status, .string rs, .slice Aa na ca] := box_allocs objs2 w8 0 _ _ (by rw [ho2]; rfl)
  have bf : Box (allocs w8 objs2) (w8.heap.size + 1) [.int .i64 K', .int .i64 N'] := box_allocs objs2 w8 1 _ _ (by rw [ho2]; rfl)
  have ka := allocs_below objs2 w8
  have k := k8.trans (ka.mono k8.size)
  have ra := step_ oa.rd ka
  replace bx := bx.below k
  replace by_ := by_.below k
  replace bp := bp.below k
  replace rx := step_ rx k
  replace ry := step_ ry k
  have t6 := t5.trans (k.mono t5.size)
  obtain ⟨ga, hga⟩ : ∃ g, g = w8.heap.size := ⟨_, rfl⟩
  rw [← hga] at ba bf
  rw [← hga, hW2]
  generalize allocs w8 objs2 = w9 at bx rx by_ bp ry ba bf ra t6 ⊢
  clear hga k k8 ka oa g2 t5 x0 x1 x2 x3 y0 y1 y2 z0 z1 ho2 hW2 objs2 b2 b3 r2
  obtain ⟨x0, x1, x2, x3⟩ := ba.four
  obtain ⟨y0, y1, y2⟩ := bp.three
  obtain ⟨z0, z1⟩ := bf.two
  have hna2 : na ≤ 100 := by have := HPL.out; omega
  go_wp2_with fail
  refine (g4 Aa na ca hna2 w9 ra).mono ?_
  rintro e w10 ⟨Ab, nb, cb, rfl, ob, hcb, k10⟩
  have hnb : nb = na := (ow_flen ob).symm.trans hna
  subst hnb
  go_upto_region 8 with (fail)
  obtain ⟨objs2, ho2⟩ : ∃ l : List Obj, l = [.cells #[.int .i64 1, .int .i64 status, .string rs, .slice Ab nb cb] 41, .cells #[.int .i64 K', .int .i64 N'] 26] := ⟨_, rfl⟩
  have hW2 : (w10.alloc (.cells #[.int .i64 1, .int .i64 status, .string rs, .slice Ab nb cb] 41)).alloc (.cells #[.int .i64 K', .int .i64 N'] 26) = allocs w10 objs2 := by rw [ho2]; rfl
  have bb : Box (allocs w10 objs2) w10.heap.size [.int .i64 1, .int .i64 status, .string rs, .slice Ab nb cb] := box_allocs objs2 w10 0 _ _ (by rw [ho2]; rfl)
  have bg : Box (allocs w10 objs2) (w10.heap.size + 1) [.int .i64 K', .int .i64 N'] := box_allocs objs2 w10 1 _ _ (by rw [ho2]; rfl)
  have ka := allocs_below objs2 w10
  have k := k10.trans (ka.mono k10.size)
  have rb := step_ ob.rd ka
  replace bx := bx.below k
  replace by_ := by_.below k
  replace ba := ba.below k
  replace bf := bf.below k
  replace rx := step_ rx k
  replace ry := step_ ry k
  replace ra := step_ ra k
  have t7 := t6.trans (k.mono t6.size)
  obtain ⟨gb, hgb⟩ : ∃ g, g = w10.heap.size := ⟨_, rfl⟩
  rw [← hgb] at bb bg
  rw [← hgb, hW2]
  generalize allocs w10 objs2 = w11 at bx rx by_ ry ba bf ra bb bg rb t7 ⊢
  clear hgb k k10 ka ob g4 t6 x0 x1 x2 x3 y0 y1 y2 z0 z1 ho2 hW2 objs2 bp hna HPL
  go_wp2_with fail
  refine (ans23_any w11).mono ?_
  rintro e w12 ⟨rfl, k⟩
  replace bx := bx.below k
  replace by_ := by_.below k
  replace ba := ba.below k
  replace bf := bf.below k
  replace bb := bb.below k
  replace bg := bg.below k
  replace rx := step_ rx k
  replace ry := step_ ry k
  replace ra := step_ ra k
  replace rb := step_ rb k
  have t8 := t7.trans (k.mono t7.size)
  clear k t7
  obtain ⟨x0, x1, x2, x3⟩ := bx.four
  obtain ⟨y0, y1, y2, y3⟩ := by_.four
  have q := samereq_any m t 1 Ax Ay L cx L cy _ _ qs w12 rx ry (Nat.le_refl _) (Nat.le_refl _) (by omega) (by omega)
  go_wp2_with fail
  refine q.mono ?_
  rintro e w13 ⟨rfl, k⟩
  replace ba := ba.below k
  replace bf := bf.below k
  replace bb := bb.below k
  replace bg := bg.below k
  replace ra := step_ ra k
  replace rb := step_ rb k
  have t9 := t8.trans (k.mono t8.size)
  clear k t8 x0 x1 x2 x3 y0 y1 y2 y3 q rx ry bx by_
  obtain ⟨x0, x1, x2, x3⟩ := ba.four
  obtain ⟨y0, y1, y2, y3⟩ := bb.four
  have q := sameresp_any 1 status rs Aa Ab nb ca nb cb _ _ ps w13 ra rb (Nat.le_refl _) (Nat.le_refl _) (by omega) (by omega)
  go_wp2_with fail
  refine q.mono ?_
  rintro e w14 ⟨rfl, k⟩
  replace bf := bf.below k
  replace bg := bg.below k
  have t10 := t9.trans (k.mono t9.size)
  clear k t9 x0 x1 x2 x3 y0 y1 y2 y3 q ra rb ba bb
  obtain ⟨y0, y1⟩ := bf.two
  obtain ⟨z0, z1⟩ := bg.two
  go_wp2
  go_ret
  exact ⟨rfl, t10⟩
end Go.Proofs.YtgdjlmpfjmakkaaDoor.EditTwiceP
