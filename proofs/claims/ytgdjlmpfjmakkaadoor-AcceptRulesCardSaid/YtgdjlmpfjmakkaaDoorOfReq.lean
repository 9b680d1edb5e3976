/- frame.OfRequest, OfResponse, Empty and the reference's; concertinalaw19.answers. -/
import Derived.Test.YtgdjlmpfjmakkaaDoorTold
namespace Go.Proofs.YtgdjlmpfjmakkaaDoor
open Go.RowKit

def frOf (fs : List (List UInt8 × List UInt8)) (minor : Int) (o : Nat) : Nat × Nat × Nat := toldL (getL fs nameTE) (getL fs nameCL) minor o
theorem World.free_below {B : Nat} {w w' : World} (b : Below B w w') {a : Addr} (ha : a.block < B) : w'.frozen? a = w.frozen? a := World.frozen?_of_block (b.block a.block ha)

theorem new2_kept {w w2 : World} {o1 : Obj} {cs : Array Value} {t : TypeId} {n i : Nat} {v : Value} (h : Below n ((w.alloc o1).alloc (.cells cs t)) w2) (hn : n = w.heap.size + 2) (hi : cs[i]? = some v) : w2.cell? ⟨w.heap.size + 1, i, none⟩ = some v := by
  have hs : (w.alloc o1).heap.size = w.heap.size + 1 := by simp
  have := new_kept (w := w.alloc o1) h (by rw [hs]; exact hn) hi
  rwa [hs] at this
theorem new2_free {w w2 : World} {o1 : Obj} {cs : Array Value} {t : TypeId} {n i : Nat} (h : Below n ((w.alloc o1).alloc (.cells cs t)) w2) (hn : n = w.heap.size + 2) : w2.frozen? ⟨w.heap.size + 1, i, none⟩ = false := by
  have hs : (w.alloc o1).heap.size = w.heap.size + 1 := by simp
  have := new_free (w := w.alloc o1) (i := i) h (by rw [hs]; exact hn)
  rwa [hs] at this
theorem below_alloc2 (w : World) (o1 o2 : Obj) : Below w.heap.size w ((w.alloc o1).alloc o2) := ((Below.refl _ w).alloc (Nat.le_refl _) o1).alloc (by simp) o2
theorem old2 {w w2 : World} {o1 o2 : Obj} {n : Nat} {a : Addr} {v : Value} (h : Below n ((w.alloc o1).alloc o2) w2) (hn : n = w.heap.size + 2) (ha : a.block < w.heap.size) (hc : w.cell? a = some v) : w2.cell? a = some v := by
  rw [h.cell (p := a) (by omega), (below_alloc2 w o1 o2).cell ha]; exact hc

/-- Has a response to a method never a body? -/
def emptyB (m : ByteArray) (status : Int) : Bool := (m.toList == [72, 69, 65, 68]) || decide (status < 200) || status == 204 || status == 304
set_option maxRecDepth 100000 in
theorem refempty_any (m : ByteArray) (status : Int) (w : World) : Calls Tryd.prog 62 #[.string m, .int .i64 status] w fun e w' => e = .returned (.bool (emptyB m status)) ∧ w = w' := by
  obtain ⟨r, hr⟩ : ∃ r, r = emptyB m status := ⟨_, rfl⟩
  rw [← hr]
  rcases h1 : (m.toList == [72, 69, 65, 68]) with _ | _
  · by_cases h2 : status < 200
    · have HV := hide (show r = true by rw [hr]; unfold emptyB; rw [h1]; simp [h2])
      clear hr
      go_enter Tryd.func62, Tryd.ntmps62
      go_wp2
      go_ret
      exact ⟨ret_bool (by rw [HV.out]), rfl⟩
    · by_cases h3 : status = 204
      · subst h3
        have HV := hide (show r = true by rw [hr]; unfold emptyB; rw [h1]; simp)
        clear hr
        go_enter Tryd.func62, Tryd.ntmps62
        go_wp2
        go_ret
        exact ⟨ret_bool (by rw [HV.out]), rfl⟩
      · by_cases h4 : status = 304
        · subst h4
          have HV := hide (show r = true by rw [hr]; unfold emptyB; rw [h1]; simp)
          clear hr
          go_enter Tryd.func62, Tryd.ntmps62
          go_wp2
          go_ret
          exact ⟨ret_bool (by rw [HV.out]), rfl⟩
        · have HV := hide (show r = false by rw [hr]; unfold emptyB; rw [h1]; simp [h2, h3, h4])
          have h3' : (status == 204) = false := by simpa using h3
          have h4' : (status == 304) = false := by simpa using h4
          clear hr h3 h4
          go_enter Tryd.func62, Tryd.ntmps62
          go_wp2
          go_ret
          exact ⟨ret_bool (by rw [HV.out]), rfl⟩
  · have HV := hide (show r = true by rw [hr]; unfold emptyB; rw [h1]; simp)
    clear hr
    go_enter Tryd.func62, Tryd.ntmps62
    go_wp2
    go_ret
    exact ⟨ret_bool (by rw [HV.out]), rfl⟩

def frResp (m : ByteArray) (fs : List (List UInt8 × List UInt8)) (minor status : Int) : Nat × Nat × Nat := if emptyB m status then (0, 0, 0) else frOf fs minor 3
set_option maxRecDepth 100000 in
set_option maxHeartbeats 3200000 in
theorem refresp_any (m s : ByteArray) (minor status : Int) (A : Option Addr) (n c B : Nat) (fs : List (List UInt8 × List UInt8)) (w : World) (h : Rd w B 2 A n (fcells fs)) (hB : B ≤ w.heap.size) (hn : n ≤ 1000000) (hok : fsOk fs) :
    Calls Tryd.prog 27 #[.string m, .agg #[.int .i64 minor, .int .i64 status, .string s, .slice A n c]] w fun e w' => e = .returned (frV (frResp m fs minor status)) ∧ Below w.heap.size w w' := by
  have q := fun (W : World) (b : Below w.heap.size w W) => framing_any A n c B fs minor 3 W (h.below (b.mono hB)) (Nat.le_trans hB b.size) hn hok
  have qe := fun (W : World) => refempty_any m status W
  unfold frResp
  obtain ⟨r, hr⟩ : ∃ r, r = frOf fs minor 3 := ⟨_, rfl⟩
  rw [← hr]
  change ∀ W, _ → Calls _ _ _ _ (fun e w' => e = .returned (frV (frOf fs minor 3)) ∧ _) at q
  rw [← hr] at q
  obtain ⟨x, y, z⟩ := r
  simp only [frV] at q
  clear h hok hr
  rcases hE : emptyB m status with _ | _
  · rw [if_neg (by simp)]
    rw [hE] at qe
    clear hE
    go_enter Tryd.func27, Tryd.ntmps27
    go_wp2_with fail
    refine (qe _).mono ?_
    rintro e w2 ⟨rfl, rfl⟩
    clear qe
    go_wp2_with fail
    refine (q _ (below_alloc2 _ _ _)).mono ?_
    rintro e w3 ⟨rfl, b3⟩
    have k0 : w3.cell? ⟨w.heap.size + 1, 0, none⟩ = some (.int .i64 0) := new2_kept b3 (by simp) rfl
    have k1 : w3.cell? ⟨w.heap.size + 1, 1, none⟩ = some (.int .i64 0) := new2_kept b3 (by simp) rfl
    have f0 : w3.frozen? ⟨w.heap.size + 1, 0, none⟩ = false := new2_free b3 (by simp)
    have f1 : w3.frozen? ⟨w.heap.size + 1, 1, none⟩ = false := new2_free b3 (by simp)
    have t3 := (below_alloc2 _ _ _).trans (b3.mono (by simp; omega))
    clear b3
    go_wp2
    refine bodyPost_ret (v := frV (x, y, z)) (results_fr Tryd.results27 _ w3 _ _ _ _ _ _ k0 k1 rfl rfl) rfl ?_
    exact ⟨rfl, (t3.setCell (by simp) _).setCell (by simp) _⟩
  · rw [if_pos rfl]
    rw [hE] at qe
    clear hE
    go_enter Tryd.func27, Tryd.ntmps27
    go_wp2_with fail
    refine (qe _).mono ?_
    rintro e w2 ⟨rfl, hw2⟩
    have b3 : Below ((w.alloc (.cells #[.int .i64 minor, .int .i64 status, .string s, .slice A n c] 41)).alloc (.cells #[.int .i64 0, .int .i64 0] 26)).heap.size ((w.alloc (.cells #[.int .i64 minor, .int .i64 status, .string s, .slice A n c] 41)).alloc (.cells #[.int .i64 0, .int .i64 0] 26)) w2 := by rw [← hw2]; exact Below.refl _ _
    have k0 : w2.cell? ⟨w.heap.size + 1, 0, none⟩ = some (.int .i64 0) := new2_kept b3 (by simp) rfl
    have k1 : w2.cell? ⟨w.heap.size + 1, 1, none⟩ = some (.int .i64 0) := new2_kept b3 (by simp) rfl
    have f0 : w2.frozen? ⟨w.heap.size + 1, 0, none⟩ = false := new2_free b3 (by simp)
    have f1 : w2.frozen? ⟨w.heap.size + 1, 1, none⟩ = false := new2_free b3 (by simp)
    have t3 := (below_alloc2 _ _ _).trans (b3.mono (by simp; omega))
    clear b3 hw2 q qe
    go_wp2
    refine bodyPost_ret (v := frV (0, 0, 0)) (results_fr Tryd.results27 _ w2 _ _ _ _ _ _ k0 k1 rfl rfl) rfl ?_
    exact ⟨rfl, (t3.setCell (by simp) _).setCell (by simp) _⟩
end Go.Proofs.YtgdjlmpfjmakkaaDoor
