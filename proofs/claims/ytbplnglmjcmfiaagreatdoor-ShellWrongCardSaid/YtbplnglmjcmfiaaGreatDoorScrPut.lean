/- script.file: one route, one type, one act more. -/
import Derived.Test.YtbplnglmjcmfiaaGreatDoorScrFile
namespace Go.Proofs.YtbplnglmjcmfiaaGreatDoor
open Go.RowKit
set_option linter.unusedVariables false
set_option linter.unusedSimpArgs false

theorem step_append_ow {P : Program} (w : World) {ops : Array Oper} {o : Oper} {a : Act} {K : Act → World → Prop} {Q : Exit → Act → World → Prop} {E : Prop}
    (hgd : o.guard = none) (s x : Operand) (t : TypeId) (hop : o.op = Op.call { callee := Callee.builtin Builtin.append, args := #[s, x], argTypes := #[t, t] })
    (base : Nat) (e : TypeId) (i : TypeInfo) (z : Value) (size bytes : Nat) (ht : P.underlying t = some (.slice e)) (hi : P.info? e = some i) (hz : i.zero = some z)
    (hsize : i.size = size) (hby : i.bytes = bytes) (hzs : z.cells.size = size) (hsz : 0 < size)
    (v : Value) (n : Nat) (xs : List Value) (hs : a.eval s = v) (B : Nat) (A : Option Addr) (m c : Nat) (news : List Value) (hx : a.eval x = .slice A m c)
    (hown : Ow w base size v n xs) (hr : Rd w B size A m news) (h1 : ∀ u ∈ news, u.oneCell' = true)
    (h63 : n + m ≤ maxLen) (hbytes : (n + m) * bytes ≤ 140737488355328) (hbase : base ≤ w.heap.size)
    (hK : ∀ v' w', Ow w' base size v' (n + m) (xs ++ news) → Below base w w' → w.grownBy w' v.ownBlock → (v'.ownBlock = v.ownBlock ∨ ∀ g, v'.ownBlock = some g → w.heap.size ≤ g) → K (a.put o.dst v') w') :
    if Region.wanted o (yielded ops a.tmps) = true then Oper.wp P o a w K Q else E := by
  have hw : Region.wanted o (yielded ops a.tmps) = true := by simp [Region.wanted, hgd]
  rw [if_pos hw]
  obtain ⟨v', w', hrun, h2, h3, h4⟩ := run_append_ow (P := P) w t o.type base e i z size bytes ht hi hz hsize hby hzs hsz v n xs B A m c news hown hr h1 h63 hbytes hbase
  unfold Oper.wp
  simp [execOp, hop, resolve, invoke, builtin, hs, hx, hrun, Result.andThen]
  exact hK v' w' h2 ((Below.refl _ _).grown h3 hbase (fun k hk => (hown.lt k hk).1)) h3 h4
theorem Box.grown2 {w w' : World} {g : Nat} {cs : List Value} {row : Option Nat} (h : Box w g cs) (hg : w.grownBy w' row) (hne : row ≠ some g) : Box w' g cs :=
  ⟨Nat.lt_of_lt_of_le h.1 hg.size, fun j u hu => by
    have hb : w'.heap[g]? = w.heap[g]? := hg.block g h.1 (fun e => hne e.symm)
    exact ⟨(World.cell?_of_block (a := ⟨g, j, none⟩) hb).trans (h.2 j u hu).1, (World.frozen?_of_block (a := ⟨g, j, none⟩) hb).trans (h.2 j u hu).2⟩⟩
theorem apart_or {a b : Option Nat} (h : ∀ x, a = some x → b ≠ some x) : a = none ∨ a ≠ b := by
  rcases a with _ | x
  · exact .inl rfl
  · exact .inr fun e => h x rfl e.symm
/-- An own block that is the old one or fresh is no block that is another's. -/
theorem fresh_ne {v v' : Option Nat} {N x : Nat} (hf : v' = v ∨ ∀ g, v' = some g → N ≤ g) (hx : x < N) (h : v ≠ some x) : v' ≠ some x := by
  rcases hf with e | e
  · rw [e]; exact h
  · intro e2; have := e x e2; omega
theorem Dats.swap {w : World} {f : Nat} {S S' : List (Option Nat)} {al : List (Nat × Nat × Nat × List UInt8)} {ps : List Pl} (h : Dats w f S al ps) (hs : ∀ x, x < w.heap.size → some x ∉ S → some x ∉ S') : Dats w f S' al ps :=
  ⟨h.1, fun i h1 h2 => by
    obtain ⟨k1, k2, k3, k4⟩ := h.2 i h1 h2
    exact ⟨k1, k2, k3, fun a ha => ⟨(k4 a ha).1, (k4 a ha).2.1, hs _ (k4 a ha).2.1 (k4 a ha).2.2⟩⟩⟩
theorem rcells_length (l : List (List UInt8 × List UInt8 × Nat)) : (rcells l).length = l.length * 3 := by
  induction l with
  | nil => rfl
  | cons x l ih =>
    unfold rcells at ih ⊢
    rw [List.flatMap_cons, List.length_append, ih]
    simp only [List.length_cons, List.length_nil]; omega
section
variable {W w' : World} {f : Nat} {F : Scr.Fl} {vR vT vA v' : Value} {ps : List Pl}
theorem IsFile.putTy (bx : FBox W f F vR vT vA) (rw_ : Rows W f F vR vT vA ps) (t : List UInt8) (ho : Ow w' (f + 1) 1 v' (F.tys.length + 1) (scells F.tys ++ [.string ⟨t.toArray⟩])) (hg : W.grownBy w' vT.ownBlock)
    (hf : v'.ownBlock = vT.ownBlock ∨ ∀ g, v'.ownBlock = some g → W.heap.size ≤ g) : IsFile (w'.setCell ⟨f, 1, none⟩ v') f (F.put (.ty t)) := by
  obtain ⟨oR, oT, oA, d1, d2, ds⟩ := rw_
  have nf : ∀ {size n : Nat} {v : Value} {xs : List Value} {X : World}, Ow X (f + 1) size v n xs → v.ownBlock ≠ some f := fun o e => by have := (o.lt f e).1; omega
  have b2 := Box.set (Box.grown2 bx hg (nf oT)) (k := 1) (x := v') (by simp)
  simp only [List.set_cons_succ, List.set_cons_zero] at b2
  refine ⟨vR, v', vA, ps, b2, ?_, ?_, ?_, ?_, ?_, ?_⟩
  · exact Ow.store_far (a := ⟨f, 1, none⟩) (oR.kept hg (apart_or fun x hx => (d1 x hx).1)) (nf oR) _
  · have e : scells (F.put (.ty t)).tys = scells F.tys ++ [.string ⟨t.toArray⟩] := by simp [Scr.Fl.put, scells]
    have e2 : (F.put (.ty t)).tys.length = F.tys.length + 1 := by simp [Scr.Fl.put]
    rw [e, e2]
    exact Ow.store_far (a := ⟨f, 1, none⟩) ho (nf ho) _
  · exact Ow.store_far (a := ⟨f, 1, none⟩) (oA.kept hg (apart_or fun x hx e => d2 x e hx)) (nf oA) _
  · exact fun x hx => ⟨fresh_ne hf (oR.lt x hx).2 (d1 x hx).1, (d1 x hx).2⟩
  · intro x hx e
    have := fresh_ne (v := vT.ownBlock) hf (oA.lt x e).2 (fun e2 => d2 x e2 e)
    exact this hx
  · have k1 := (ds.keep hg (.inl (by simp)))
    have k2 := k1.keep (grown_cell w' f 1 v') (.inr (.inr rfl))
    have k0 : Dats W f [vR.ownBlock, v'.ownBlock, vA.ownBlock] F.acs ps := ds.swap fun x hx hm => by
      simp only [List.mem_cons, List.not_mem_nil, or_false, not_or] at hm ⊢
      exact ⟨hm.1, fun e => fresh_ne hf hx (fun e2 => hm.2.1 e2.symm) e.symm, hm.2.2⟩
    refine ⟨k0.1, fun i h1 h2 => ?_⟩
    obtain ⟨a1, a2, a3, a4⟩ := k2.2 i h1 h2
    exact ⟨a1, a2, a3, fun a ha => ⟨(a4 a ha).1, (a4 a ha).2.1, ((k0.2 i h1 h2).2.2.2 a ha).2.2⟩⟩
theorem IsFile.putRt (bx : FBox W f F vR vT vA) (rw_ : Rows W f F vR vT vA ps) (h p : List UInt8) (u : Nat) (ho : Ow w' (f + 1) 3 v' (F.rts.length + 1) (rcells F.rts ++ [.string ⟨h.toArray⟩, .string ⟨p.toArray⟩, .int .i64 (u : Nat)])) (hg : W.grownBy w' vR.ownBlock)
    (hf : v'.ownBlock = vR.ownBlock ∨ ∀ g, v'.ownBlock = some g → W.heap.size ≤ g) : IsFile (w'.setCell ⟨f, 0, none⟩ v') f (F.put (.rt h p u)) := by
  obtain ⟨oR, oT, oA, d1, d2, ds⟩ := rw_
  have nf : ∀ {size n : Nat} {v : Value} {xs : List Value} {X : World}, Ow X (f + 1) size v n xs → v.ownBlock ≠ some f := fun o e => by have := (o.lt f e).1; omega
  have b2 := Box.set (Box.grown2 bx hg (nf oR)) (k := 0) (x := v') (by simp)
  simp only [List.set_cons_zero] at b2
  refine ⟨v', vT, vA, ps, b2, ?_, ?_, ?_, ?_, ?_, ?_⟩
  · have e : rcells (F.put (.rt h p u)).rts = rcells F.rts ++ [.string ⟨h.toArray⟩, .string ⟨p.toArray⟩, .int .i64 (u : Nat)] := by simp [Scr.Fl.put, rcells]
    have e2 : (F.put (.rt h p u)).rts.length = F.rts.length + 1 := by simp [Scr.Fl.put]
    rw [e, e2]
    exact Ow.store_far (a := ⟨f, 0, none⟩) ho (nf ho) _
  · exact Ow.store_far (a := ⟨f, 0, none⟩) (oT.kept hg (apart_or fun x hx e => (d1 x e).1 hx)) (nf oT) _
  · exact Ow.store_far (a := ⟨f, 0, none⟩) (oA.kept hg (apart_or fun x hx e => (d1 x e).2 hx)) (nf oA) _
  · intro x hx
    refine ⟨fun e => ?_, fun e => ?_⟩
    · exact fresh_ne (v := vR.ownBlock) hf (oT.lt x e).2 (fun e2 => (d1 x e2).1 e) hx
    · exact fresh_ne (v := vR.ownBlock) hf (oA.lt x e).2 (fun e2 => (d1 x e2).2 e) hx
  · exact d2
  · have k1 := (ds.keep hg (.inl (by simp)))
    have k2 := k1.keep (grown_cell w' f 0 v') (.inr (.inr rfl))
    have k0 : Dats W f [v'.ownBlock, vT.ownBlock, vA.ownBlock] F.acs ps := ds.swap fun x hx hm => by
      simp only [List.mem_cons, List.not_mem_nil, or_false, not_or] at hm ⊢
      exact ⟨fun e => fresh_ne hf hx (fun e2 => hm.1 e2.symm) e.symm, hm.2.1, hm.2.2⟩
    refine ⟨k0.1, fun i h1 h2 => ?_⟩
    obtain ⟨a1, a2, a3, a4⟩ := k2.2 i h1 h2
    exact ⟨a1, a2, a3, fun a ha => ⟨(a4 a ha).1, (a4 a ha).2.1, ((k0.2 i h1 h2).2.2.2 a ha).2.2⟩⟩
theorem IsFile.putAc (bx : FBox W f F vR vT vA) (rw_ : Rows W f F vR vT vA ps) (k c n : Nat) (d : List UInt8) (p : Pl) (hd : Dat W f [vR.ownBlock, vT.ownBlock, vA.ownBlock] d p)
    (ho : Ow w' (f + 1) 4 v' (F.acs.length + 1) (acells F.acs ps ++ [.int .i64 (k : Nat), .int .i64 (c : Nat), .int .i64 (n : Nat), .slice p.1 d.length p.2])) (hg : W.grownBy w' vA.ownBlock)
    (hf : v'.ownBlock = vA.ownBlock ∨ ∀ g, v'.ownBlock = some g → W.heap.size ≤ g) : IsFile (w'.setCell ⟨f, 7, none⟩ v') f (F.put (.ac k c n d)) := by
  obtain ⟨oR, oT, oA, d1, d2, ds⟩ := rw_
  have nf : ∀ {size n : Nat} {v : Value} {xs : List Value} {X : World}, Ow X (f + 1) size v n xs → v.ownBlock ≠ some f := fun o e => by have := (o.lt f e).1; omega
  have b2 := Box.set (Box.grown2 bx hg (nf oA)) (k := 7) (x := v') (by simp)
  simp only [List.set_cons_succ, List.set_cons_zero] at b2
  have e2 : (F.put (.ac k c n d)).acs = F.acs ++ [(k, c, n, d)] := by simp [Scr.Fl.put]
  have dsx : Dats W f [vR.ownBlock, vT.ownBlock, vA.ownBlock] (F.acs ++ [(k, c, n, d)]) (ps ++ [p]) := by
    refine ⟨by simp [ds.1], fun i h1 h2 => ?_⟩
    by_cases hi : i < F.acs.length
    · have e3 : (F.acs ++ [(k, c, n, d)])[i] = F.acs[i] := List.getElem_append_left hi
      have e4 : (ps ++ [p])[i] = ps[i]'(by have := ds.1; omega) := List.getElem_append_left _
      rw [e3, e4]
      exact ds.2 i hi _
    · have hi2 : i = F.acs.length := by rw [List.length_append] at h1; simp at h1; omega
      subst hi2
      have e3 : (F.acs ++ [(k, c, n, d)])[F.acs.length] = (k, c, n, d) := by simp
      have e4 : (ps ++ [p])[F.acs.length] = p := by simp [ds.1]
      rw [e3, e4]
      exact hd
  refine ⟨vR, vT, v', ps ++ [p], b2, ?_, ?_, ?_, ?_, ?_, ?_⟩
  · exact Ow.store_far (a := ⟨f, 7, none⟩) (oR.kept hg (apart_or fun x hx => (d1 x hx).2)) (nf oR) _
  · exact Ow.store_far (a := ⟨f, 7, none⟩) (oT.kept hg (apart_or fun x hx => d2 x hx)) (nf oT) _
  · rw [e2, acells_snoc _ _ _ _ ds.1, List.length_append]
    exact Ow.store_far (a := ⟨f, 7, none⟩) ho (nf ho) _
  · exact fun x hx => ⟨(d1 x hx).1, fresh_ne hf (oR.lt x hx).2 (d1 x hx).2⟩
  · exact fun x hx => fresh_ne hf (oT.lt x hx).2 (d2 x hx)
  · rw [e2]
    have k1 := (dsx.keep hg (.inl (by simp)))
    have k2 := k1.keep (grown_cell w' f 7 v') (.inr (.inr rfl))
    have k0 : Dats W f [vR.ownBlock, vT.ownBlock, v'.ownBlock] (F.acs ++ [(k, c, n, d)]) (ps ++ [p]) := dsx.swap fun x hx hm => by
      simp only [List.mem_cons, List.not_mem_nil, or_false, not_or] at hm ⊢
      exact ⟨hm.1, hm.2.1, fun e => fresh_ne hf hx (fun e2 => hm.2.2 e2.symm) e.symm⟩
    refine ⟨k0.1, fun i h1 h2 => ?_⟩
    obtain ⟨a1, a2, a3, a4⟩ := k2.2 i h1 h2
    exact ⟨a1, a2, a3, fun a ha => ⟨(a4 a ha).1, (a4 a ha).2.1, ((k0.2 i h1 h2).2.2.2 a ha).2.2⟩⟩
end
end Go.Proofs.YtbplnglmjcmfiaaGreatDoor
