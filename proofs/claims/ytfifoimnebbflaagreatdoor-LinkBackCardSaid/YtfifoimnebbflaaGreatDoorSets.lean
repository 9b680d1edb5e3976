/- The reference's Drop and Set; field.Set; SameFields. -/
import Derived.Test.YtfifoimnebbflaaGreatDoorHas
namespace Go.Proofs.YtfifoimnebbflaaGreatDoor
open Go.RowKit

theorem infoFld : (Tryz.prog.info? 68).map (fun i => (i.zero, i.size, i.bytes)) = some (some (.agg #[.string ByteArray.empty, .string ByteArray.empty]), 2, 32) := by kernel_rfl
/-- Without a name's fields. -/
def dropL (fs : List (List UInt8 × List UInt8)) (name : List UInt8) : List (List UInt8 × List UInt8) := fs.filter fun f => !sameL f.1 name
theorem dropL_snoc (fs : List (List UInt8 × List UInt8)) (name : List UInt8) (k : Nat) (h : k < fs.length) : dropL (fs.take (k + 1)) name = dropL (fs.take k) name ++ if sameL fs[k].1 name then [] else [fs[k]] := by
  unfold dropL
  rw [list_take_snoc fs k h, List.filter_append]
  congr 1
  by_cases hs : sameL fs[k].1 name = true
  · rw [if_pos hs]; simp [hs]
  · rw [if_neg hs]; simp [hs]
theorem dropL_len (fs : List (List UInt8 × List UInt8)) (name : List UInt8) : (dropL fs name).length ≤ fs.length := by unfold dropL; exact List.length_filter_le _ _
/-- One field of a name: what is laid by now, and whether it has come. -/
def setGo (name value : List UInt8) (fs : List (List UInt8 × List UInt8)) : List (List UInt8 × List UInt8) × Bool :=
  fs.foldl (fun st f => if sameL f.1 name then (if st.2 then st else (st.1 ++ [(f.1, value)], true)) else (st.1 ++ [f], st.2)) ([], false)
def setL (fs : List (List UInt8 × List UInt8)) (name value : List UInt8) : List (List UInt8 × List UInt8) := if (setGo name value fs).2 then (setGo name value fs).1 else (setGo name value fs).1 ++ [(name, value)]
theorem setGo_snoc (name value : List UInt8) (fs : List (List UInt8 × List UInt8)) (k : Nat) (h : k < fs.length) : setGo name value (fs.take (k + 1)) =
    if sameL fs[k].1 name then (if (setGo name value (fs.take k)).2 then setGo name value (fs.take k) else ((setGo name value (fs.take k)).1 ++ [(fs[k].1, value)], true)) else ((setGo name value (fs.take k)).1 ++ [fs[k]], (setGo name value (fs.take k)).2) := by
  conv => lhs; unfold setGo
  rw [list_take_snoc fs k h, List.foldl_append]; rfl
theorem setGo_len (name value : List UInt8) (fs : List (List UInt8 × List UInt8)) : ∀ k, k ≤ fs.length → (setGo name value (fs.take k)).1.length ≤ k
  | 0, _ => by simp [setGo]
  | k + 1, h => by
    have ih := setGo_len name value fs k (by omega)
    rw [setGo_snoc name value fs k (by omega)]
    split
    · split
      · omega
      · simp; omega
    · simp; omega

end Go.Proofs.YtfifoimnebbflaaGreatDoor

/- The reference's Set; field.Set. -/
namespace Go.Proofs.YtfifoimnebbflaaGreatDoor
open Go.RowKit

end Go.Proofs.YtfifoimnebbflaaGreatDoor
