/- A settled world in which the five tables and strconv's two errors and bytes.ErrTooLarge are laid. -/
import Derived.Test.YtijlaclngibekaaGreatDoorKFrame
namespace Go.Proofs.YtijlaclngibekaaGreatDoor
open Go.ChangeShapes Go.WideShapes Go.ChangeAt Go.RowKit
def tab32 : Array Value := ([0, 1, 28, 2, 29, 14, 24, 3, 30, 22, 20, 15, 25, 17, 4, 8, 31, 27, 13, 23, 21, 19, 16, 7, 26, 12, 18, 6, 11, 5, 10, 9].map fun n : Nat => Value.int .u8 n).toArray
def tab64 : Array Value := ([0, 1, 56, 2, 57, 49, 28, 3, 61, 58, 42, 50, 38, 29, 17, 4, 62, 47, 59, 36, 45, 43, 51, 22, 53, 39, 33, 30, 24, 18, 12, 5, 63, 55, 48, 27, 60, 41, 37, 16, 46, 35, 44, 21, 52, 32, 23, 11, 54, 26, 40, 15, 34, 20, 31, 10, 25, 14, 19, 9, 13, 8, 7, 6].map fun n : Nat => Value.int .u8 n).toArray
def tabPow : Array Value := ([1, 10, 100, 1000, 10000, 100000, 1000000, 10000000, 100000000, 1000000000, 10000000000, 100000000000, 1000000000000, 10000000000000, 100000000000000, 1000000000000000, 10000000000000000, 100000000000000000, 1000000000000000000, 10000000000000000000].map fun n : Nat => Value.int .u64 n).toArray
noncomputable def laid5 (os : Os) : Array Obj := ((((((World.holding Tryz.prog os ⟨#[], #[], []⟩).heap.modify 7 (putCells firstCells)).modify 8 (putCells rangeCells)).modify 3 (putCells tab32)).modify 4 (putCells tab64)).modify 2 (putCells tabPow))
/-- The settled world: tables as their initialisers lay them; an error is a pointer to its text. -/
noncomputable def laidWorld8 (os : Os) : World :=
  { World.holding Tryz.prog os ⟨#[], #[], []⟩ with heap := ((((((laid5 os).modify 6 (putCells #[.iface 341 (.pointer (some ⟨(laid5 os).size, 0, none⟩))])).modify 5 (putCells #[.iface 341 (.pointer (some ⟨(laid5 os).size + 1, 0, none⟩))])).modify 0 (putCells #[.iface 341 (.pointer (some ⟨(laid5 os).size + 2, 0, none⟩))])).push (.cells #[.string ⟨#[118, 97, 108, 117, 101, 32, 111, 117, 116, 32, 111, 102, 32, 114, 97, 110, 103, 101]⟩] 343)).push (.cells #[.string ⟨#[105, 110, 118, 97, 108, 105, 100, 32, 115, 121, 110, 116, 97, 120]⟩] 343)).push (.cells #[.string ⟨#[98, 121, 116, 101, 115, 46, 66, 117, 102, 102, 101, 114, 58, 32, 116, 111, 111, 32, 108, 97, 114, 103, 101]⟩] 343) }
end Go.Proofs.YtijlaclngibekaaGreatDoor
