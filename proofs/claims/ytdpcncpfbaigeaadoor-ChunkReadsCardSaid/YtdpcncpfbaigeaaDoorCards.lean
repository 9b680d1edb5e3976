/-
  DERIVED. GIVEN WITH THE SEED: THE CARDS: each row of YtdpcncpfbaigeaaDoorRows.lean that lists a variable, with what it lists TIED to the program's text (the seventh form; the later family's looks); each row that meets fmt, with fmt's text TOLD by the authors' own Lean function (tested against real Go, not proved from fmt's source: count such statements apart). THE CARD IS WHAT COUNTS. Prove the row's statement (the work); the ties are given (YtdpcncpfbaigeaaDoorTie.lean); close each card by the builder's one call (the guide's Derived/Test/ToyasCard.lean, 'card_holds'). Laid BY PROGRAM, IN A SANDBOX (cutbox-door.mjs). By AI agents, Wed Nov 11 2026. No macro, syntax, notation, axiom, sorry.
-/
import Derived.Test.YtdpcncpfbaigeaaDoorRows
import GoSem.ClaimSeven
namespace Go.Proofs.YtdpcncpfbaigeaaDoor
namespace Rows

/-- THE TIED CARD OF 'concertinalaw18.ChunkLong'. -/
def chunkLongCard : Claim7 := { stood := { row := chunkLongRow, standIns := [], harness := (true, "f3207185589f1fc7680be2366ccc292ab87b23fc33a703edcc8cfa9212866f19"), looks := true }, kinds := [], alts := [], laidByText := true, laidKinds := [.data, .data, .data, .data, .sentinel, .sentinel, .pinned], laidTests := true, laidLooks := .later }
def ChunkLongCardSaid : Prop := Claim7.holds Tryd.pinned (.plain (OpenSpec.ofChange chunkLongSpec)) chunkLongCard

/-- THE TIED CARD OF 'concertinalaw18.ChunkNone'. -/
def chunkNoneCard : Claim7 := { stood := { row := chunkNoneRow, standIns := [], harness := (true, "f3207185589f1fc7680be2366ccc292ab87b23fc33a703edcc8cfa9212866f19"), looks := true }, kinds := [], alts := [], laidByText := true, laidKinds := [.data, .data, .data, .data, .sentinel, .sentinel, .pinned], laidTests := true, laidLooks := .later }
def ChunkNoneCardSaid : Prop := Claim7.holds Tryd.pinned (.plain (OpenSpec.ofChange chunkNoneSpec)) chunkNoneCard

/-- THE TIED CARD OF 'concertinalaw18.ChunkReads'. -/
def chunkReadsCard : Claim7 := { stood := { row := chunkReadsRow, standIns := [], harness := (true, "f3207185589f1fc7680be2366ccc292ab87b23fc33a703edcc8cfa9212866f19"), looks := true }, kinds := [], alts := [], laidByText := true, laidKinds := [.data, .data, .data, .data, .sentinel, .sentinel, .pinned], laidTests := true, laidLooks := .later }
def ChunkReadsCardSaid : Prop := Claim7.holds Tryd.pinned (.plain (OpenSpec.ofChange chunkReadsSpec)) chunkReadsCard

/-- THE TIED CARD OF 'concertinalaw18.ChunkBack'. -/
def chunkBackCard : Claim7 := { stood := { row := chunkBackRow, standIns := [], harness := (true, "f3207185589f1fc7680be2366ccc292ab87b23fc33a703edcc8cfa9212866f19"), looks := true }, kinds := [], alts := [], laidByText := true, laidKinds := [.data, .data, .data, .data, .sentinel, .sentinel, .pinned], laidTests := true, laidLooks := .later }
def ChunkBackCardSaid : Prop := Claim7.holds Tryd.pinned (.plain (OpenSpec.ofChange chunkBackSpec)) chunkBackCard

/-- THE TIED CARD OF 'concertinalaw18.ChunkSizes'. -/
def chunkSizesCard : Claim7 := { stood := { row := chunkSizesRow, standIns := [], harness := (true, "f3207185589f1fc7680be2366ccc292ab87b23fc33a703edcc8cfa9212866f19"), looks := true }, kinds := [], alts := [], laidByText := true, laidKinds := [.data, .data, .data, .data, .sentinel, .sentinel, .pinned], laidTests := true, laidLooks := .later }
def ChunkSizesCardSaid : Prop := Claim7.holds Tryd.pinned (.plain (OpenSpec.ofChange chunkSizesSpec)) chunkSizesCard

/-- THE TIED CARD OF 'concertinalaw19.FrameNone'. -/
def frameNoneCard : Claim7 := { stood := { row := frameNoneRow, standIns := [], harness := (true, "f3207185589f1fc7680be2366ccc292ab87b23fc33a703edcc8cfa9212866f19"), looks := true }, kinds := [], alts := [], laidByText := true, laidKinds := [.data, .data, .data, .data, .sentinel, .sentinel, .pinned], laidTests := true, laidLooks := .later }
def FrameNoneCardSaid : Prop := Claim7.holds Tryd.pinned (.plain (OpenSpec.ofChange frameNoneSpec)) frameNoneCard

/-- THE SECOND FORM's CARD OF 'concertinalaw18.ChunkLong'. -/
def chunkLongUptoCard : Claim7 := { stood := { row := chunkLongUptoRow, standIns := [], harness := (true, "f3207185589f1fc7680be2366ccc292ab87b23fc33a703edcc8cfa9212866f19"), looks := true }, kinds := [], alts := [], laidByText := true, laidKinds := [.data, .data, .data, .data, .sentinel, .sentinel, .pinned], laidTests := true, laidLooks := .later }
def ChunkLongUptoCardSaid : Prop := Claim7.holds Tryd.pinned (.plain (OpenSpec.upto chunkLongSpec)) chunkLongUptoCard

/-- THE SECOND FORM's CARD OF 'concertinalaw18.ChunkNone'. -/
def chunkNoneUptoCard : Claim7 := { stood := { row := chunkNoneUptoRow, standIns := [], harness := (true, "f3207185589f1fc7680be2366ccc292ab87b23fc33a703edcc8cfa9212866f19"), looks := true }, kinds := [], alts := [], laidByText := true, laidKinds := [.data, .data, .data, .data, .sentinel, .sentinel, .pinned], laidTests := true, laidLooks := .later }
def ChunkNoneUptoCardSaid : Prop := Claim7.holds Tryd.pinned (.plain (OpenSpec.upto chunkNoneSpec)) chunkNoneUptoCard

/-- THE SECOND FORM's CARD OF 'concertinalaw18.ChunkReads'. -/
def chunkReadsUptoCard : Claim7 := { stood := { row := chunkReadsUptoRow, standIns := [], harness := (true, "f3207185589f1fc7680be2366ccc292ab87b23fc33a703edcc8cfa9212866f19"), looks := true }, kinds := [], alts := [], laidByText := true, laidKinds := [.data, .data, .data, .data, .sentinel, .sentinel, .pinned], laidTests := true, laidLooks := .later }
def ChunkReadsUptoCardSaid : Prop := Claim7.holds Tryd.pinned (.plain (OpenSpec.upto chunkReadsSpec)) chunkReadsUptoCard

/-- THE SECOND FORM's CARD OF 'concertinalaw18.ChunkBack'. -/
def chunkBackUptoCard : Claim7 := { stood := { row := chunkBackUptoRow, standIns := [], harness := (true, "f3207185589f1fc7680be2366ccc292ab87b23fc33a703edcc8cfa9212866f19"), looks := true }, kinds := [], alts := [], laidByText := true, laidKinds := [.data, .data, .data, .data, .sentinel, .sentinel, .pinned], laidTests := true, laidLooks := .later }
def ChunkBackUptoCardSaid : Prop := Claim7.holds Tryd.pinned (.plain (OpenSpec.upto chunkBackSpec)) chunkBackUptoCard

/-- THE SECOND FORM's CARD OF 'concertinalaw18.ChunkSizes'. -/
def chunkSizesUptoCard : Claim7 := { stood := { row := chunkSizesUptoRow, standIns := [], harness := (true, "f3207185589f1fc7680be2366ccc292ab87b23fc33a703edcc8cfa9212866f19"), looks := true }, kinds := [], alts := [], laidByText := true, laidKinds := [.data, .data, .data, .data, .sentinel, .sentinel, .pinned], laidTests := true, laidLooks := .later }
def ChunkSizesUptoCardSaid : Prop := Claim7.holds Tryd.pinned (.plain (OpenSpec.upto chunkSizesSpec)) chunkSizesUptoCard

/-- THE SECOND FORM's CARD OF 'concertinalaw19.FrameNone'. -/
def frameNoneUptoCard : Claim7 := { stood := { row := frameNoneUptoRow, standIns := [], harness := (true, "f3207185589f1fc7680be2366ccc292ab87b23fc33a703edcc8cfa9212866f19"), looks := true }, kinds := [], alts := [], laidByText := true, laidKinds := [.data, .data, .data, .data, .sentinel, .sentinel, .pinned], laidTests := true, laidLooks := .later }
def FrameNoneUptoCardSaid : Prop := Claim7.holds Tryd.pinned (.plain (OpenSpec.upto frameNoneSpec)) frameNoneUptoCard
end Rows
end Go.Proofs.YtdpcncpfbaigeaaDoor
