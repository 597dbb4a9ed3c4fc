/-
  DERIVED. GIVEN WITH THE SEED: THE CARDS: each row of YtlkflkgohclbmaaDoorRows.lean that lists a variable, with what it lists TIED to the program's text (the seventh form; the later family's looks); each row that meets fmt, with fmt's text TOLD by the authors' own Lean function (tested against real Go, not proved from fmt's source: count such statements apart). THE CARD IS WHAT COUNTS. Prove the row's statement (the work); the ties are given (YtlkflkgohclbmaaDoorTie.lean); close each card by the builder's one call (the guide's Derived/Test/ToyasCard.lean, 'card_holds'). Laid BY PROGRAM, IN A SANDBOX (cutbox-door.mjs). By AI agents, Wed Nov 11 2026. No macro, syntax, notation, axiom, sorry.
-/
import Derived.Test.YtlkflkgohclbmaaDoorRows
import GoSem.ClaimSeven
namespace Go.Proofs.YtlkflkgohclbmaaDoor
namespace Rows

/-- THE TIED CARD OF 'overdrivelaw11.HeapKinds'. -/
def heapKindsCard : Claim7 := { stood := { row := heapKindsRow, standIns := [], harness := (true, "f3d4b8af3f733607689146eb5033be24ca3b95b6f79f52fe64da3396d9cbcdd1"), looks := true }, kinds := [], alts := [], laidByText := true, laidKinds := [.sentinel], laidTests := true, laidLooks := .later }
def HeapKindsCardSaid : Prop := Claim7.holds Tryd.pinned (.plain (OpenSpec.ofChange heapKindsSpec)) heapKindsCard

/-- THE TIED CARD OF 'overdrivelaw11.HeapShapes'. -/
def heapShapesCard : Claim7 := { stood := { row := heapShapesRow, standIns := [], harness := (true, "f3d4b8af3f733607689146eb5033be24ca3b95b6f79f52fe64da3396d9cbcdd1"), looks := true }, kinds := [], alts := [], laidByText := true, laidKinds := [.sentinel], laidTests := true, laidLooks := .later }
def HeapShapesCardSaid : Prop := Claim7.holds Tryd.pinned (.plain (OpenSpec.ofChange heapShapesSpec)) heapShapesCard

/-- THE TIED CARD OF 'overdrivelaw11.HeapFills'. -/
def heapFillsCard : Claim7 := { stood := { row := heapFillsRow, standIns := [], harness := (true, "f3d4b8af3f733607689146eb5033be24ca3b95b6f79f52fe64da3396d9cbcdd1"), looks := true }, kinds := [], alts := [], laidByText := true, laidKinds := [.sentinel], laidTests := true, laidLooks := .later }
def HeapFillsCardSaid : Prop := Claim7.holds Tryd.pinned (.plain (OpenSpec.ofChange heapFillsSpec)) heapFillsCard

/-- THE TIED CARD OF 'overdrivelaw11.HeapRing'. -/
def heapRingCard : Claim7 := { stood := { row := heapRingRow, standIns := [], harness := (true, "f3d4b8af3f733607689146eb5033be24ca3b95b6f79f52fe64da3396d9cbcdd1"), looks := true }, kinds := [], alts := [], laidByText := true, laidKinds := [.sentinel], laidTests := true, laidLooks := .later }
def HeapRingCardSaid : Prop := Claim7.holds Tryd.pinned (.plain (OpenSpec.ofChange heapRingSpec)) heapRingCard

/-- THE TIED CARD OF 'overdrivelaw11.HeapLeast'. -/
def heapLeastCard : Claim7 := { stood := { row := heapLeastRow, standIns := [], harness := (true, "f3d4b8af3f733607689146eb5033be24ca3b95b6f79f52fe64da3396d9cbcdd1"), looks := true }, kinds := [], alts := [], laidByText := true, laidKinds := [.sentinel], laidTests := true, laidLooks := .later }
def HeapLeastCardSaid : Prop := Claim7.holds Tryd.pinned (.plain (OpenSpec.ofChange heapLeastSpec)) heapLeastCard

/-- THE TIED CARD OF 'overdrivelaw11.HeapPlays'. -/
def heapPlaysCard : Claim7 := { stood := { row := heapPlaysRow, standIns := [], harness := (true, "f3d4b8af3f733607689146eb5033be24ca3b95b6f79f52fe64da3396d9cbcdd1"), looks := true }, kinds := [], alts := [], laidByText := true, laidKinds := [.data, .sentinel, .sentinel, .sentinel, .sentinel, .sentinel, .sentinel, .sentinel, .sentinel, .sentinel, .sentinel, .sentinel, .sentinel, .sentinel, .sentinel], laidTests := true, laidLooks := .later }
def HeapPlaysCardSaid : Prop := Claim7.holds Tryd.pinned (.plain (OpenSpec.ofChange heapPlaysSpec)) heapPlaysCard

/-- THE TIED CARD OF 'overdrivelaw12.GcOwn'. -/
def gcOwnCard : Claim7 := { stood := { row := gcOwnRow, standIns := [], harness := (true, "f3d4b8af3f733607689146eb5033be24ca3b95b6f79f52fe64da3396d9cbcdd1"), looks := true }, kinds := [], alts := [], laidByText := true, laidKinds := [.data, .sentinel], laidTests := true, laidLooks := .later }
def GcOwnCardSaid : Prop := Claim7.holds Tryd.pinned (.plain (OpenSpec.ofChange gcOwnSpec)) gcOwnCard

/-- THE TIED CARD OF 'overdrivelaw12.GcChain'. -/
def gcChainCard : Claim7 := { stood := { row := gcChainRow, standIns := [], harness := (true, "f3d4b8af3f733607689146eb5033be24ca3b95b6f79f52fe64da3396d9cbcdd1"), looks := true }, kinds := [], alts := [], laidByText := true, laidKinds := [.data, .sentinel], laidTests := true, laidLooks := .later }
def GcChainCardSaid : Prop := Claim7.holds Tryd.pinned (.plain (OpenSpec.ofChange gcChainSpec)) gcChainCard

/-- THE TIED CARD OF 'overdrivelaw12.GcPlays'. -/
def gcPlaysCard : Claim7 := { stood := { row := gcPlaysRow, standIns := [], harness := (true, "f3d4b8af3f733607689146eb5033be24ca3b95b6f79f52fe64da3396d9cbcdd1"), looks := true }, kinds := [], alts := [], laidByText := true, laidKinds := [.data, .sentinel], laidTests := true, laidLooks := .later }
def GcPlaysCardSaid : Prop := Claim7.holds Tryd.pinned (.plain (OpenSpec.ofChange gcPlaysSpec)) gcPlaysCard

/-- THE TIED CARD OF 'overdrivelaw12.GcAgain'. -/
def gcAgainCard : Claim7 := { stood := { row := gcAgainRow, standIns := [], harness := (true, "f3d4b8af3f733607689146eb5033be24ca3b95b6f79f52fe64da3396d9cbcdd1"), looks := true }, kinds := [], alts := [], laidByText := true, laidKinds := [.data, .sentinel], laidTests := true, laidLooks := .later }
def GcAgainCardSaid : Prop := Claim7.holds Tryd.pinned (.plain (OpenSpec.ofChange gcAgainSpec)) gcAgainCard

/-- THE TIED CARD OF 'overdrivelaw12.GcNone'. -/
def gcNoneCard : Claim7 := { stood := { row := gcNoneRow, standIns := [], harness := (true, "f3d4b8af3f733607689146eb5033be24ca3b95b6f79f52fe64da3396d9cbcdd1"), looks := true }, kinds := [], alts := [], laidByText := true, laidKinds := [.data, .sentinel], laidTests := true, laidLooks := .later }
def GcNoneCardSaid : Prop := Claim7.holds Tryd.pinned (.plain (OpenSpec.ofChange gcNoneSpec)) gcNoneCard

/-- THE TIED CARD OF 'overdrivelaw12.GcRoom'. -/
def gcRoomCard : Claim7 := { stood := { row := gcRoomRow, standIns := [], harness := (true, "f3d4b8af3f733607689146eb5033be24ca3b95b6f79f52fe64da3396d9cbcdd1"), looks := true }, kinds := [], alts := [], laidByText := true, laidKinds := [.data, .sentinel], laidTests := true, laidLooks := .later }
def GcRoomCardSaid : Prop := Claim7.holds Tryd.pinned (.plain (OpenSpec.ofChange gcRoomSpec)) gcRoomCard

/-- THE SECOND FORM's CARD OF 'overdrivelaw11.HeapKinds'. -/
def heapKindsUptoCard : Claim7 := { stood := { row := heapKindsUptoRow, standIns := [], harness := (true, "f3d4b8af3f733607689146eb5033be24ca3b95b6f79f52fe64da3396d9cbcdd1"), looks := true }, kinds := [], alts := [], laidByText := true, laidKinds := [.sentinel], laidTests := true, laidLooks := .later }
def HeapKindsUptoCardSaid : Prop := Claim7.holds Tryd.pinned (.plain (OpenSpec.upto heapKindsSpec)) heapKindsUptoCard

/-- THE SECOND FORM's CARD OF 'overdrivelaw11.HeapShapes'. -/
def heapShapesUptoCard : Claim7 := { stood := { row := heapShapesUptoRow, standIns := [], harness := (true, "f3d4b8af3f733607689146eb5033be24ca3b95b6f79f52fe64da3396d9cbcdd1"), looks := true }, kinds := [], alts := [], laidByText := true, laidKinds := [.sentinel], laidTests := true, laidLooks := .later }
def HeapShapesUptoCardSaid : Prop := Claim7.holds Tryd.pinned (.plain (OpenSpec.upto heapShapesSpec)) heapShapesUptoCard

/-- THE SECOND FORM's CARD OF 'overdrivelaw11.HeapFills'. -/
def heapFillsUptoCard : Claim7 := { stood := { row := heapFillsUptoRow, standIns := [], harness := (true, "f3d4b8af3f733607689146eb5033be24ca3b95b6f79f52fe64da3396d9cbcdd1"), looks := true }, kinds := [], alts := [], laidByText := true, laidKinds := [.sentinel], laidTests := true, laidLooks := .later }
def HeapFillsUptoCardSaid : Prop := Claim7.holds Tryd.pinned (.plain (OpenSpec.upto heapFillsSpec)) heapFillsUptoCard

/-- THE SECOND FORM's CARD OF 'overdrivelaw11.HeapRing'. -/
def heapRingUptoCard : Claim7 := { stood := { row := heapRingUptoRow, standIns := [], harness := (true, "f3d4b8af3f733607689146eb5033be24ca3b95b6f79f52fe64da3396d9cbcdd1"), looks := true }, kinds := [], alts := [], laidByText := true, laidKinds := [.sentinel], laidTests := true, laidLooks := .later }
def HeapRingUptoCardSaid : Prop := Claim7.holds Tryd.pinned (.plain (OpenSpec.upto heapRingSpec)) heapRingUptoCard

/-- THE SECOND FORM's CARD OF 'overdrivelaw11.HeapLeast'. -/
def heapLeastUptoCard : Claim7 := { stood := { row := heapLeastUptoRow, standIns := [], harness := (true, "f3d4b8af3f733607689146eb5033be24ca3b95b6f79f52fe64da3396d9cbcdd1"), looks := true }, kinds := [], alts := [], laidByText := true, laidKinds := [.sentinel], laidTests := true, laidLooks := .later }
def HeapLeastUptoCardSaid : Prop := Claim7.holds Tryd.pinned (.plain (OpenSpec.upto heapLeastSpec)) heapLeastUptoCard

/-- THE SECOND FORM's CARD OF 'overdrivelaw11.HeapPlays'. -/
def heapPlaysUptoCard : Claim7 := { stood := { row := heapPlaysUptoRow, standIns := [], harness := (true, "f3d4b8af3f733607689146eb5033be24ca3b95b6f79f52fe64da3396d9cbcdd1"), looks := true }, kinds := [], alts := [], laidByText := true, laidKinds := [.data, .sentinel, .sentinel, .sentinel, .sentinel, .sentinel, .sentinel, .sentinel, .sentinel, .sentinel, .sentinel, .sentinel, .sentinel, .sentinel, .sentinel], laidTests := true, laidLooks := .later }
def HeapPlaysUptoCardSaid : Prop := Claim7.holds Tryd.pinned (.plain (OpenSpec.upto heapPlaysSpec)) heapPlaysUptoCard

/-- THE SECOND FORM's CARD OF 'overdrivelaw12.GcOwn'. -/
def gcOwnUptoCard : Claim7 := { stood := { row := gcOwnUptoRow, standIns := [], harness := (true, "f3d4b8af3f733607689146eb5033be24ca3b95b6f79f52fe64da3396d9cbcdd1"), looks := true }, kinds := [], alts := [], laidByText := true, laidKinds := [.data, .sentinel], laidTests := true, laidLooks := .later }
def GcOwnUptoCardSaid : Prop := Claim7.holds Tryd.pinned (.plain (OpenSpec.upto gcOwnSpec)) gcOwnUptoCard

/-- THE SECOND FORM's CARD OF 'overdrivelaw12.GcChain'. -/
def gcChainUptoCard : Claim7 := { stood := { row := gcChainUptoRow, standIns := [], harness := (true, "f3d4b8af3f733607689146eb5033be24ca3b95b6f79f52fe64da3396d9cbcdd1"), looks := true }, kinds := [], alts := [], laidByText := true, laidKinds := [.data, .sentinel], laidTests := true, laidLooks := .later }
def GcChainUptoCardSaid : Prop := Claim7.holds Tryd.pinned (.plain (OpenSpec.upto gcChainSpec)) gcChainUptoCard

/-- THE SECOND FORM's CARD OF 'overdrivelaw12.GcPlays'. -/
def gcPlaysUptoCard : Claim7 := { stood := { row := gcPlaysUptoRow, standIns := [], harness := (true, "f3d4b8af3f733607689146eb5033be24ca3b95b6f79f52fe64da3396d9cbcdd1"), looks := true }, kinds := [], alts := [], laidByText := true, laidKinds := [.data, .sentinel], laidTests := true, laidLooks := .later }
def GcPlaysUptoCardSaid : Prop := Claim7.holds Tryd.pinned (.plain (OpenSpec.upto gcPlaysSpec)) gcPlaysUptoCard

/-- THE SECOND FORM's CARD OF 'overdrivelaw12.GcAgain'. -/
def gcAgainUptoCard : Claim7 := { stood := { row := gcAgainUptoRow, standIns := [], harness := (true, "f3d4b8af3f733607689146eb5033be24ca3b95b6f79f52fe64da3396d9cbcdd1"), looks := true }, kinds := [], alts := [], laidByText := true, laidKinds := [.data, .sentinel], laidTests := true, laidLooks := .later }
def GcAgainUptoCardSaid : Prop := Claim7.holds Tryd.pinned (.plain (OpenSpec.upto gcAgainSpec)) gcAgainUptoCard

/-- THE SECOND FORM's CARD OF 'overdrivelaw12.GcNone'. -/
def gcNoneUptoCard : Claim7 := { stood := { row := gcNoneUptoRow, standIns := [], harness := (true, "f3d4b8af3f733607689146eb5033be24ca3b95b6f79f52fe64da3396d9cbcdd1"), looks := true }, kinds := [], alts := [], laidByText := true, laidKinds := [.data, .sentinel], laidTests := true, laidLooks := .later }
def GcNoneUptoCardSaid : Prop := Claim7.holds Tryd.pinned (.plain (OpenSpec.upto gcNoneSpec)) gcNoneUptoCard

/-- THE SECOND FORM's CARD OF 'overdrivelaw12.GcRoom'. -/
def gcRoomUptoCard : Claim7 := { stood := { row := gcRoomUptoRow, standIns := [], harness := (true, "f3d4b8af3f733607689146eb5033be24ca3b95b6f79f52fe64da3396d9cbcdd1"), looks := true }, kinds := [], alts := [], laidByText := true, laidKinds := [.data, .sentinel], laidTests := true, laidLooks := .later }
def GcRoomUptoCardSaid : Prop := Claim7.holds Tryd.pinned (.plain (OpenSpec.upto gcRoomSpec)) gcRoomUptoCard
end Rows
end Go.Proofs.YtlkflkgohclbmaaDoor
