/-
  DERIVED. GIVEN WITH THE SEED: THE CARDS: each row of YtbcoejmiihgfoaaDoorRows.lean that lists a variable, with what it lists TIED to the program's text (the seventh form; the later family's looks); each row that meets fmt, with fmt's text TOLD by the authors' own Lean function (tested against real Go, not proved from fmt's source: count such statements apart). THE CARD IS WHAT COUNTS. Prove the row's statement (the work); the ties are given (YtbcoejmiihgfoaaDoorTie.lean); close each card by the builder's one call (the guide's Derived/Test/ToyasCard.lean, 'card_holds'). Laid BY PROGRAM, IN A SANDBOX (cutbox-door.mjs). By AI agents, Wed Nov 11 2026. No macro, syntax, notation, axiom, sorry.
-/
import Derived.Test.YtbcoejmiihgfoaaDoorRows
import GoSem.ClaimSeven
namespace Go.Proofs.YtbcoejmiihgfoaaDoor
namespace Rows

/-- THE TIED CARD OF 'overdrivelaw11.HeapPlays'. -/
def heapPlaysCard : Claim7 := { stood := { row := heapPlaysRow, standIns := [], harness := (true, "ec766ca95afbe4e668aad4216b3f9526a5c79aef735b0761bd39bc2687cba85b"), looks := true }, kinds := [], alts := [], laidByText := true, laidKinds := [.data, .sentinel, .sentinel, .sentinel, .sentinel, .sentinel, .sentinel, .sentinel, .sentinel, .sentinel, .sentinel, .sentinel, .sentinel, .sentinel, .sentinel], laidTests := true, laidLooks := .later }
def HeapPlaysCardSaid : Prop := Claim7.holds Tryd.pinned (.plain (OpenSpec.ofChange heapPlaysSpec)) heapPlaysCard

/-- THE SECOND FORM's CARD OF 'overdrivelaw11.HeapPlays'. -/
def heapPlaysUptoCard : Claim7 := { stood := { row := heapPlaysUptoRow, standIns := [], harness := (true, "ec766ca95afbe4e668aad4216b3f9526a5c79aef735b0761bd39bc2687cba85b"), looks := true }, kinds := [], alts := [], laidByText := true, laidKinds := [.data, .sentinel, .sentinel, .sentinel, .sentinel, .sentinel, .sentinel, .sentinel, .sentinel, .sentinel, .sentinel, .sentinel, .sentinel, .sentinel, .sentinel], laidTests := true, laidLooks := .later }
def HeapPlaysUptoCardSaid : Prop := Claim7.holds Tryd.pinned (.plain (OpenSpec.upto heapPlaysSpec)) heapPlaysUptoCard
end Rows
end Go.Proofs.YtbcoejmiihgfoaaDoor
