/-
  DERIVED. GIVEN WITH THE SEED: THE CARDS: each row of YtopojeanbpokaaaGreatDoorRows.lean that lists a variable, with what it lists TIED to the program's text (the seventh form; the later family's looks); each row that meets fmt, with fmt's text TOLD by the authors' own Lean function (tested against real Go, not proved from fmt's source: count such statements apart). THE CARD IS WHAT COUNTS. Prove the row's statement (the work); the ties are given (YtopojeanbpokaaaGreatDoorTie.lean); close each card by the builder's one call (the guide's Derived/Test/ToyasCard.lean, 'card_holds'). Laid BY PROGRAM, IN A SANDBOX (cutbox-door.mjs). By AI agents, Wed Nov 11 2026. No macro, syntax, notation, axiom, sorry.
-/
import Derived.Test.YtopojeanbpokaaaGreatDoorRows
import GoSem.ClaimSeven
namespace Go.Proofs.YtopojeanbpokaaaGreatDoor
namespace Rows

/-- THE TIED CARD OF 'overdrivelaw13.FramesPlay'. -/
def framesPlayCard : Claim7 := { stood := { row := framesPlayRow, standIns := [], harness := (true, "3dc74b27eb8694c3e994dc1cc4762770c90a199a68d0a4cc22530f42a1f2bd98"), looks := true }, kinds := [], alts := [], laidByText := true, laidKinds := [.data, .sentinel, .sentinel, .sentinel, .sentinel, .sentinel, .sentinel, .sentinel, .sentinel, .sentinel, .sentinel, .sentinel, .sentinel, .sentinel, .sentinel, .pinned], laidTests := true, laidLooks := .later }
def FramesPlayCardSaid : Prop := Claim7.holds Tryz.pinned (.plain (OpenSpec.ofChange framesPlaySpec)) framesPlayCard

/-- THE SECOND FORM's CARD OF 'overdrivelaw13.FramesPlay'. -/
def framesPlayUptoCard : Claim7 := { stood := { row := framesPlayUptoRow, standIns := [], harness := (true, "3dc74b27eb8694c3e994dc1cc4762770c90a199a68d0a4cc22530f42a1f2bd98"), looks := true }, kinds := [], alts := [], laidByText := true, laidKinds := [.data, .sentinel, .sentinel, .sentinel, .sentinel, .sentinel, .sentinel, .sentinel, .sentinel, .sentinel, .sentinel, .sentinel, .sentinel, .sentinel, .sentinel, .pinned], laidTests := true, laidLooks := .later }
def FramesPlayUptoCardSaid : Prop := Claim7.holds Tryz.pinned (.plain (OpenSpec.upto framesPlaySpec)) framesPlayUptoCard
end Rows
end Go.Proofs.YtopojeanbpokaaaGreatDoor
