/-
  DERIVED. GIVEN WITH THE SEED: THE CARDS: each row of YtagjchgpcekmnaaDoorRows.lean that lists a variable, with what it lists TIED to the program's text (the seventh form; the later family's looks); each row that meets fmt, with fmt's text TOLD by the authors' own Lean function (tested against real Go, not proved from fmt's source: count such statements apart). THE CARD IS WHAT COUNTS. Prove the row's statement (the work); the ties are given (YtagjchgpcekmnaaDoorTie.lean); close each card by the builder's one call (the guide's Derived/Test/ToyasCard.lean, 'card_holds'). Laid BY PROGRAM, IN A SANDBOX (cutbox-door.mjs). By AI agents, Wed Nov 11 2026. No macro, syntax, notation, axiom, sorry.
-/
import Derived.Test.YtagjchgpcekmnaaDoorRows
import GoSem.ClaimSeven
namespace Go.Proofs.YtagjchgpcekmnaaDoor
namespace Rows

/-- THE TIED CARD OF 'overdrivelaw5.FlowBlocks'. -/
def flowBlocksCard : Claim7 := { stood := { row := flowBlocksRow, standIns := [], harness := (true, "3c3577b283d694f93248638625694895fb472314b9d165af01fdbc6e43db0017"), looks := false }, kinds := [], alts := [], laidByText := true, laidKinds := [.data], laidTests := true, laidLooks := .later }
def FlowBlocksCardSaid : Prop := Claim7.holds Tryd.pinned (.plain (OpenSpec.ofChange flowBlocksSpec)) flowBlocksCard

/-- THE TIED CARD OF 'overdrivelaw5.FlowCover'. -/
def flowCoverCard : Claim7 := { stood := { row := flowCoverRow, standIns := [], harness := (true, "3c3577b283d694f93248638625694895fb472314b9d165af01fdbc6e43db0017"), looks := false }, kinds := [], alts := [], laidByText := true, laidKinds := [.data], laidTests := true, laidLooks := .later }
def FlowCoverCardSaid : Prop := Claim7.holds Tryd.pinned (.plain (OpenSpec.ofChange flowCoverSpec)) flowCoverCard

/-- THE TIED CARD OF 'overdrivelaw5.FlowChain'. -/
def flowChainCard : Claim7 := { stood := { row := flowChainRow, standIns := [], harness := (true, "3c3577b283d694f93248638625694895fb472314b9d165af01fdbc6e43db0017"), looks := false }, kinds := [], alts := [], laidByText := true, laidKinds := [.data], laidTests := true, laidLooks := .later }
def FlowChainCardSaid : Prop := Claim7.holds Tryd.pinned (.plain (OpenSpec.ofChange flowChainSpec)) flowChainCard

/-- THE TIED CARD OF 'overdrivelaw5.FlowOrders'. -/
def flowOrdersCard : Claim7 := { stood := { row := flowOrdersRow, standIns := [], harness := (true, "3c3577b283d694f93248638625694895fb472314b9d165af01fdbc6e43db0017"), looks := false }, kinds := [], alts := [], laidByText := true, laidKinds := [.data], laidTests := true, laidLooks := .later }
def FlowOrdersCardSaid : Prop := Claim7.holds Tryd.pinned (.plain (OpenSpec.ofChange flowOrdersSpec)) flowOrdersCard

/-- THE TIED CARD OF 'overdrivelaw5.FlowTurned'. -/
def flowTurnedCard : Claim7 := { stood := { row := flowTurnedRow, standIns := [], harness := (true, "3c3577b283d694f93248638625694895fb472314b9d165af01fdbc6e43db0017"), looks := false }, kinds := [], alts := [], laidByText := true, laidKinds := [.data], laidTests := true, laidLooks := .later }
def FlowTurnedCardSaid : Prop := Claim7.holds Tryd.pinned (.plain (OpenSpec.ofChange flowTurnedSpec)) flowTurnedCard

/-- THE TIED CARD OF 'overdrivelaw5.FlowGraphs'. -/
def flowGraphsCard : Claim7 := { stood := { row := flowGraphsRow, standIns := [], harness := (true, "3c3577b283d694f93248638625694895fb472314b9d165af01fdbc6e43db0017"), looks := false }, kinds := [], alts := [], laidByText := true, laidKinds := [.data], laidTests := true, laidLooks := .later }
def FlowGraphsCardSaid : Prop := Claim7.holds Tryd.pinned (.plain (OpenSpec.ofChange flowGraphsSpec)) flowGraphsCard

/-- THE SECOND FORM's CARD OF 'overdrivelaw5.FlowBlocks'. -/
def flowBlocksUptoCard : Claim7 := { stood := { row := flowBlocksUptoRow, standIns := [], harness := (true, "3c3577b283d694f93248638625694895fb472314b9d165af01fdbc6e43db0017"), looks := false }, kinds := [], alts := [], laidByText := true, laidKinds := [.data], laidTests := true, laidLooks := .later }
def FlowBlocksUptoCardSaid : Prop := Claim7.holds Tryd.pinned (.plain (OpenSpec.upto flowBlocksSpec)) flowBlocksUptoCard

/-- THE SECOND FORM's CARD OF 'overdrivelaw5.FlowCover'. -/
def flowCoverUptoCard : Claim7 := { stood := { row := flowCoverUptoRow, standIns := [], harness := (true, "3c3577b283d694f93248638625694895fb472314b9d165af01fdbc6e43db0017"), looks := false }, kinds := [], alts := [], laidByText := true, laidKinds := [.data], laidTests := true, laidLooks := .later }
def FlowCoverUptoCardSaid : Prop := Claim7.holds Tryd.pinned (.plain (OpenSpec.upto flowCoverSpec)) flowCoverUptoCard

/-- THE SECOND FORM's CARD OF 'overdrivelaw5.FlowChain'. -/
def flowChainUptoCard : Claim7 := { stood := { row := flowChainUptoRow, standIns := [], harness := (true, "3c3577b283d694f93248638625694895fb472314b9d165af01fdbc6e43db0017"), looks := false }, kinds := [], alts := [], laidByText := true, laidKinds := [.data], laidTests := true, laidLooks := .later }
def FlowChainUptoCardSaid : Prop := Claim7.holds Tryd.pinned (.plain (OpenSpec.upto flowChainSpec)) flowChainUptoCard

/-- THE SECOND FORM's CARD OF 'overdrivelaw5.FlowOrders'. -/
def flowOrdersUptoCard : Claim7 := { stood := { row := flowOrdersUptoRow, standIns := [], harness := (true, "3c3577b283d694f93248638625694895fb472314b9d165af01fdbc6e43db0017"), looks := false }, kinds := [], alts := [], laidByText := true, laidKinds := [.data], laidTests := true, laidLooks := .later }
def FlowOrdersUptoCardSaid : Prop := Claim7.holds Tryd.pinned (.plain (OpenSpec.upto flowOrdersSpec)) flowOrdersUptoCard

/-- THE SECOND FORM's CARD OF 'overdrivelaw5.FlowTurned'. -/
def flowTurnedUptoCard : Claim7 := { stood := { row := flowTurnedUptoRow, standIns := [], harness := (true, "3c3577b283d694f93248638625694895fb472314b9d165af01fdbc6e43db0017"), looks := false }, kinds := [], alts := [], laidByText := true, laidKinds := [.data], laidTests := true, laidLooks := .later }
def FlowTurnedUptoCardSaid : Prop := Claim7.holds Tryd.pinned (.plain (OpenSpec.upto flowTurnedSpec)) flowTurnedUptoCard

/-- THE SECOND FORM's CARD OF 'overdrivelaw5.FlowGraphs'. -/
def flowGraphsUptoCard : Claim7 := { stood := { row := flowGraphsUptoRow, standIns := [], harness := (true, "3c3577b283d694f93248638625694895fb472314b9d165af01fdbc6e43db0017"), looks := false }, kinds := [], alts := [], laidByText := true, laidKinds := [.data], laidTests := true, laidLooks := .later }
def FlowGraphsUptoCardSaid : Prop := Claim7.holds Tryd.pinned (.plain (OpenSpec.upto flowGraphsSpec)) flowGraphsUptoCard
end Rows
end Go.Proofs.YtagjchgpcekmnaaDoor
