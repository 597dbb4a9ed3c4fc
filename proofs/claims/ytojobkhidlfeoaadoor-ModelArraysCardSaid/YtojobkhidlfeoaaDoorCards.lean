/-
  DERIVED. GIVEN WITH THE SEED: THE CARDS: each row of YtojobkhidlfeoaaDoorRows.lean that lists a variable, with what it lists TIED to the program's text (the seventh form; the later family's looks); each row that meets fmt, with fmt's text TOLD by the authors' own Lean function (tested against real Go, not proved from fmt's source: count such statements apart). THE CARD IS WHAT COUNTS. Prove the row's statement (the work); the ties are given (YtojobkhidlfeoaaDoorTie.lean); close each card by the builder's one call (the guide's Derived/Test/ToyasCard.lean, 'card_holds'). Laid BY PROGRAM, IN A SANDBOX (cutbox-door.mjs). By AI agents, Wed Nov 11 2026. No macro, syntax, notation, axiom, sorry.
-/
import Derived.Test.YtojobkhidlfeoaaDoorRows
import GoSem.ClaimSeven
namespace Go.Proofs.YtojobkhidlfeoaaDoor
namespace Rows

/-- THE TIED CARD OF 'overdrivelaw9.ModelEchoes'. -/
def modelEchoesCard : Claim7 := { stood := { row := modelEchoesRow, standIns := [], harness := (true, "1aca56638b3d7e1415af9e4164de16d6a34a63bd5a5c447f9d8e542bd87d9ed6"), looks := false }, kinds := [], alts := [], laidByText := true, laidKinds := [.data, .sentinel, .sentinel, .sentinel, .sentinel, .sentinel, .sentinel, .sentinel, .sentinel, .pinned], laidTests := true, laidLooks := .later }
def ModelEchoesCardSaid : Prop := Claim7.holds Tryd.pinned (.plain (OpenSpec.ofChange modelEchoesSpec)) modelEchoesCard

/-- THE TIED CARD OF 'overdrivelaw9.ModelArrays'. -/
def modelArraysCard : Claim7 := { stood := { row := modelArraysRow, standIns := [], harness := (true, "1aca56638b3d7e1415af9e4164de16d6a34a63bd5a5c447f9d8e542bd87d9ed6"), looks := false }, kinds := [], alts := [], laidByText := true, laidKinds := [.data, .sentinel, .sentinel, .sentinel, .sentinel, .sentinel, .sentinel, .sentinel, .sentinel, .pinned], laidTests := true, laidLooks := .later }
def ModelArraysCardSaid : Prop := Claim7.holds Tryd.pinned (.plain (OpenSpec.ofChange modelArraysSpec)) modelArraysCard

/-- THE SECOND FORM's CARD OF 'overdrivelaw9.ModelEchoes'. -/
def modelEchoesUptoCard : Claim7 := { stood := { row := modelEchoesUptoRow, standIns := [], harness := (true, "1aca56638b3d7e1415af9e4164de16d6a34a63bd5a5c447f9d8e542bd87d9ed6"), looks := false }, kinds := [], alts := [], laidByText := true, laidKinds := [.data, .sentinel, .sentinel, .sentinel, .sentinel, .sentinel, .sentinel, .sentinel, .sentinel, .pinned], laidTests := true, laidLooks := .later }
def ModelEchoesUptoCardSaid : Prop := Claim7.holds Tryd.pinned (.plain (OpenSpec.upto modelEchoesSpec)) modelEchoesUptoCard

/-- THE SECOND FORM's CARD OF 'overdrivelaw9.ModelArrays'. -/
def modelArraysUptoCard : Claim7 := { stood := { row := modelArraysUptoRow, standIns := [], harness := (true, "1aca56638b3d7e1415af9e4164de16d6a34a63bd5a5c447f9d8e542bd87d9ed6"), looks := false }, kinds := [], alts := [], laidByText := true, laidKinds := [.data, .sentinel, .sentinel, .sentinel, .sentinel, .sentinel, .sentinel, .sentinel, .sentinel, .pinned], laidTests := true, laidLooks := .later }
def ModelArraysUptoCardSaid : Prop := Claim7.holds Tryd.pinned (.plain (OpenSpec.upto modelArraysSpec)) modelArraysUptoCard
end Rows
end Go.Proofs.YtojobkhidlfeoaaDoor
