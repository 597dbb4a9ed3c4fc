/-
  DERIVED. GIVEN WITH THE SEED: THE CARDS: each row of YtlddnpcpioligaaDoorRows.lean that lists a variable, with what it lists TIED to the program's text (the seventh form; the later family's looks); each row that meets fmt, with fmt's text TOLD by the authors' own Lean function (tested against real Go, not proved from fmt's source: count such statements apart). THE CARD IS WHAT COUNTS. Prove the row's statement (the work); the ties are given (YtlddnpcpioligaaDoorTie.lean); close each card by the builder's one call (the guide's Derived/Test/ToyasCard.lean, 'card_holds'). Laid BY PROGRAM, IN A SANDBOX (cutbox-door.mjs). By AI agents, Wed Nov 11 2026. No macro, syntax, notation, axiom, sorry.
-/
import Derived.Test.YtlddnpcpioligaaDoorRows
import GoSem.ClaimSeven
namespace Go.Proofs.YtlddnpcpioligaaDoor
namespace Rows

/-- THE TIED CARD OF 'overdrivelaw10.ArenaSpaces'. -/
def arenaSpacesCard : Claim7 := { stood := { row := arenaSpacesRow, standIns := [], harness := (true, "b0578548f025ae3fd6084d010a1e8dfe8cd462996ec91cf03aa7ec31989f24e4"), looks := true }, kinds := [], alts := [], laidByText := true, laidKinds := [.sentinel], laidTests := true, laidLooks := .later }
def ArenaSpacesCardSaid : Prop := Claim7.holds Tryd.pinned (.plain (OpenSpec.ofChange arenaSpacesSpec)) arenaSpacesCard

/-- THE TIED CARD OF 'overdrivelaw10.ArenaMoves'. -/
def arenaMovesCard : Claim7 := { stood := { row := arenaMovesRow, standIns := [], harness := (true, "b0578548f025ae3fd6084d010a1e8dfe8cd462996ec91cf03aa7ec31989f24e4"), looks := true }, kinds := [], alts := [], laidByText := true, laidKinds := [.sentinel], laidTests := true, laidLooks := .later }
def ArenaMovesCardSaid : Prop := Claim7.holds Tryd.pinned (.plain (OpenSpec.ofChange arenaMovesSpec)) arenaMovesCard

/-- THE TIED CARD OF 'overdrivelaw10.ArenaPlays'. -/
def arenaPlaysCard : Claim7 := { stood := { row := arenaPlaysRow, standIns := [], harness := (true, "b0578548f025ae3fd6084d010a1e8dfe8cd462996ec91cf03aa7ec31989f24e4"), looks := true }, kinds := [], alts := [], laidByText := true, laidKinds := [.sentinel, .sentinel, .sentinel, .sentinel, .sentinel, .sentinel, .sentinel, .sentinel, .sentinel, .sentinel, .sentinel, .sentinel, .sentinel, .sentinel], laidTests := true, laidLooks := .later }
def ArenaPlaysCardSaid : Prop := Claim7.holds Tryd.pinned (.plain (OpenSpec.ofChange arenaPlaysSpec)) arenaPlaysCard

/-- THE TIED CARD OF 'overdrivelaw10.ArenaHeads'. -/
def arenaHeadsCard : Claim7 := { stood := { row := arenaHeadsRow, standIns := [], harness := (true, "b0578548f025ae3fd6084d010a1e8dfe8cd462996ec91cf03aa7ec31989f24e4"), looks := true }, kinds := [], alts := [], laidByText := true, laidKinds := [.sentinel], laidTests := true, laidLooks := .later }
def ArenaHeadsCardSaid : Prop := Claim7.holds Tryd.pinned (.plain (OpenSpec.ofChange arenaHeadsSpec)) arenaHeadsCard

/-- THE SECOND FORM's CARD OF 'overdrivelaw10.ArenaSpaces'. -/
def arenaSpacesUptoCard : Claim7 := { stood := { row := arenaSpacesUptoRow, standIns := [], harness := (true, "b0578548f025ae3fd6084d010a1e8dfe8cd462996ec91cf03aa7ec31989f24e4"), looks := true }, kinds := [], alts := [], laidByText := true, laidKinds := [.sentinel], laidTests := true, laidLooks := .later }
def ArenaSpacesUptoCardSaid : Prop := Claim7.holds Tryd.pinned (.plain (OpenSpec.upto arenaSpacesSpec)) arenaSpacesUptoCard

/-- THE SECOND FORM's CARD OF 'overdrivelaw10.ArenaMoves'. -/
def arenaMovesUptoCard : Claim7 := { stood := { row := arenaMovesUptoRow, standIns := [], harness := (true, "b0578548f025ae3fd6084d010a1e8dfe8cd462996ec91cf03aa7ec31989f24e4"), looks := true }, kinds := [], alts := [], laidByText := true, laidKinds := [.sentinel], laidTests := true, laidLooks := .later }
def ArenaMovesUptoCardSaid : Prop := Claim7.holds Tryd.pinned (.plain (OpenSpec.upto arenaMovesSpec)) arenaMovesUptoCard

/-- THE SECOND FORM's CARD OF 'overdrivelaw10.ArenaPlays'. -/
def arenaPlaysUptoCard : Claim7 := { stood := { row := arenaPlaysUptoRow, standIns := [], harness := (true, "b0578548f025ae3fd6084d010a1e8dfe8cd462996ec91cf03aa7ec31989f24e4"), looks := true }, kinds := [], alts := [], laidByText := true, laidKinds := [.sentinel, .sentinel, .sentinel, .sentinel, .sentinel, .sentinel, .sentinel, .sentinel, .sentinel, .sentinel, .sentinel, .sentinel, .sentinel, .sentinel], laidTests := true, laidLooks := .later }
def ArenaPlaysUptoCardSaid : Prop := Claim7.holds Tryd.pinned (.plain (OpenSpec.upto arenaPlaysSpec)) arenaPlaysUptoCard

/-- THE SECOND FORM's CARD OF 'overdrivelaw10.ArenaHeads'. -/
def arenaHeadsUptoCard : Claim7 := { stood := { row := arenaHeadsUptoRow, standIns := [], harness := (true, "b0578548f025ae3fd6084d010a1e8dfe8cd462996ec91cf03aa7ec31989f24e4"), looks := true }, kinds := [], alts := [], laidByText := true, laidKinds := [.sentinel], laidTests := true, laidLooks := .later }
def ArenaHeadsUptoCardSaid : Prop := Claim7.holds Tryd.pinned (.plain (OpenSpec.upto arenaHeadsSpec)) arenaHeadsUptoCard
end Rows
end Go.Proofs.YtlddnpcpioligaaDoor
