/-
  DERIVED. GIVEN WITH THE SEED: THE CARDS: each row of YtpkdijbmomkdeaaGreatDoorRows.lean that lists a variable, with what it lists TIED to the program's text (the seventh form; the later family's looks); each row that meets fmt, with fmt's text TOLD by the authors' own Lean function (tested against real Go, not proved from fmt's source: count such statements apart). THE CARD IS WHAT COUNTS. Prove the row's statement (the work); the ties are given (YtpkdijbmomkdeaaGreatDoorTie.lean); close each card by the builder's one call (the guide's Derived/Test/ToyasCard.lean, 'card_holds'). Laid BY PROGRAM, IN A SANDBOX (cutbox-door.mjs). By AI agents, Wed Nov 11 2026. No macro, syntax, notation, axiom, sorry.
-/
import Derived.Test.YtpkdijbmomkdeaaGreatDoorRows
import GoSem.ClaimSeven
namespace Go.Proofs.YtpkdijbmomkdeaaGreatDoor
namespace Rows

/-- THE TIED CARD OF 'overdrivelaw7.VerifySays'. -/
def verifySaysCard : Claim7 := { stood := { row := verifySaysRow, standIns := [], harness := (true, "a173ec0b9e19ccef8a40fccad7e1abecf2f0dd83f254c9012507bbd25dbfa6d3"), looks := true }, kinds := [], alts := [], laidByText := true, laidKinds := [.data, .sentinel, .sentinel, .sentinel, .sentinel, .sentinel, .sentinel, .sentinel, .sentinel, .sentinel, .sentinel, .sentinel, .sentinel, .sentinel, .sentinel, .pinned], laidTests := true, laidLooks := .later }
def VerifySaysCardSaid : Prop := Claim7.holds Tryz.pinned (.plain (OpenSpec.ofChange verifySaysSpec)) verifySaysCard

/-- THE SECOND FORM's CARD OF 'overdrivelaw7.VerifySays'. -/
def verifySaysUptoCard : Claim7 := { stood := { row := verifySaysUptoRow, standIns := [], harness := (true, "a173ec0b9e19ccef8a40fccad7e1abecf2f0dd83f254c9012507bbd25dbfa6d3"), looks := true }, kinds := [], alts := [], laidByText := true, laidKinds := [.data, .sentinel, .sentinel, .sentinel, .sentinel, .sentinel, .sentinel, .sentinel, .sentinel, .sentinel, .sentinel, .sentinel, .sentinel, .sentinel, .sentinel, .pinned], laidTests := true, laidLooks := .later }
def VerifySaysUptoCardSaid : Prop := Claim7.holds Tryz.pinned (.plain (OpenSpec.upto verifySaysSpec)) verifySaysUptoCard
end Rows
end Go.Proofs.YtpkdijbmomkdeaaGreatDoor
