/-
  DERIVED. GIVEN WITH THE SEED: THE CARDS: each row of YtpmfbhoochogoaaDoorRows.lean that lists a variable, with what it lists TIED to the program's text (the seventh form; the later family's looks); each row that meets fmt, with fmt's text TOLD by the authors' own Lean function (tested against real Go, not proved from fmt's source: count such statements apart). THE CARD IS WHAT COUNTS. Prove the row's statement (the work); the ties are given (YtpmfbhoochogoaaDoorTie.lean); close each card by the builder's one call (the guide's Derived/Test/ToyasCard.lean, 'card_holds'). Laid BY PROGRAM, IN A SANDBOX (cutbox-door.mjs). By AI agents, Wed Nov 11 2026. No macro, syntax, notation, axiom, sorry.
-/
import Derived.Test.YtpmfbhoochogoaaDoorRows
import GoSem.ClaimSeven
namespace Go.Proofs.YtpmfbhoochogoaaDoor
namespace Rows

/-- THE TIED CARD OF 'overdrivelaw7.VerifyOne'. -/
def verifyOneCard : Claim7 := { stood := { row := verifyOneRow, standIns := [], harness := (true, "b2b8d92a95e10d29d522aa5f6252253141cb7b246cae8ff9acf3f8a62fc81758"), looks := true }, kinds := [], alts := [], laidByText := true, laidKinds := [.data, .sentinel, .sentinel, .sentinel, .sentinel, .sentinel, .sentinel, .sentinel, .sentinel, .sentinel, .sentinel, .sentinel, .sentinel, .sentinel, .sentinel, .pinned], laidTests := true, laidLooks := .later }
def VerifyOneCardSaid : Prop := Claim7.holds Tryd.pinned (.plain (OpenSpec.ofChange verifyOneSpec)) verifyOneCard

/-- THE TIED CARD OF 'overdrivelaw7.VerifyRefs'. -/
def verifyRefsCard : Claim7 := { stood := { row := verifyRefsRow, standIns := [], harness := (true, "b2b8d92a95e10d29d522aa5f6252253141cb7b246cae8ff9acf3f8a62fc81758"), looks := true }, kinds := [], alts := [], laidByText := true, laidKinds := [.data, .sentinel, .sentinel, .sentinel, .sentinel, .sentinel, .sentinel, .sentinel, .sentinel, .sentinel, .sentinel, .sentinel, .sentinel, .sentinel, .sentinel, .pinned], laidTests := true, laidLooks := .later }
def VerifyRefsCardSaid : Prop := Claim7.holds Tryd.pinned (.plain (OpenSpec.ofChange verifyRefsSpec)) verifyRefsCard

/-- THE TIED CARD OF 'overdrivelaw13.FramesStacks'. -/
def framesStacksCard : Claim7 := { stood := { row := framesStacksRow, standIns := [], harness := (true, "b2b8d92a95e10d29d522aa5f6252253141cb7b246cae8ff9acf3f8a62fc81758"), looks := true }, kinds := [], alts := [], laidByText := true, laidKinds := [.data, .sentinel, .sentinel, .sentinel, .sentinel, .sentinel, .sentinel, .sentinel, .sentinel, .sentinel, .sentinel, .pinned], laidTests := true, laidLooks := .later }
def FramesStacksCardSaid : Prop := Claim7.holds Tryd.pinned (.plain (OpenSpec.ofChange framesStacksSpec)) framesStacksCard

/-- THE SECOND FORM's CARD OF 'overdrivelaw7.VerifyOne'. -/
def verifyOneUptoCard : Claim7 := { stood := { row := verifyOneUptoRow, standIns := [], harness := (true, "b2b8d92a95e10d29d522aa5f6252253141cb7b246cae8ff9acf3f8a62fc81758"), looks := true }, kinds := [], alts := [], laidByText := true, laidKinds := [.data, .sentinel, .sentinel, .sentinel, .sentinel, .sentinel, .sentinel, .sentinel, .sentinel, .sentinel, .sentinel, .sentinel, .sentinel, .sentinel, .sentinel, .pinned], laidTests := true, laidLooks := .later }
def VerifyOneUptoCardSaid : Prop := Claim7.holds Tryd.pinned (.plain (OpenSpec.upto verifyOneSpec)) verifyOneUptoCard

/-- THE SECOND FORM's CARD OF 'overdrivelaw7.VerifyRefs'. -/
def verifyRefsUptoCard : Claim7 := { stood := { row := verifyRefsUptoRow, standIns := [], harness := (true, "b2b8d92a95e10d29d522aa5f6252253141cb7b246cae8ff9acf3f8a62fc81758"), looks := true }, kinds := [], alts := [], laidByText := true, laidKinds := [.data, .sentinel, .sentinel, .sentinel, .sentinel, .sentinel, .sentinel, .sentinel, .sentinel, .sentinel, .sentinel, .sentinel, .sentinel, .sentinel, .sentinel, .pinned], laidTests := true, laidLooks := .later }
def VerifyRefsUptoCardSaid : Prop := Claim7.holds Tryd.pinned (.plain (OpenSpec.upto verifyRefsSpec)) verifyRefsUptoCard

/-- THE SECOND FORM's CARD OF 'overdrivelaw13.FramesStacks'. -/
def framesStacksUptoCard : Claim7 := { stood := { row := framesStacksUptoRow, standIns := [], harness := (true, "b2b8d92a95e10d29d522aa5f6252253141cb7b246cae8ff9acf3f8a62fc81758"), looks := true }, kinds := [], alts := [], laidByText := true, laidKinds := [.data, .sentinel, .sentinel, .sentinel, .sentinel, .sentinel, .sentinel, .sentinel, .sentinel, .sentinel, .sentinel, .pinned], laidTests := true, laidLooks := .later }
def FramesStacksUptoCardSaid : Prop := Claim7.holds Tryd.pinned (.plain (OpenSpec.upto framesStacksSpec)) framesStacksUptoCard
end Rows
end Go.Proofs.YtpmfbhoochogoaaDoor
