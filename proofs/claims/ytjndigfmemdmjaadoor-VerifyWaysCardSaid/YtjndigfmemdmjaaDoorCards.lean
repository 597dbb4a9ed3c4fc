/-
  DERIVED. GIVEN WITH THE SEED: THE CARDS: each row of YtjndigfmemdmjaaDoorRows.lean that lists a variable, with what it lists TIED to the program's text (the seventh form; the later family's looks); each row that meets fmt, with fmt's text TOLD by the authors' own Lean function (tested against real Go, not proved from fmt's source: count such statements apart). THE CARD IS WHAT COUNTS. Prove the row's statement (the work); the ties are given (YtjndigfmemdmjaaDoorTie.lean); close each card by the builder's one call (the guide's Derived/Test/ToyasCard.lean, 'card_holds'). Laid BY PROGRAM, IN A SANDBOX (cutbox-door.mjs). By AI agents, Wed Nov 11 2026. No macro, syntax, notation, axiom, sorry.
-/
import Derived.Test.YtjndigfmemdmjaaDoorRows
import GoSem.ClaimSeven
namespace Go.Proofs.YtjndigfmemdmjaaDoor
namespace Rows

/-- THE TIED CARD OF 'overdrivelaw7.VerifyWays'. -/
def verifyWaysCard : Claim7 := { stood := { row := verifyWaysRow, standIns := [], harness := (true, "4c0ddb8d8012234390c074d1ecbfac091d16f5793232b864b49bd5a59116ec11"), looks := true }, kinds := [], alts := [], laidByText := true, laidKinds := [.data, .sentinel, .sentinel, .sentinel, .sentinel, .sentinel, .sentinel, .sentinel, .sentinel, .sentinel, .sentinel, .sentinel, .sentinel, .sentinel, .sentinel, .pinned], laidTests := true, laidLooks := .later }
def VerifyWaysCardSaid : Prop := Claim7.holds Tryd.pinned (.plain (OpenSpec.ofChange verifyWaysSpec)) verifyWaysCard

/-- THE TIED CARD OF 'overdrivelaw7.VerifyOne'. -/
def verifyOneCard : Claim7 := { stood := { row := verifyOneRow, standIns := [], harness := (true, "4c0ddb8d8012234390c074d1ecbfac091d16f5793232b864b49bd5a59116ec11"), looks := true }, kinds := [], alts := [], laidByText := true, laidKinds := [.data, .sentinel, .sentinel, .sentinel, .sentinel, .sentinel, .sentinel, .sentinel, .sentinel, .sentinel, .sentinel, .sentinel, .sentinel, .sentinel, .sentinel, .pinned], laidTests := true, laidLooks := .later }
def VerifyOneCardSaid : Prop := Claim7.holds Tryd.pinned (.plain (OpenSpec.ofChange verifyOneSpec)) verifyOneCard

/-- THE TIED CARD OF 'overdrivelaw7.VerifyHigh'. -/
def verifyHighCard : Claim7 := { stood := { row := verifyHighRow, standIns := [], harness := (true, "4c0ddb8d8012234390c074d1ecbfac091d16f5793232b864b49bd5a59116ec11"), looks := true }, kinds := [], alts := [], laidByText := true, laidKinds := [.data, .sentinel, .sentinel, .sentinel, .sentinel, .sentinel, .sentinel, .sentinel, .sentinel, .sentinel, .sentinel, .sentinel, .sentinel, .sentinel, .sentinel, .pinned], laidTests := true, laidLooks := .later }
def VerifyHighCardSaid : Prop := Claim7.holds Tryd.pinned (.plain (OpenSpec.ofChange verifyHighSpec)) verifyHighCard

/-- THE TIED CARD OF 'overdrivelaw7.VerifyMeets'. -/
def verifyMeetsCard : Claim7 := { stood := { row := verifyMeetsRow, standIns := [], harness := (true, "4c0ddb8d8012234390c074d1ecbfac091d16f5793232b864b49bd5a59116ec11"), looks := true }, kinds := [], alts := [], laidByText := true, laidKinds := [.data, .sentinel, .sentinel, .sentinel, .sentinel, .sentinel, .sentinel, .sentinel, .sentinel, .sentinel, .sentinel, .sentinel, .sentinel, .sentinel, .sentinel, .pinned], laidTests := true, laidLooks := .later }
def VerifyMeetsCardSaid : Prop := Claim7.holds Tryd.pinned (.plain (OpenSpec.ofChange verifyMeetsSpec)) verifyMeetsCard

/-- THE TIED CARD OF 'overdrivelaw7.VerifyFalls'. -/
def verifyFallsCard : Claim7 := { stood := { row := verifyFallsRow, standIns := [], harness := (true, "4c0ddb8d8012234390c074d1ecbfac091d16f5793232b864b49bd5a59116ec11"), looks := true }, kinds := [], alts := [], laidByText := true, laidKinds := [.data, .sentinel, .sentinel, .sentinel, .sentinel, .sentinel, .sentinel, .sentinel, .sentinel, .sentinel, .sentinel, .sentinel, .sentinel, .sentinel, .sentinel, .pinned], laidTests := true, laidLooks := .later }
def VerifyFallsCardSaid : Prop := Claim7.holds Tryd.pinned (.plain (OpenSpec.ofChange verifyFallsSpec)) verifyFallsCard

/-- THE TIED CARD OF 'overdrivelaw7.VerifyRefs'. -/
def verifyRefsCard : Claim7 := { stood := { row := verifyRefsRow, standIns := [], harness := (true, "4c0ddb8d8012234390c074d1ecbfac091d16f5793232b864b49bd5a59116ec11"), looks := true }, kinds := [], alts := [], laidByText := true, laidKinds := [.data, .sentinel, .sentinel, .sentinel, .sentinel, .sentinel, .sentinel, .sentinel, .sentinel, .sentinel, .sentinel, .sentinel, .sentinel, .sentinel, .sentinel, .pinned], laidTests := true, laidLooks := .later }
def VerifyRefsCardSaid : Prop := Claim7.holds Tryd.pinned (.plain (OpenSpec.ofChange verifyRefsSpec)) verifyRefsCard

/-- THE SECOND FORM's CARD OF 'overdrivelaw7.VerifyWays'. -/
def verifyWaysUptoCard : Claim7 := { stood := { row := verifyWaysUptoRow, standIns := [], harness := (true, "4c0ddb8d8012234390c074d1ecbfac091d16f5793232b864b49bd5a59116ec11"), looks := true }, kinds := [], alts := [], laidByText := true, laidKinds := [.data, .sentinel, .sentinel, .sentinel, .sentinel, .sentinel, .sentinel, .sentinel, .sentinel, .sentinel, .sentinel, .sentinel, .sentinel, .sentinel, .sentinel, .pinned], laidTests := true, laidLooks := .later }
def VerifyWaysUptoCardSaid : Prop := Claim7.holds Tryd.pinned (.plain (OpenSpec.upto verifyWaysSpec)) verifyWaysUptoCard

/-- THE SECOND FORM's CARD OF 'overdrivelaw7.VerifyOne'. -/
def verifyOneUptoCard : Claim7 := { stood := { row := verifyOneUptoRow, standIns := [], harness := (true, "4c0ddb8d8012234390c074d1ecbfac091d16f5793232b864b49bd5a59116ec11"), looks := true }, kinds := [], alts := [], laidByText := true, laidKinds := [.data, .sentinel, .sentinel, .sentinel, .sentinel, .sentinel, .sentinel, .sentinel, .sentinel, .sentinel, .sentinel, .sentinel, .sentinel, .sentinel, .sentinel, .pinned], laidTests := true, laidLooks := .later }
def VerifyOneUptoCardSaid : Prop := Claim7.holds Tryd.pinned (.plain (OpenSpec.upto verifyOneSpec)) verifyOneUptoCard

/-- THE SECOND FORM's CARD OF 'overdrivelaw7.VerifyHigh'. -/
def verifyHighUptoCard : Claim7 := { stood := { row := verifyHighUptoRow, standIns := [], harness := (true, "4c0ddb8d8012234390c074d1ecbfac091d16f5793232b864b49bd5a59116ec11"), looks := true }, kinds := [], alts := [], laidByText := true, laidKinds := [.data, .sentinel, .sentinel, .sentinel, .sentinel, .sentinel, .sentinel, .sentinel, .sentinel, .sentinel, .sentinel, .sentinel, .sentinel, .sentinel, .sentinel, .pinned], laidTests := true, laidLooks := .later }
def VerifyHighUptoCardSaid : Prop := Claim7.holds Tryd.pinned (.plain (OpenSpec.upto verifyHighSpec)) verifyHighUptoCard

/-- THE SECOND FORM's CARD OF 'overdrivelaw7.VerifyMeets'. -/
def verifyMeetsUptoCard : Claim7 := { stood := { row := verifyMeetsUptoRow, standIns := [], harness := (true, "4c0ddb8d8012234390c074d1ecbfac091d16f5793232b864b49bd5a59116ec11"), looks := true }, kinds := [], alts := [], laidByText := true, laidKinds := [.data, .sentinel, .sentinel, .sentinel, .sentinel, .sentinel, .sentinel, .sentinel, .sentinel, .sentinel, .sentinel, .sentinel, .sentinel, .sentinel, .sentinel, .pinned], laidTests := true, laidLooks := .later }
def VerifyMeetsUptoCardSaid : Prop := Claim7.holds Tryd.pinned (.plain (OpenSpec.upto verifyMeetsSpec)) verifyMeetsUptoCard

/-- THE SECOND FORM's CARD OF 'overdrivelaw7.VerifyFalls'. -/
def verifyFallsUptoCard : Claim7 := { stood := { row := verifyFallsUptoRow, standIns := [], harness := (true, "4c0ddb8d8012234390c074d1ecbfac091d16f5793232b864b49bd5a59116ec11"), looks := true }, kinds := [], alts := [], laidByText := true, laidKinds := [.data, .sentinel, .sentinel, .sentinel, .sentinel, .sentinel, .sentinel, .sentinel, .sentinel, .sentinel, .sentinel, .sentinel, .sentinel, .sentinel, .sentinel, .pinned], laidTests := true, laidLooks := .later }
def VerifyFallsUptoCardSaid : Prop := Claim7.holds Tryd.pinned (.plain (OpenSpec.upto verifyFallsSpec)) verifyFallsUptoCard

/-- THE SECOND FORM's CARD OF 'overdrivelaw7.VerifyRefs'. -/
def verifyRefsUptoCard : Claim7 := { stood := { row := verifyRefsUptoRow, standIns := [], harness := (true, "4c0ddb8d8012234390c074d1ecbfac091d16f5793232b864b49bd5a59116ec11"), looks := true }, kinds := [], alts := [], laidByText := true, laidKinds := [.data, .sentinel, .sentinel, .sentinel, .sentinel, .sentinel, .sentinel, .sentinel, .sentinel, .sentinel, .sentinel, .sentinel, .sentinel, .sentinel, .sentinel, .pinned], laidTests := true, laidLooks := .later }
def VerifyRefsUptoCardSaid : Prop := Claim7.holds Tryd.pinned (.plain (OpenSpec.upto verifyRefsSpec)) verifyRefsUptoCard
end Rows
end Go.Proofs.YtjndigfmemdmjaaDoor
