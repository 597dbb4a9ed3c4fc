/-
  DERIVED. GIVEN WITH THE SEED: THE CARDS: each row of YtneeljhjfmcdoaaDoorRows.lean that lists a variable, with what it lists TIED to the program's text (the seventh form; the later family's looks); each row that meets fmt, with fmt's text TOLD by the authors' own Lean function (tested against real Go, not proved from fmt's source: count such statements apart). THE CARD IS WHAT COUNTS. Prove the row's statement (the work); the ties are given (YtneeljhjfmcdoaaDoorTie.lean); close each card by the builder's one call (the guide's Derived/Test/ToyasCard.lean, 'card_holds'). Laid BY PROGRAM, IN A SANDBOX (cutbox-door.mjs). By AI agents, Wed Nov 11 2026. No macro, syntax, notation, axiom, sorry.
-/
import Derived.Test.YtneeljhjfmcdoaaDoorRows
import GoSem.ClaimSeven
namespace Go.Proofs.YtneeljhjfmcdoaaDoor
namespace Rows

/-- THE TIED CARD OF 'overdrivelaw12.GcOwn'. -/
def gcOwnCard : Claim7 := { stood := { row := gcOwnRow, standIns := [], harness := (true, "be5e6b5c0efe9eadfcc3b9a1202cd85377a4a11cd210e6b481c56a95e1172f40"), looks := false }, kinds := [], alts := [], laidByText := true, laidKinds := [.data, .sentinel], laidTests := true, laidLooks := .later }
def GcOwnCardSaid : Prop := Claim7.holds Tryd.pinned (.plain (OpenSpec.ofChange gcOwnSpec)) gcOwnCard

/-- THE TIED CARD OF 'overdrivelaw12.GcChain'. -/
def gcChainCard : Claim7 := { stood := { row := gcChainRow, standIns := [], harness := (true, "be5e6b5c0efe9eadfcc3b9a1202cd85377a4a11cd210e6b481c56a95e1172f40"), looks := false }, kinds := [], alts := [], laidByText := true, laidKinds := [.data, .sentinel], laidTests := true, laidLooks := .later }
def GcChainCardSaid : Prop := Claim7.holds Tryd.pinned (.plain (OpenSpec.ofChange gcChainSpec)) gcChainCard

/-- THE TIED CARD OF 'overdrivelaw12.GcPlays'. -/
def gcPlaysCard : Claim7 := { stood := { row := gcPlaysRow, standIns := [], harness := (true, "be5e6b5c0efe9eadfcc3b9a1202cd85377a4a11cd210e6b481c56a95e1172f40"), looks := false }, kinds := [], alts := [], laidByText := true, laidKinds := [.data, .sentinel], laidTests := true, laidLooks := .later }
def GcPlaysCardSaid : Prop := Claim7.holds Tryd.pinned (.plain (OpenSpec.ofChange gcPlaysSpec)) gcPlaysCard

/-- THE TIED CARD OF 'overdrivelaw12.GcAgain'. -/
def gcAgainCard : Claim7 := { stood := { row := gcAgainRow, standIns := [], harness := (true, "be5e6b5c0efe9eadfcc3b9a1202cd85377a4a11cd210e6b481c56a95e1172f40"), looks := false }, kinds := [], alts := [], laidByText := true, laidKinds := [.data, .sentinel], laidTests := true, laidLooks := .later }
def GcAgainCardSaid : Prop := Claim7.holds Tryd.pinned (.plain (OpenSpec.ofChange gcAgainSpec)) gcAgainCard

/-- THE TIED CARD OF 'overdrivelaw12.GcNone'. -/
def gcNoneCard : Claim7 := { stood := { row := gcNoneRow, standIns := [], harness := (true, "be5e6b5c0efe9eadfcc3b9a1202cd85377a4a11cd210e6b481c56a95e1172f40"), looks := false }, kinds := [], alts := [], laidByText := true, laidKinds := [.data, .sentinel], laidTests := true, laidLooks := .later }
def GcNoneCardSaid : Prop := Claim7.holds Tryd.pinned (.plain (OpenSpec.ofChange gcNoneSpec)) gcNoneCard

/-- THE TIED CARD OF 'overdrivelaw12.GcRoom'. -/
def gcRoomCard : Claim7 := { stood := { row := gcRoomRow, standIns := [], harness := (true, "be5e6b5c0efe9eadfcc3b9a1202cd85377a4a11cd210e6b481c56a95e1172f40"), looks := false }, kinds := [], alts := [], laidByText := true, laidKinds := [.data, .sentinel], laidTests := true, laidLooks := .later }
def GcRoomCardSaid : Prop := Claim7.holds Tryd.pinned (.plain (OpenSpec.ofChange gcRoomSpec)) gcRoomCard

/-- THE SECOND FORM's CARD OF 'overdrivelaw12.GcOwn'. -/
def gcOwnUptoCard : Claim7 := { stood := { row := gcOwnUptoRow, standIns := [], harness := (true, "be5e6b5c0efe9eadfcc3b9a1202cd85377a4a11cd210e6b481c56a95e1172f40"), looks := false }, kinds := [], alts := [], laidByText := true, laidKinds := [.data, .sentinel], laidTests := true, laidLooks := .later }
def GcOwnUptoCardSaid : Prop := Claim7.holds Tryd.pinned (.plain (OpenSpec.upto gcOwnSpec)) gcOwnUptoCard

/-- THE SECOND FORM's CARD OF 'overdrivelaw12.GcChain'. -/
def gcChainUptoCard : Claim7 := { stood := { row := gcChainUptoRow, standIns := [], harness := (true, "be5e6b5c0efe9eadfcc3b9a1202cd85377a4a11cd210e6b481c56a95e1172f40"), looks := false }, kinds := [], alts := [], laidByText := true, laidKinds := [.data, .sentinel], laidTests := true, laidLooks := .later }
def GcChainUptoCardSaid : Prop := Claim7.holds Tryd.pinned (.plain (OpenSpec.upto gcChainSpec)) gcChainUptoCard

/-- THE SECOND FORM's CARD OF 'overdrivelaw12.GcPlays'. -/
def gcPlaysUptoCard : Claim7 := { stood := { row := gcPlaysUptoRow, standIns := [], harness := (true, "be5e6b5c0efe9eadfcc3b9a1202cd85377a4a11cd210e6b481c56a95e1172f40"), looks := false }, kinds := [], alts := [], laidByText := true, laidKinds := [.data, .sentinel], laidTests := true, laidLooks := .later }
def GcPlaysUptoCardSaid : Prop := Claim7.holds Tryd.pinned (.plain (OpenSpec.upto gcPlaysSpec)) gcPlaysUptoCard

/-- THE SECOND FORM's CARD OF 'overdrivelaw12.GcAgain'. -/
def gcAgainUptoCard : Claim7 := { stood := { row := gcAgainUptoRow, standIns := [], harness := (true, "be5e6b5c0efe9eadfcc3b9a1202cd85377a4a11cd210e6b481c56a95e1172f40"), looks := false }, kinds := [], alts := [], laidByText := true, laidKinds := [.data, .sentinel], laidTests := true, laidLooks := .later }
def GcAgainUptoCardSaid : Prop := Claim7.holds Tryd.pinned (.plain (OpenSpec.upto gcAgainSpec)) gcAgainUptoCard

/-- THE SECOND FORM's CARD OF 'overdrivelaw12.GcNone'. -/
def gcNoneUptoCard : Claim7 := { stood := { row := gcNoneUptoRow, standIns := [], harness := (true, "be5e6b5c0efe9eadfcc3b9a1202cd85377a4a11cd210e6b481c56a95e1172f40"), looks := false }, kinds := [], alts := [], laidByText := true, laidKinds := [.data, .sentinel], laidTests := true, laidLooks := .later }
def GcNoneUptoCardSaid : Prop := Claim7.holds Tryd.pinned (.plain (OpenSpec.upto gcNoneSpec)) gcNoneUptoCard

/-- THE SECOND FORM's CARD OF 'overdrivelaw12.GcRoom'. -/
def gcRoomUptoCard : Claim7 := { stood := { row := gcRoomUptoRow, standIns := [], harness := (true, "be5e6b5c0efe9eadfcc3b9a1202cd85377a4a11cd210e6b481c56a95e1172f40"), looks := false }, kinds := [], alts := [], laidByText := true, laidKinds := [.data, .sentinel], laidTests := true, laidLooks := .later }
def GcRoomUptoCardSaid : Prop := Claim7.holds Tryd.pinned (.plain (OpenSpec.upto gcRoomSpec)) gcRoomUptoCard
end Rows
end Go.Proofs.YtneeljhjfmcdoaaDoor
