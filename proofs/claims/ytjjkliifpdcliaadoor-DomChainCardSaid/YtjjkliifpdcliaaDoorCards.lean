/-
  DERIVED. GIVEN WITH THE SEED: THE CARDS: each row of YtjjkliifpdcliaaDoorRows.lean that lists a variable, with what it lists TIED to the program's text (the seventh form; the later family's looks); each row that meets fmt, with fmt's text TOLD by the authors' own Lean function (tested against real Go, not proved from fmt's source: count such statements apart). THE CARD IS WHAT COUNTS. Prove the row's statement (the work); the ties are given (YtjjkliifpdcliaaDoorTie.lean); close each card by the builder's one call (the guide's Derived/Test/ToyasCard.lean, 'card_holds'). Laid BY PROGRAM, IN A SANDBOX (cutbox-door.mjs). By AI agents, Wed Nov 11 2026. No macro, syntax, notation, axiom, sorry.
-/
import Derived.Test.YtjjkliifpdcliaaDoorRows
import GoSem.ClaimSeven
namespace Go.Proofs.YtjjkliifpdcliaaDoor
namespace Rows

/-- THE TIED CARD OF 'overdrivelaw6.DomCuts'. -/
def domCutsCard : Claim7 := { stood := { row := domCutsRow, standIns := [], harness := (true, "0e1d9f32c439f1c273fdfc731a848ea831e74e92d914679b421119308905bdf8"), looks := false }, kinds := [], alts := [], laidByText := true, laidKinds := [.data], laidTests := true, laidLooks := .later }
def DomCutsCardSaid : Prop := Claim7.holds Tryd.pinned (.plain (OpenSpec.ofChange domCutsSpec)) domCutsCard

/-- THE TIED CARD OF 'overdrivelaw6.DomJoins'. -/
def domJoinsCard : Claim7 := { stood := { row := domJoinsRow, standIns := [], harness := (true, "0e1d9f32c439f1c273fdfc731a848ea831e74e92d914679b421119308905bdf8"), looks := false }, kinds := [], alts := [], laidByText := true, laidKinds := [.data], laidTests := true, laidLooks := .later }
def DomJoinsCardSaid : Prop := Claim7.holds Tryd.pinned (.plain (OpenSpec.ofChange domJoinsSpec)) domJoinsCard

/-- THE TIED CARD OF 'overdrivelaw6.DomChain'. -/
def domChainCard : Claim7 := { stood := { row := domChainRow, standIns := [], harness := (true, "0e1d9f32c439f1c273fdfc731a848ea831e74e92d914679b421119308905bdf8"), looks := false }, kinds := [], alts := [], laidByText := true, laidKinds := [.data], laidTests := true, laidLooks := .later }
def DomChainCardSaid : Prop := Claim7.holds Tryd.pinned (.plain (OpenSpec.ofChange domChainSpec)) domChainCard

/-- THE TIED CARD OF 'overdrivelaw6.DomTree'. -/
def domTreeCard : Claim7 := { stood := { row := domTreeRow, standIns := [], harness := (true, "0e1d9f32c439f1c273fdfc731a848ea831e74e92d914679b421119308905bdf8"), looks := false }, kinds := [], alts := [], laidByText := true, laidKinds := [.data], laidTests := true, laidLooks := .later }
def DomTreeCardSaid : Prop := Claim7.holds Tryd.pinned (.plain (OpenSpec.ofChange domTreeSpec)) domTreeCard

/-- THE TIED CARD OF 'overdrivelaw6.DomSays'. -/
def domSaysCard : Claim7 := { stood := { row := domSaysRow, standIns := [], harness := (true, "0e1d9f32c439f1c273fdfc731a848ea831e74e92d914679b421119308905bdf8"), looks := false }, kinds := [], alts := [], laidByText := true, laidKinds := [.data], laidTests := true, laidLooks := .later }
def DomSaysCardSaid : Prop := Claim7.holds Tryd.pinned (.plain (OpenSpec.ofChange domSaysSpec)) domSaysCard

/-- THE SECOND FORM's CARD OF 'overdrivelaw6.DomCuts'. -/
def domCutsUptoCard : Claim7 := { stood := { row := domCutsUptoRow, standIns := [], harness := (true, "0e1d9f32c439f1c273fdfc731a848ea831e74e92d914679b421119308905bdf8"), looks := false }, kinds := [], alts := [], laidByText := true, laidKinds := [.data], laidTests := true, laidLooks := .later }
def DomCutsUptoCardSaid : Prop := Claim7.holds Tryd.pinned (.plain (OpenSpec.upto domCutsSpec)) domCutsUptoCard

/-- THE SECOND FORM's CARD OF 'overdrivelaw6.DomJoins'. -/
def domJoinsUptoCard : Claim7 := { stood := { row := domJoinsUptoRow, standIns := [], harness := (true, "0e1d9f32c439f1c273fdfc731a848ea831e74e92d914679b421119308905bdf8"), looks := false }, kinds := [], alts := [], laidByText := true, laidKinds := [.data], laidTests := true, laidLooks := .later }
def DomJoinsUptoCardSaid : Prop := Claim7.holds Tryd.pinned (.plain (OpenSpec.upto domJoinsSpec)) domJoinsUptoCard

/-- THE SECOND FORM's CARD OF 'overdrivelaw6.DomChain'. -/
def domChainUptoCard : Claim7 := { stood := { row := domChainUptoRow, standIns := [], harness := (true, "0e1d9f32c439f1c273fdfc731a848ea831e74e92d914679b421119308905bdf8"), looks := false }, kinds := [], alts := [], laidByText := true, laidKinds := [.data], laidTests := true, laidLooks := .later }
def DomChainUptoCardSaid : Prop := Claim7.holds Tryd.pinned (.plain (OpenSpec.upto domChainSpec)) domChainUptoCard

/-- THE SECOND FORM's CARD OF 'overdrivelaw6.DomTree'. -/
def domTreeUptoCard : Claim7 := { stood := { row := domTreeUptoRow, standIns := [], harness := (true, "0e1d9f32c439f1c273fdfc731a848ea831e74e92d914679b421119308905bdf8"), looks := false }, kinds := [], alts := [], laidByText := true, laidKinds := [.data], laidTests := true, laidLooks := .later }
def DomTreeUptoCardSaid : Prop := Claim7.holds Tryd.pinned (.plain (OpenSpec.upto domTreeSpec)) domTreeUptoCard

/-- THE SECOND FORM's CARD OF 'overdrivelaw6.DomSays'. -/
def domSaysUptoCard : Claim7 := { stood := { row := domSaysUptoRow, standIns := [], harness := (true, "0e1d9f32c439f1c273fdfc731a848ea831e74e92d914679b421119308905bdf8"), looks := false }, kinds := [], alts := [], laidByText := true, laidKinds := [.data], laidTests := true, laidLooks := .later }
def DomSaysUptoCardSaid : Prop := Claim7.holds Tryd.pinned (.plain (OpenSpec.upto domSaysSpec)) domSaysUptoCard
end Rows
end Go.Proofs.YtjjkliifpdcliaaDoor
