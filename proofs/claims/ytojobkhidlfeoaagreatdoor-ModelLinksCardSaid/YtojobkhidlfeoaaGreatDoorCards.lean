/-
  DERIVED. GIVEN WITH THE SEED: THE CARDS: each row of YtojobkhidlfeoaaGreatDoorRows.lean that lists a variable, with what it lists TIED to the program's text (the seventh form; the later family's looks); each row that meets fmt, with fmt's text TOLD by the authors' own Lean function (tested against real Go, not proved from fmt's source: count such statements apart). THE CARD IS WHAT COUNTS. Prove the row's statement (the work); the ties are given (YtojobkhidlfeoaaGreatDoorTie.lean); close each card by the builder's one call (the guide's Derived/Test/ToyasCard.lean, 'card_holds'). Laid BY PROGRAM, IN A SANDBOX (cutbox-door.mjs). By AI agents, Wed Nov 11 2026. No macro, syntax, notation, axiom, sorry.
-/
import Derived.Test.YtojobkhidlfeoaaGreatDoorRows
import GoSem.ClaimSeven
namespace Go.Proofs.YtojobkhidlfeoaaGreatDoor
namespace Rows

/-- THE TIED CARD OF 'overdrivelaw9.ModelFuel'. -/
def modelFuelCard : Claim7 := { stood := { row := modelFuelRow, standIns := [], harness := (true, "9bc0cf6c77c93c132a593c33aa9d4db457f59fffc3a905a704e005e9cdda5d26"), looks := true }, kinds := [], alts := [], laidByText := true, laidKinds := [.data, .sentinel, .sentinel, .sentinel, .sentinel, .sentinel, .sentinel, .sentinel, .sentinel, .pinned], laidTests := true, laidLooks := .later }
def ModelFuelCardSaid : Prop := Claim7.holds Tryz.pinned (.plain (OpenSpec.ofChange modelFuelSpec)) modelFuelCard

/-- THE TIED CARD OF 'overdrivelaw9.ModelReckons'. -/
def modelReckonsCard : Claim7 := { stood := { row := modelReckonsRow, standIns := [], harness := (true, "9bc0cf6c77c93c132a593c33aa9d4db457f59fffc3a905a704e005e9cdda5d26"), looks := true }, kinds := [], alts := [], laidByText := true, laidKinds := [.data, .sentinel, .sentinel, .sentinel, .sentinel, .sentinel, .sentinel, .sentinel, .sentinel, .pinned], laidTests := true, laidLooks := .later }
def ModelReckonsCardSaid : Prop := Claim7.holds Tryz.pinned (.plain (OpenSpec.ofChange modelReckonsSpec)) modelReckonsCard

/-- THE TIED CARD OF 'overdrivelaw9.ModelApart'. -/
def modelApartCard : Claim7 := { stood := { row := modelApartRow, standIns := [], harness := (true, "9bc0cf6c77c93c132a593c33aa9d4db457f59fffc3a905a704e005e9cdda5d26"), looks := true }, kinds := [], alts := [], laidByText := true, laidKinds := [.data, .sentinel, .sentinel, .sentinel, .sentinel, .sentinel, .sentinel, .sentinel, .sentinel, .sentinel, .sentinel, .sentinel, .sentinel, .sentinel, .sentinel, .pinned], laidTests := true, laidLooks := .later }
def ModelApartCardSaid : Prop := Claim7.holds Tryz.pinned (.plain (OpenSpec.ofChange modelApartSpec)) modelApartCard

/-- THE TIED CARD OF 'overdrivelaw9.ModelSteps'. -/
def modelStepsCard : Claim7 := { stood := { row := modelStepsRow, standIns := [], harness := (true, "9bc0cf6c77c93c132a593c33aa9d4db457f59fffc3a905a704e005e9cdda5d26"), looks := true }, kinds := [], alts := [], laidByText := true, laidKinds := [.data, .sentinel, .sentinel, .sentinel, .sentinel, .sentinel, .sentinel, .sentinel, .sentinel, .sentinel, .sentinel, .sentinel, .sentinel, .sentinel, .sentinel, .pinned], laidTests := true, laidLooks := .later }
def ModelStepsCardSaid : Prop := Claim7.holds Tryz.pinned (.plain (OpenSpec.ofChange modelStepsSpec)) modelStepsCard

/-- THE TIED CARD OF 'overdrivelaw9.ModelEnds'. -/
def modelEndsCard : Claim7 := { stood := { row := modelEndsRow, standIns := [], harness := (true, "9bc0cf6c77c93c132a593c33aa9d4db457f59fffc3a905a704e005e9cdda5d26"), looks := true }, kinds := [], alts := [], laidByText := true, laidKinds := [.data, .sentinel, .sentinel, .sentinel, .sentinel, .sentinel, .sentinel, .sentinel, .sentinel, .pinned], laidTests := true, laidLooks := .later }
def ModelEndsCardSaid : Prop := Claim7.holds Tryz.pinned (.plain (OpenSpec.ofChange modelEndsSpec)) modelEndsCard

/-- THE TIED CARD OF 'overdrivelaw9.ModelRuns'. -/
def modelRunsCard : Claim7 := { stood := { row := modelRunsRow, standIns := [], harness := (true, "9bc0cf6c77c93c132a593c33aa9d4db457f59fffc3a905a704e005e9cdda5d26"), looks := true }, kinds := [], alts := [], laidByText := true, laidKinds := [.data, .sentinel, .sentinel, .sentinel, .sentinel, .sentinel, .sentinel, .sentinel, .sentinel, .sentinel, .sentinel, .sentinel, .sentinel, .sentinel, .sentinel, .pinned], laidTests := true, laidLooks := .later }
def ModelRunsCardSaid : Prop := Claim7.holds Tryz.pinned (.plain (OpenSpec.ofChange modelRunsSpec)) modelRunsCard

/-- THE TIED CARD OF 'overdrivelaw9.ModelCalls'. -/
def modelCallsCard : Claim7 := { stood := { row := modelCallsRow, standIns := [], harness := (true, "9bc0cf6c77c93c132a593c33aa9d4db457f59fffc3a905a704e005e9cdda5d26"), looks := true }, kinds := [], alts := [], laidByText := true, laidKinds := [.data, .sentinel, .sentinel, .sentinel, .sentinel, .sentinel, .sentinel, .sentinel, .sentinel, .pinned], laidTests := true, laidLooks := .later }
def ModelCallsCardSaid : Prop := Claim7.holds Tryz.pinned (.plain (OpenSpec.ofChange modelCallsSpec)) modelCallsCard

/-- THE TIED CARD OF 'overdrivelaw9.ModelLinks'. -/
def modelLinksCard : Claim7 := { stood := { row := modelLinksRow, standIns := [], harness := (true, "9bc0cf6c77c93c132a593c33aa9d4db457f59fffc3a905a704e005e9cdda5d26"), looks := true }, kinds := [], alts := [], laidByText := true, laidKinds := [.data, .sentinel, .sentinel, .sentinel, .sentinel, .sentinel, .sentinel, .sentinel, .sentinel, .pinned], laidTests := true, laidLooks := .later }
def ModelLinksCardSaid : Prop := Claim7.holds Tryz.pinned (.plain (OpenSpec.ofChange modelLinksSpec)) modelLinksCard

/-- THE SECOND FORM's CARD OF 'overdrivelaw9.ModelFuel'. -/
def modelFuelUptoCard : Claim7 := { stood := { row := modelFuelUptoRow, standIns := [], harness := (true, "9bc0cf6c77c93c132a593c33aa9d4db457f59fffc3a905a704e005e9cdda5d26"), looks := true }, kinds := [], alts := [], laidByText := true, laidKinds := [.data, .sentinel, .sentinel, .sentinel, .sentinel, .sentinel, .sentinel, .sentinel, .sentinel, .pinned], laidTests := true, laidLooks := .later }
def ModelFuelUptoCardSaid : Prop := Claim7.holds Tryz.pinned (.plain (OpenSpec.upto modelFuelSpec)) modelFuelUptoCard

/-- THE SECOND FORM's CARD OF 'overdrivelaw9.ModelReckons'. -/
def modelReckonsUptoCard : Claim7 := { stood := { row := modelReckonsUptoRow, standIns := [], harness := (true, "9bc0cf6c77c93c132a593c33aa9d4db457f59fffc3a905a704e005e9cdda5d26"), looks := true }, kinds := [], alts := [], laidByText := true, laidKinds := [.data, .sentinel, .sentinel, .sentinel, .sentinel, .sentinel, .sentinel, .sentinel, .sentinel, .pinned], laidTests := true, laidLooks := .later }
def ModelReckonsUptoCardSaid : Prop := Claim7.holds Tryz.pinned (.plain (OpenSpec.upto modelReckonsSpec)) modelReckonsUptoCard

/-- THE SECOND FORM's CARD OF 'overdrivelaw9.ModelApart'. -/
def modelApartUptoCard : Claim7 := { stood := { row := modelApartUptoRow, standIns := [], harness := (true, "9bc0cf6c77c93c132a593c33aa9d4db457f59fffc3a905a704e005e9cdda5d26"), looks := true }, kinds := [], alts := [], laidByText := true, laidKinds := [.data, .sentinel, .sentinel, .sentinel, .sentinel, .sentinel, .sentinel, .sentinel, .sentinel, .sentinel, .sentinel, .sentinel, .sentinel, .sentinel, .sentinel, .pinned], laidTests := true, laidLooks := .later }
def ModelApartUptoCardSaid : Prop := Claim7.holds Tryz.pinned (.plain (OpenSpec.upto modelApartSpec)) modelApartUptoCard

/-- THE SECOND FORM's CARD OF 'overdrivelaw9.ModelSteps'. -/
def modelStepsUptoCard : Claim7 := { stood := { row := modelStepsUptoRow, standIns := [], harness := (true, "9bc0cf6c77c93c132a593c33aa9d4db457f59fffc3a905a704e005e9cdda5d26"), looks := true }, kinds := [], alts := [], laidByText := true, laidKinds := [.data, .sentinel, .sentinel, .sentinel, .sentinel, .sentinel, .sentinel, .sentinel, .sentinel, .sentinel, .sentinel, .sentinel, .sentinel, .sentinel, .sentinel, .pinned], laidTests := true, laidLooks := .later }
def ModelStepsUptoCardSaid : Prop := Claim7.holds Tryz.pinned (.plain (OpenSpec.upto modelStepsSpec)) modelStepsUptoCard

/-- THE SECOND FORM's CARD OF 'overdrivelaw9.ModelEnds'. -/
def modelEndsUptoCard : Claim7 := { stood := { row := modelEndsUptoRow, standIns := [], harness := (true, "9bc0cf6c77c93c132a593c33aa9d4db457f59fffc3a905a704e005e9cdda5d26"), looks := true }, kinds := [], alts := [], laidByText := true, laidKinds := [.data, .sentinel, .sentinel, .sentinel, .sentinel, .sentinel, .sentinel, .sentinel, .sentinel, .pinned], laidTests := true, laidLooks := .later }
def ModelEndsUptoCardSaid : Prop := Claim7.holds Tryz.pinned (.plain (OpenSpec.upto modelEndsSpec)) modelEndsUptoCard

/-- THE SECOND FORM's CARD OF 'overdrivelaw9.ModelRuns'. -/
def modelRunsUptoCard : Claim7 := { stood := { row := modelRunsUptoRow, standIns := [], harness := (true, "9bc0cf6c77c93c132a593c33aa9d4db457f59fffc3a905a704e005e9cdda5d26"), looks := true }, kinds := [], alts := [], laidByText := true, laidKinds := [.data, .sentinel, .sentinel, .sentinel, .sentinel, .sentinel, .sentinel, .sentinel, .sentinel, .sentinel, .sentinel, .sentinel, .sentinel, .sentinel, .sentinel, .pinned], laidTests := true, laidLooks := .later }
def ModelRunsUptoCardSaid : Prop := Claim7.holds Tryz.pinned (.plain (OpenSpec.upto modelRunsSpec)) modelRunsUptoCard

/-- THE SECOND FORM's CARD OF 'overdrivelaw9.ModelCalls'. -/
def modelCallsUptoCard : Claim7 := { stood := { row := modelCallsUptoRow, standIns := [], harness := (true, "9bc0cf6c77c93c132a593c33aa9d4db457f59fffc3a905a704e005e9cdda5d26"), looks := true }, kinds := [], alts := [], laidByText := true, laidKinds := [.data, .sentinel, .sentinel, .sentinel, .sentinel, .sentinel, .sentinel, .sentinel, .sentinel, .pinned], laidTests := true, laidLooks := .later }
def ModelCallsUptoCardSaid : Prop := Claim7.holds Tryz.pinned (.plain (OpenSpec.upto modelCallsSpec)) modelCallsUptoCard

/-- THE SECOND FORM's CARD OF 'overdrivelaw9.ModelLinks'. -/
def modelLinksUptoCard : Claim7 := { stood := { row := modelLinksUptoRow, standIns := [], harness := (true, "9bc0cf6c77c93c132a593c33aa9d4db457f59fffc3a905a704e005e9cdda5d26"), looks := true }, kinds := [], alts := [], laidByText := true, laidKinds := [.data, .sentinel, .sentinel, .sentinel, .sentinel, .sentinel, .sentinel, .sentinel, .sentinel, .pinned], laidTests := true, laidLooks := .later }
def ModelLinksUptoCardSaid : Prop := Claim7.holds Tryz.pinned (.plain (OpenSpec.upto modelLinksSpec)) modelLinksUptoCard
end Rows
end Go.Proofs.YtojobkhidlfeoaaGreatDoor
