/-
  DERIVED. GIVEN WITH THE SEED: THE CARDS: each row of YtpmfbhoochogoaaGreatDoorRows.lean that lists a variable, with what it lists TIED to the program's text (the seventh form; the later family's looks); each row that meets fmt, with fmt's text TOLD by the authors' own Lean function (tested against real Go, not proved from fmt's source: count such statements apart). THE CARD IS WHAT COUNTS. Prove the row's statement (the work); the ties are given (YtpmfbhoochogoaaGreatDoorTie.lean); close each card by the builder's one call (the guide's Derived/Test/ToyasCard.lean, 'card_holds'). Laid BY PROGRAM, IN A SANDBOX (cutbox-door.mjs). By AI agents, Wed Nov 11 2026. No macro, syntax, notation, axiom, sorry.
-/
import Derived.Test.YtpmfbhoochogoaaGreatDoorRows
import GoSem.ClaimSeven
namespace Go.Proofs.YtpmfbhoochogoaaGreatDoor
namespace Rows

/-- THE TIED CARD OF 'overdrivelaw13.FramesDeep'. -/
def framesDeepCard : Claim7 := { stood := { row := framesDeepRow, standIns := [], harness := (true, "5c1489af2a81c0f9600f29da15258ea407405c75a8d4033591268ea0aa95bdd8"), looks := true }, kinds := [], alts := [], laidByText := true, laidKinds := [.data, .sentinel, .sentinel, .sentinel, .sentinel, .sentinel, .sentinel, .sentinel, .sentinel, .sentinel, .sentinel, .sentinel, .sentinel, .sentinel, .sentinel, .pinned], laidTests := true, laidLooks := .later }
def FramesDeepCardSaid : Prop := Claim7.holds Tryz.pinned (.plain (OpenSpec.ofChange framesDeepSpec)) framesDeepCard

/-- THE TIED CARD OF 'overdrivelaw13.FramesPlay'. -/
def framesPlayCard : Claim7 := { stood := { row := framesPlayRow, standIns := [], harness := (true, "5c1489af2a81c0f9600f29da15258ea407405c75a8d4033591268ea0aa95bdd8"), looks := true }, kinds := [], alts := [], laidByText := true, laidKinds := [.data, .sentinel, .sentinel, .sentinel, .sentinel, .sentinel, .sentinel, .sentinel, .sentinel, .sentinel, .sentinel, .sentinel, .sentinel, .sentinel, .sentinel, .pinned], laidTests := true, laidLooks := .later }
def FramesPlayCardSaid : Prop := Claim7.holds Tryz.pinned (.plain (OpenSpec.ofChange framesPlaySpec)) framesPlayCard

/-- THE TIED CARD OF 'overdrivelaw8.LiveStored'. -/
def liveStoredCard : Claim7 := { stood := { row := liveStoredRow, standIns := [], harness := (true, "5c1489af2a81c0f9600f29da15258ea407405c75a8d4033591268ea0aa95bdd8"), looks := true }, kinds := [], alts := [], laidByText := true, laidKinds := [.data, .data, .sentinel, .sentinel, .sentinel, .sentinel, .sentinel, .sentinel, .sentinel, .pinned], laidTests := true, laidLooks := .later }
def LiveStoredCardSaid : Prop := Claim7.holds Tryz.pinned (.plain (OpenSpec.ofChange liveStoredSpec)) liveStoredCard

/-- THE TIED CARD OF 'overdrivelaw8.LiveWays'. -/
def liveWaysCard : Claim7 := { stood := { row := liveWaysRow, standIns := [], harness := (true, "5c1489af2a81c0f9600f29da15258ea407405c75a8d4033591268ea0aa95bdd8"), looks := true }, kinds := [], alts := [], laidByText := true, laidKinds := [.data, .data, .sentinel, .sentinel, .sentinel, .sentinel, .sentinel, .sentinel, .sentinel, .pinned], laidTests := true, laidLooks := .later }
def LiveWaysCardSaid : Prop := Claim7.holds Tryz.pinned (.plain (OpenSpec.ofChange liveWaysSpec)) liveWaysCard

/-- THE TIED CARD OF 'overdrivelaw8.LiveLast'. -/
def liveLastCard : Claim7 := { stood := { row := liveLastRow, standIns := [], harness := (true, "5c1489af2a81c0f9600f29da15258ea407405c75a8d4033591268ea0aa95bdd8"), looks := true }, kinds := [], alts := [], laidByText := true, laidKinds := [.data, .data, .sentinel, .sentinel, .sentinel, .sentinel, .sentinel, .sentinel, .sentinel, .pinned], laidTests := true, laidLooks := .later }
def LiveLastCardSaid : Prop := Claim7.holds Tryz.pinned (.plain (OpenSpec.ofChange liveLastSpec)) liveLastCard

/-- THE TIED CARD OF 'overdrivelaw8.LiveSays'. -/
def liveSaysCard : Claim7 := { stood := { row := liveSaysRow, standIns := [], harness := (true, "5c1489af2a81c0f9600f29da15258ea407405c75a8d4033591268ea0aa95bdd8"), looks := true }, kinds := [], alts := [], laidByText := true, laidKinds := [.data, .data, .sentinel, .sentinel, .sentinel, .sentinel, .sentinel, .sentinel, .sentinel, .pinned], laidTests := true, laidLooks := .later }
def LiveSaysCardSaid : Prop := Claim7.holds Tryz.pinned (.plain (OpenSpec.ofChange liveSaysSpec)) liveSaysCard

/-- THE SECOND FORM's CARD OF 'overdrivelaw13.FramesDeep'. -/
def framesDeepUptoCard : Claim7 := { stood := { row := framesDeepUptoRow, standIns := [], harness := (true, "5c1489af2a81c0f9600f29da15258ea407405c75a8d4033591268ea0aa95bdd8"), looks := true }, kinds := [], alts := [], laidByText := true, laidKinds := [.data, .sentinel, .sentinel, .sentinel, .sentinel, .sentinel, .sentinel, .sentinel, .sentinel, .sentinel, .sentinel, .sentinel, .sentinel, .sentinel, .sentinel, .pinned], laidTests := true, laidLooks := .later }
def FramesDeepUptoCardSaid : Prop := Claim7.holds Tryz.pinned (.plain (OpenSpec.upto framesDeepSpec)) framesDeepUptoCard

/-- THE SECOND FORM's CARD OF 'overdrivelaw13.FramesPlay'. -/
def framesPlayUptoCard : Claim7 := { stood := { row := framesPlayUptoRow, standIns := [], harness := (true, "5c1489af2a81c0f9600f29da15258ea407405c75a8d4033591268ea0aa95bdd8"), looks := true }, kinds := [], alts := [], laidByText := true, laidKinds := [.data, .sentinel, .sentinel, .sentinel, .sentinel, .sentinel, .sentinel, .sentinel, .sentinel, .sentinel, .sentinel, .sentinel, .sentinel, .sentinel, .sentinel, .pinned], laidTests := true, laidLooks := .later }
def FramesPlayUptoCardSaid : Prop := Claim7.holds Tryz.pinned (.plain (OpenSpec.upto framesPlaySpec)) framesPlayUptoCard

/-- THE SECOND FORM's CARD OF 'overdrivelaw8.LiveStored'. -/
def liveStoredUptoCard : Claim7 := { stood := { row := liveStoredUptoRow, standIns := [], harness := (true, "5c1489af2a81c0f9600f29da15258ea407405c75a8d4033591268ea0aa95bdd8"), looks := true }, kinds := [], alts := [], laidByText := true, laidKinds := [.data, .data, .sentinel, .sentinel, .sentinel, .sentinel, .sentinel, .sentinel, .sentinel, .pinned], laidTests := true, laidLooks := .later }
def LiveStoredUptoCardSaid : Prop := Claim7.holds Tryz.pinned (.plain (OpenSpec.upto liveStoredSpec)) liveStoredUptoCard

/-- THE SECOND FORM's CARD OF 'overdrivelaw8.LiveWays'. -/
def liveWaysUptoCard : Claim7 := { stood := { row := liveWaysUptoRow, standIns := [], harness := (true, "5c1489af2a81c0f9600f29da15258ea407405c75a8d4033591268ea0aa95bdd8"), looks := true }, kinds := [], alts := [], laidByText := true, laidKinds := [.data, .data, .sentinel, .sentinel, .sentinel, .sentinel, .sentinel, .sentinel, .sentinel, .pinned], laidTests := true, laidLooks := .later }
def LiveWaysUptoCardSaid : Prop := Claim7.holds Tryz.pinned (.plain (OpenSpec.upto liveWaysSpec)) liveWaysUptoCard

/-- THE SECOND FORM's CARD OF 'overdrivelaw8.LiveLast'. -/
def liveLastUptoCard : Claim7 := { stood := { row := liveLastUptoRow, standIns := [], harness := (true, "5c1489af2a81c0f9600f29da15258ea407405c75a8d4033591268ea0aa95bdd8"), looks := true }, kinds := [], alts := [], laidByText := true, laidKinds := [.data, .data, .sentinel, .sentinel, .sentinel, .sentinel, .sentinel, .sentinel, .sentinel, .pinned], laidTests := true, laidLooks := .later }
def LiveLastUptoCardSaid : Prop := Claim7.holds Tryz.pinned (.plain (OpenSpec.upto liveLastSpec)) liveLastUptoCard

/-- THE SECOND FORM's CARD OF 'overdrivelaw8.LiveSays'. -/
def liveSaysUptoCard : Claim7 := { stood := { row := liveSaysUptoRow, standIns := [], harness := (true, "5c1489af2a81c0f9600f29da15258ea407405c75a8d4033591268ea0aa95bdd8"), looks := true }, kinds := [], alts := [], laidByText := true, laidKinds := [.data, .data, .sentinel, .sentinel, .sentinel, .sentinel, .sentinel, .sentinel, .sentinel, .pinned], laidTests := true, laidLooks := .later }
def LiveSaysUptoCardSaid : Prop := Claim7.holds Tryz.pinned (.plain (OpenSpec.upto liveSaysSpec)) liveSaysUptoCard
end Rows
end Go.Proofs.YtpmfbhoochogoaaGreatDoor
