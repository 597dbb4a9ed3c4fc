/-
  NARROWER THAN 'FOR EVERY INPUT', by the rows' own cells (each row's printed sentence says how): ModelFuel: laid · ModelReckons: laid · ModelApart: laid · ModelSteps: laid · ModelEnds: laid · ModelRuns: laid · ModelCalls: laid · ModelLinks: laid.
  DERIVED. THE GIVEN ROWS OF THIS SEAT. 8 by the template 'for every input the law returns true; each argument reads behind the call as it read before'; 0 by the template 'total and deterministic' (their statements: YtojobkhidlfeoaaGreatDoorTotals.lean).
  GIVEN WITH THE SEED: the statements are not yours to turn. If you find one false, say at which input.
  Laid BY PROGRAM, IN A SANDBOX (cutbox-rows.mjs): the forced cells as the released guide's own fill.sh prints them over the translation 0c5e035c06f0bc9d… (all of the seat's roots in one cut). By AI agents, Wed Nov 11 2026. No macro, syntax, notation, axiom, sorry.
-/
import Derived.Test.YtojobkhidlfeoaaGreatDoorChecked
import GoSem.PinnedTables
import GoSem.Claim
import GoSem.ClaimJoined
import GoSem.ClaimMapViews
import Derived.JoinedTies
import Derived.KernelRfl
namespace Go.Proofs.YtojobkhidlfeoaaGreatDoor
/- THE CELL 'sum', in the pinned program and in every row, IS THE sha256 OF THE DUMP (.gsa) THAT YtojobkhidlfeoaaGreatDoorProg.lean LOADS. Nothing in Lean hashes anything: it is a label: what it is worth is what the hold of that sum in a sandbox is worth. -/
noncomputable def Tryz.pinned : Pinned := { name := "ytojobkhidlfeoaagreatdoor", sum := "0c5e035c06f0bc9d47149257139cd501a99781d892d7b9f483b8b9a48b9b9731", checked := Tryz.checked }
namespace Rows
def none {H : Type} : Left H := { results := [], args := [] }

/- WHAT THE LISTED PACKAGE-LEVEL VARIABLES READ AS WHEN THE CALL BEGINS. Each datum BY PROGRAM (the guide's laid-datum.mjs) off the statement by which the dump's own 'gosem.cut.vars' lays the variable. In a bare row this is a premise. The card (YtojobkhidlfeoaaGreatDoorCards.lean) ties it to the program's text. -/
def laid_unicode_utf8_acceptRanges {H : Type} : DataW H := .agg [.agg [.lit (.int .u8 128), .lit (.int .u8 191)], .agg [.lit (.int .u8 160), .lit (.int .u8 191)], .agg [.lit (.int .u8 128), .lit (.int .u8 159)], .agg [.lit (.int .u8 144), .lit (.int .u8 191)], .agg [.lit (.int .u8 128), .lit (.int .u8 143)], .agg [.lit (.int .u8 0), .lit (.int .u8 0)], .agg [.lit (.int .u8 0), .lit (.int .u8 0)], .agg [.lit (.int .u8 0), .lit (.int .u8 0)], .agg [.lit (.int .u8 0), .lit (.int .u8 0)], .agg [.lit (.int .u8 0), .lit (.int .u8 0)], .agg [.lit (.int .u8 0), .lit (.int .u8 0)], .agg [.lit (.int .u8 0), .lit (.int .u8 0)], .agg [.lit (.int .u8 0), .lit (.int .u8 0)], .agg [.lit (.int .u8 0), .lit (.int .u8 0)], .agg [.lit (.int .u8 0), .lit (.int .u8 0)], .agg [.lit (.int .u8 0), .lit (.int .u8 0)]]
def laid_overdrive_api_ErrMany {H : Type} : DataW H := .iface "*errors.errorString" (.ptr (.agg [.lit (.string [116, 111, 111, 32, 109, 97, 110, 121])]))
def laid_overdrive_api_ErrKind {H : Type} : DataW H := .iface "*errors.errorString" (.ptr (.agg [.lit (.string [110, 111, 32, 115, 117, 99, 104, 32, 107, 105, 110, 100])]))
def laid_overdrive_api_ErrIndex {H : Type} : DataW H := .iface "*errors.errorString" (.ptr (.agg [.lit (.string [110, 111, 32, 115, 117, 99, 104, 32, 116, 104, 105, 110, 103])]))
def laid_overdrive_api_ErrTarget {H : Type} : DataW H := .iface "*errors.errorString" (.ptr (.agg [.lit (.string [110, 111, 32, 112, 108, 97, 99, 101, 32, 116, 111, 32, 106, 117, 109, 112, 32, 116, 111])]))
def laid_overdrive_api_ErrStack {H : Type} : DataW H := .iface "*errors.errorString" (.ptr (.agg [.lit (.string [116, 111, 111, 32, 108, 105, 116, 116, 108, 101, 32, 111, 114, 32, 116, 111, 111, 32, 109, 117, 99, 104, 32, 111, 110, 32, 116, 104, 101, 32, 115, 116, 97, 99, 107])]))
def laid_overdrive_api_ErrMerge {H : Type} : DataW H := .iface "*errors.errorString" (.ptr (.agg [.lit (.string [116, 119, 111, 32, 119, 97, 121, 115, 32, 116, 104, 97, 116, 32, 100, 111, 32, 110, 111, 116, 32, 97, 103, 114, 101, 101])]))
def laid_overdrive_api_ErrFall {H : Type} : DataW H := .iface "*errors.errorString" (.ptr (.agg [.lit (.string [105, 116, 32, 102, 97, 108, 108, 115, 32, 111, 102, 102, 32, 116, 104, 101, 32, 101, 110, 100])]))
def laid_overdrive_api_ErrLimit {H : Type} : DataW H := .iface "*errors.errorString" (.ptr (.agg [.lit (.string [110, 111, 32, 115, 117, 99, 104, 32, 108, 105, 109, 105, 116])]))
/-- One of Go's own tables, pinned by name: the form's constant. -/
def laid_unicode_utf8_first : DataW Unit := Go.Pinned.utf8First
def laid_overdrive_api_ErrShape {H : Type} : DataW H := .iface "*errors.errorString" (.ptr (.agg [.lit (.string [110, 111, 116, 32, 116, 104, 101, 32, 115, 104, 97, 112, 101, 32, 116, 104, 97, 116, 32, 105, 116, 32, 104, 97, 115, 32, 116, 111, 32, 104, 97, 118, 101])]))
def laid_overdrive_api_ErrEnd {H : Type} : DataW H := .iface "*errors.errorString" (.ptr (.agg [.lit (.string [105, 116, 32, 101, 110, 100, 115, 32, 116, 111, 111, 32, 101, 97, 114, 108, 121])]))
def laid_overdrive_api_ErrByte {H : Type} : DataW H := .iface "*errors.errorString" (.ptr (.agg [.lit (.string [97, 32, 98, 121, 116, 101, 32, 116, 104, 97, 116, 32, 100, 111, 101, 115, 32, 110, 111, 116, 32, 102, 105, 116])]))
def laid_overdrive_api_ErrNode {H : Type} : DataW H := .iface "*errors.errorString" (.ptr (.agg [.lit (.string [97, 32, 110, 111, 100, 101, 32, 116, 104, 97, 116, 32, 109, 97, 121, 32, 110, 111, 116, 32, 98, 101])]))
def laid_overdrive_api_ErrState {H : Type} : DataW H := .iface "*errors.errorString" (.ptr (.agg [.lit (.string [97, 32, 115, 116, 97, 116, 101, 32, 116, 104, 97, 116, 32, 109, 97, 121, 32, 110, 111, 116, 32, 98, 101])]))
def laid_overdrive_api_ErrRoom {H : Type} : DataW H := .iface "*errors.errorString" (.ptr (.agg [.lit (.string [110, 111, 32, 114, 111, 111, 109])]))

/-- 'overdrivelaw9.ModelFuel': WHATEVER THE INPUT: true; the input reads as it did. -/
def modelFuelSpec : ChangeSpec := { name := "modelFuel", fn := fun _ => fun
  | [d1, d2, d3, d4] => { results := [.lit (.bool true)], args := [d1, d2, d3, d4] }
  | _ => none }
def modelFuelRow : OpenClaim := { program := "ytojobkhidlfeoaagreatdoor", sum := "0c5e035c06f0bc9d47149257139cd501a99781d892d7b9f483b8b9a48b9b9731", func := "overdrive/overdrivelaw9.ModelFuel", spec := "modelFuel", inPlace := ["internal/bytealg.IndexByteString", "internal/bytealg.IndexString"], unfollowed := true, recurses := true, named := ["overdrive/api.ErrMany", "overdrive/api.ErrKind", "unicode/utf8.first", "unicode/utf8.acceptRanges", "overdrive/api.ErrTarget", "overdrive/api.ErrIndex", "overdrive/api.ErrFall", "overdrive/api.ErrMerge", "overdrive/api.ErrStack", "overdrive/api.ErrLimit", "internal/bytealg.MaxLen"], apart := false, laid := [("unicode/utf8.acceptRanges", laid_unicode_utf8_acceptRanges), ("overdrive/api.ErrMany", laid_overdrive_api_ErrMany), ("overdrive/api.ErrKind", laid_overdrive_api_ErrKind), ("overdrive/api.ErrIndex", laid_overdrive_api_ErrIndex), ("overdrive/api.ErrTarget", laid_overdrive_api_ErrTarget), ("overdrive/api.ErrStack", laid_overdrive_api_ErrStack), ("overdrive/api.ErrMerge", laid_overdrive_api_ErrMerge), ("overdrive/api.ErrFall", laid_overdrive_api_ErrFall), ("overdrive/api.ErrLimit", laid_overdrive_api_ErrLimit), ("unicode/utf8.first", laid_unicode_utf8_first)] }
def ModelFuelSaid : Prop := modelFuelRow.holds Tryz.pinned (OpenSpec.ofChange modelFuelSpec)

/-- ITS FALSE NEIGHBOUR: 'it returns false'. Refute it at one input. -/
def modelFuelWrong : ChangeSpec := { name := "modelFuel", fn := fun _ => fun
  | [d1, d2, d3, d4] => { results := [.lit (.bool false)], args := [d1, d2, d3, d4] }
  | _ => none }
def ModelFuelWrongFalsely : Prop := modelFuelRow.holds Tryz.pinned (OpenSpec.ofChange modelFuelWrong)

/-- 'overdrivelaw9.ModelReckons': WHATEVER THE INPUT: true; the input reads as it did. -/
def modelReckonsSpec : ChangeSpec := { name := "modelReckons", fn := fun _ => fun
  | [d1, d2, d3] => { results := [.lit (.bool true)], args := [d1, d2, d3] }
  | _ => none }
def modelReckonsRow : OpenClaim := { program := "ytojobkhidlfeoaagreatdoor", sum := "0c5e035c06f0bc9d47149257139cd501a99781d892d7b9f483b8b9a48b9b9731", func := "overdrive/overdrivelaw9.ModelReckons", spec := "modelReckons", inPlace := ["internal/bytealg.IndexByteString", "internal/bytealg.IndexString"], unfollowed := true, recurses := true, named := ["overdrive/api.ErrMany", "overdrive/api.ErrKind", "unicode/utf8.first", "unicode/utf8.acceptRanges", "overdrive/api.ErrTarget", "overdrive/api.ErrIndex", "overdrive/api.ErrFall", "overdrive/api.ErrMerge", "overdrive/api.ErrStack", "overdrive/api.ErrLimit", "internal/bytealg.MaxLen"], apart := false, laid := [("unicode/utf8.acceptRanges", laid_unicode_utf8_acceptRanges), ("overdrive/api.ErrMany", laid_overdrive_api_ErrMany), ("overdrive/api.ErrKind", laid_overdrive_api_ErrKind), ("overdrive/api.ErrIndex", laid_overdrive_api_ErrIndex), ("overdrive/api.ErrTarget", laid_overdrive_api_ErrTarget), ("overdrive/api.ErrStack", laid_overdrive_api_ErrStack), ("overdrive/api.ErrMerge", laid_overdrive_api_ErrMerge), ("overdrive/api.ErrFall", laid_overdrive_api_ErrFall), ("overdrive/api.ErrLimit", laid_overdrive_api_ErrLimit), ("unicode/utf8.first", laid_unicode_utf8_first)] }
def ModelReckonsSaid : Prop := modelReckonsRow.holds Tryz.pinned (OpenSpec.ofChange modelReckonsSpec)

/-- ITS FALSE NEIGHBOUR: 'it returns false'. Refute it at one input. -/
def modelReckonsWrong : ChangeSpec := { name := "modelReckons", fn := fun _ => fun
  | [d1, d2, d3] => { results := [.lit (.bool false)], args := [d1, d2, d3] }
  | _ => none }
def ModelReckonsWrongFalsely : Prop := modelReckonsRow.holds Tryz.pinned (OpenSpec.ofChange modelReckonsWrong)

/-- 'overdrivelaw9.ModelApart': WHATEVER THE INPUT: true; the input reads as it did. -/
def modelApartSpec : ChangeSpec := { name := "modelApart", fn := fun _ => fun
  | [d1, d2, d3] => { results := [.lit (.bool true)], args := [d1, d2, d3] }
  | _ => none }
def modelApartRow : OpenClaim := { program := "ytojobkhidlfeoaagreatdoor", sum := "0c5e035c06f0bc9d47149257139cd501a99781d892d7b9f483b8b9a48b9b9731", func := "overdrive/overdrivelaw9.ModelApart", spec := "modelApart", inPlace := ["internal/bytealg.IndexByteString", "internal/bytealg.IndexString"], unfollowed := true, recurses := true, named := ["overdrive/api.ErrMany", "overdrive/api.ErrKind", "unicode/utf8.first", "unicode/utf8.acceptRanges", "overdrive/api.ErrTarget", "overdrive/api.ErrIndex", "overdrive/api.ErrFall", "overdrive/api.ErrMerge", "overdrive/api.ErrStack", "overdrive/api.ErrLimit", "overdrive/api.ErrShape", "overdrive/api.ErrEnd", "overdrive/api.ErrByte", "overdrive/api.ErrNode", "overdrive/api.ErrState", "overdrive/api.ErrRoom", "internal/bytealg.MaxLen"], apart := false, laid := [("unicode/utf8.acceptRanges", laid_unicode_utf8_acceptRanges), ("overdrive/api.ErrMany", laid_overdrive_api_ErrMany), ("overdrive/api.ErrKind", laid_overdrive_api_ErrKind), ("overdrive/api.ErrIndex", laid_overdrive_api_ErrIndex), ("overdrive/api.ErrTarget", laid_overdrive_api_ErrTarget), ("overdrive/api.ErrShape", laid_overdrive_api_ErrShape), ("overdrive/api.ErrEnd", laid_overdrive_api_ErrEnd), ("overdrive/api.ErrByte", laid_overdrive_api_ErrByte), ("overdrive/api.ErrStack", laid_overdrive_api_ErrStack), ("overdrive/api.ErrMerge", laid_overdrive_api_ErrMerge), ("overdrive/api.ErrFall", laid_overdrive_api_ErrFall), ("overdrive/api.ErrLimit", laid_overdrive_api_ErrLimit), ("overdrive/api.ErrNode", laid_overdrive_api_ErrNode), ("overdrive/api.ErrState", laid_overdrive_api_ErrState), ("overdrive/api.ErrRoom", laid_overdrive_api_ErrRoom), ("unicode/utf8.first", laid_unicode_utf8_first)] }
def ModelApartSaid : Prop := modelApartRow.holds Tryz.pinned (OpenSpec.ofChange modelApartSpec)

/-- ITS FALSE NEIGHBOUR: 'it returns false'. Refute it at one input. -/
def modelApartWrong : ChangeSpec := { name := "modelApart", fn := fun _ => fun
  | [d1, d2, d3] => { results := [.lit (.bool false)], args := [d1, d2, d3] }
  | _ => none }
def ModelApartWrongFalsely : Prop := modelApartRow.holds Tryz.pinned (OpenSpec.ofChange modelApartWrong)

/-- 'overdrivelaw9.ModelSteps': WHATEVER THE INPUT: true; the input reads as it did. -/
def modelStepsSpec : ChangeSpec := { name := "modelSteps", fn := fun _ => fun
  | [d1, d2, d3, d4] => { results := [.lit (.bool true)], args := [d1, d2, d3, d4] }
  | _ => none }
def modelStepsRow : OpenClaim := { program := "ytojobkhidlfeoaagreatdoor", sum := "0c5e035c06f0bc9d47149257139cd501a99781d892d7b9f483b8b9a48b9b9731", func := "overdrive/overdrivelaw9.ModelSteps", spec := "modelSteps", inPlace := ["internal/bytealg.IndexByteString", "internal/bytealg.IndexString"], unfollowed := true, recurses := true, named := ["overdrive/api.ErrMany", "overdrive/api.ErrKind", "unicode/utf8.first", "unicode/utf8.acceptRanges", "overdrive/api.ErrTarget", "overdrive/api.ErrIndex", "overdrive/api.ErrFall", "overdrive/api.ErrMerge", "overdrive/api.ErrStack", "overdrive/api.ErrLimit", "overdrive/api.ErrShape", "overdrive/api.ErrEnd", "overdrive/api.ErrByte", "overdrive/api.ErrNode", "overdrive/api.ErrState", "overdrive/api.ErrRoom", "internal/bytealg.MaxLen"], apart := false, laid := [("unicode/utf8.acceptRanges", laid_unicode_utf8_acceptRanges), ("overdrive/api.ErrMany", laid_overdrive_api_ErrMany), ("overdrive/api.ErrKind", laid_overdrive_api_ErrKind), ("overdrive/api.ErrIndex", laid_overdrive_api_ErrIndex), ("overdrive/api.ErrTarget", laid_overdrive_api_ErrTarget), ("overdrive/api.ErrShape", laid_overdrive_api_ErrShape), ("overdrive/api.ErrEnd", laid_overdrive_api_ErrEnd), ("overdrive/api.ErrByte", laid_overdrive_api_ErrByte), ("overdrive/api.ErrStack", laid_overdrive_api_ErrStack), ("overdrive/api.ErrMerge", laid_overdrive_api_ErrMerge), ("overdrive/api.ErrFall", laid_overdrive_api_ErrFall), ("overdrive/api.ErrLimit", laid_overdrive_api_ErrLimit), ("overdrive/api.ErrNode", laid_overdrive_api_ErrNode), ("overdrive/api.ErrState", laid_overdrive_api_ErrState), ("overdrive/api.ErrRoom", laid_overdrive_api_ErrRoom), ("unicode/utf8.first", laid_unicode_utf8_first)] }
def ModelStepsSaid : Prop := modelStepsRow.holds Tryz.pinned (OpenSpec.ofChange modelStepsSpec)

/-- ITS FALSE NEIGHBOUR: 'it returns false'. Refute it at one input. -/
def modelStepsWrong : ChangeSpec := { name := "modelSteps", fn := fun _ => fun
  | [d1, d2, d3, d4] => { results := [.lit (.bool false)], args := [d1, d2, d3, d4] }
  | _ => none }
def ModelStepsWrongFalsely : Prop := modelStepsRow.holds Tryz.pinned (OpenSpec.ofChange modelStepsWrong)

/-- 'overdrivelaw9.ModelEnds': WHATEVER THE INPUT: true; the input reads as it did. -/
def modelEndsSpec : ChangeSpec := { name := "modelEnds", fn := fun _ => fun
  | [d1, d2, d3, d4] => { results := [.lit (.bool true)], args := [d1, d2, d3, d4] }
  | _ => none }
def modelEndsRow : OpenClaim := { program := "ytojobkhidlfeoaagreatdoor", sum := "0c5e035c06f0bc9d47149257139cd501a99781d892d7b9f483b8b9a48b9b9731", func := "overdrive/overdrivelaw9.ModelEnds", spec := "modelEnds", inPlace := ["internal/bytealg.IndexByteString", "internal/bytealg.IndexString", "sync/atomic.AddInt64"], unfollowed := true, recurses := true, named := ["overdrive/api.ErrMany", "overdrive/api.ErrKind", "unicode/utf8.first", "unicode/utf8.acceptRanges", "overdrive/api.ErrTarget", "overdrive/api.ErrIndex", "overdrive/api.ErrFall", "overdrive/api.ErrMerge", "overdrive/api.ErrStack", "overdrive/api.ErrLimit", "internal/bytealg.MaxLen"], apart := false, laid := [("unicode/utf8.acceptRanges", laid_unicode_utf8_acceptRanges), ("overdrive/api.ErrMany", laid_overdrive_api_ErrMany), ("overdrive/api.ErrKind", laid_overdrive_api_ErrKind), ("overdrive/api.ErrIndex", laid_overdrive_api_ErrIndex), ("overdrive/api.ErrTarget", laid_overdrive_api_ErrTarget), ("overdrive/api.ErrStack", laid_overdrive_api_ErrStack), ("overdrive/api.ErrMerge", laid_overdrive_api_ErrMerge), ("overdrive/api.ErrFall", laid_overdrive_api_ErrFall), ("overdrive/api.ErrLimit", laid_overdrive_api_ErrLimit), ("unicode/utf8.first", laid_unicode_utf8_first)] }
def ModelEndsSaid : Prop := modelEndsRow.holds Tryz.pinned (OpenSpec.ofChange modelEndsSpec)

/-- ITS FALSE NEIGHBOUR: 'it returns false'. Refute it at one input. -/
def modelEndsWrong : ChangeSpec := { name := "modelEnds", fn := fun _ => fun
  | [d1, d2, d3, d4] => { results := [.lit (.bool false)], args := [d1, d2, d3, d4] }
  | _ => none }
def ModelEndsWrongFalsely : Prop := modelEndsRow.holds Tryz.pinned (OpenSpec.ofChange modelEndsWrong)

/-- 'overdrivelaw9.ModelRuns': WHATEVER THE INPUT: true; the input reads as it did. -/
def modelRunsSpec : ChangeSpec := { name := "modelRuns", fn := fun _ => fun
  | [d1, d2, d3] => { results := [.lit (.bool true)], args := [d1, d2, d3] }
  | _ => none }
def modelRunsRow : OpenClaim := { program := "ytojobkhidlfeoaagreatdoor", sum := "0c5e035c06f0bc9d47149257139cd501a99781d892d7b9f483b8b9a48b9b9731", func := "overdrive/overdrivelaw9.ModelRuns", spec := "modelRuns", inPlace := ["internal/bytealg.IndexByteString", "internal/bytealg.IndexString", "sync/atomic.AddInt64"], unfollowed := true, recurses := true, named := ["overdrive/api.ErrMany", "overdrive/api.ErrKind", "unicode/utf8.first", "unicode/utf8.acceptRanges", "overdrive/api.ErrTarget", "overdrive/api.ErrIndex", "overdrive/api.ErrFall", "overdrive/api.ErrMerge", "overdrive/api.ErrStack", "overdrive/api.ErrLimit", "overdrive/api.ErrShape", "overdrive/api.ErrEnd", "overdrive/api.ErrByte", "overdrive/api.ErrNode", "overdrive/api.ErrState", "overdrive/api.ErrRoom", "internal/bytealg.MaxLen"], apart := false, laid := [("unicode/utf8.acceptRanges", laid_unicode_utf8_acceptRanges), ("overdrive/api.ErrMany", laid_overdrive_api_ErrMany), ("overdrive/api.ErrKind", laid_overdrive_api_ErrKind), ("overdrive/api.ErrIndex", laid_overdrive_api_ErrIndex), ("overdrive/api.ErrTarget", laid_overdrive_api_ErrTarget), ("overdrive/api.ErrShape", laid_overdrive_api_ErrShape), ("overdrive/api.ErrEnd", laid_overdrive_api_ErrEnd), ("overdrive/api.ErrByte", laid_overdrive_api_ErrByte), ("overdrive/api.ErrStack", laid_overdrive_api_ErrStack), ("overdrive/api.ErrMerge", laid_overdrive_api_ErrMerge), ("overdrive/api.ErrFall", laid_overdrive_api_ErrFall), ("overdrive/api.ErrLimit", laid_overdrive_api_ErrLimit), ("overdrive/api.ErrNode", laid_overdrive_api_ErrNode), ("overdrive/api.ErrState", laid_overdrive_api_ErrState), ("overdrive/api.ErrRoom", laid_overdrive_api_ErrRoom), ("unicode/utf8.first", laid_unicode_utf8_first)] }
def ModelRunsSaid : Prop := modelRunsRow.holds Tryz.pinned (OpenSpec.ofChange modelRunsSpec)

/-- ITS FALSE NEIGHBOUR: 'it returns false'. Refute it at one input. -/
def modelRunsWrong : ChangeSpec := { name := "modelRuns", fn := fun _ => fun
  | [d1, d2, d3] => { results := [.lit (.bool false)], args := [d1, d2, d3] }
  | _ => none }
def ModelRunsWrongFalsely : Prop := modelRunsRow.holds Tryz.pinned (OpenSpec.ofChange modelRunsWrong)

/-- 'overdrivelaw9.ModelCalls': WHATEVER THE INPUT: true; the input reads as it did. -/
def modelCallsSpec : ChangeSpec := { name := "modelCalls", fn := fun _ => fun
  | [d1, d2, d3] => { results := [.lit (.bool true)], args := [d1, d2, d3] }
  | _ => none }
def modelCallsRow : OpenClaim := { program := "ytojobkhidlfeoaagreatdoor", sum := "0c5e035c06f0bc9d47149257139cd501a99781d892d7b9f483b8b9a48b9b9731", func := "overdrive/overdrivelaw9.ModelCalls", spec := "modelCalls", inPlace := ["internal/bytealg.IndexByteString", "internal/bytealg.IndexString", "sync/atomic.AddInt64"], unfollowed := true, recurses := true, named := ["overdrive/api.ErrMany", "overdrive/api.ErrKind", "unicode/utf8.first", "unicode/utf8.acceptRanges", "overdrive/api.ErrTarget", "overdrive/api.ErrIndex", "overdrive/api.ErrFall", "overdrive/api.ErrMerge", "overdrive/api.ErrStack", "overdrive/api.ErrLimit", "internal/bytealg.MaxLen"], apart := false, laid := [("unicode/utf8.acceptRanges", laid_unicode_utf8_acceptRanges), ("overdrive/api.ErrMany", laid_overdrive_api_ErrMany), ("overdrive/api.ErrKind", laid_overdrive_api_ErrKind), ("overdrive/api.ErrIndex", laid_overdrive_api_ErrIndex), ("overdrive/api.ErrTarget", laid_overdrive_api_ErrTarget), ("overdrive/api.ErrStack", laid_overdrive_api_ErrStack), ("overdrive/api.ErrMerge", laid_overdrive_api_ErrMerge), ("overdrive/api.ErrFall", laid_overdrive_api_ErrFall), ("overdrive/api.ErrLimit", laid_overdrive_api_ErrLimit), ("unicode/utf8.first", laid_unicode_utf8_first)] }
def ModelCallsSaid : Prop := modelCallsRow.holds Tryz.pinned (OpenSpec.ofChange modelCallsSpec)

/-- ITS FALSE NEIGHBOUR: 'it returns false'. Refute it at one input. -/
def modelCallsWrong : ChangeSpec := { name := "modelCalls", fn := fun _ => fun
  | [d1, d2, d3] => { results := [.lit (.bool false)], args := [d1, d2, d3] }
  | _ => none }
def ModelCallsWrongFalsely : Prop := modelCallsRow.holds Tryz.pinned (OpenSpec.ofChange modelCallsWrong)

/-- 'overdrivelaw9.ModelLinks': WHATEVER THE INPUT: true; the input reads as it did. -/
def modelLinksSpec : ChangeSpec := { name := "modelLinks", fn := fun _ => fun
  | [d1, d2] => { results := [.lit (.bool true)], args := [d1, d2] }
  | _ => none }
def modelLinksRow : OpenClaim := { program := "ytojobkhidlfeoaagreatdoor", sum := "0c5e035c06f0bc9d47149257139cd501a99781d892d7b9f483b8b9a48b9b9731", func := "overdrive/overdrivelaw9.ModelLinks", spec := "modelLinks", inPlace := ["internal/bytealg.IndexByteString", "internal/bytealg.IndexString", "sync/atomic.AddInt64"], unfollowed := true, recurses := true, named := ["overdrive/api.ErrMany", "overdrive/api.ErrKind", "unicode/utf8.first", "unicode/utf8.acceptRanges", "overdrive/api.ErrTarget", "overdrive/api.ErrIndex", "overdrive/api.ErrFall", "overdrive/api.ErrMerge", "overdrive/api.ErrStack", "overdrive/api.ErrLimit", "internal/bytealg.MaxLen"], apart := false, laid := [("unicode/utf8.acceptRanges", laid_unicode_utf8_acceptRanges), ("overdrive/api.ErrMany", laid_overdrive_api_ErrMany), ("overdrive/api.ErrKind", laid_overdrive_api_ErrKind), ("overdrive/api.ErrIndex", laid_overdrive_api_ErrIndex), ("overdrive/api.ErrTarget", laid_overdrive_api_ErrTarget), ("overdrive/api.ErrStack", laid_overdrive_api_ErrStack), ("overdrive/api.ErrMerge", laid_overdrive_api_ErrMerge), ("overdrive/api.ErrFall", laid_overdrive_api_ErrFall), ("overdrive/api.ErrLimit", laid_overdrive_api_ErrLimit), ("unicode/utf8.first", laid_unicode_utf8_first)] }
def ModelLinksSaid : Prop := modelLinksRow.holds Tryz.pinned (OpenSpec.ofChange modelLinksSpec)

/-- ITS FALSE NEIGHBOUR: 'it returns false'. Refute it at one input. -/
def modelLinksWrong : ChangeSpec := { name := "modelLinks", fn := fun _ => fun
  | [d1, d2] => { results := [.lit (.bool false)], args := [d1, d2] }
  | _ => none }
def ModelLinksWrongFalsely : Prop := modelLinksRow.holds Tryz.pinned (OpenSpec.ofChange modelLinksWrong)

/- THE SECOND FORM. 'bulk': how many values and letters a reading holds, each counted each time it is reached (what is shared counts as often as it is met; a slice's spare places count too). A statement '..UptoSaid' is the law's where the arguments, and the package variables that the reading takes, are together of bulk at most 1048576: NARROWER than '..Said'. Prove '..Said' where nothing that the law and all that it calls make is longer than what came in: it says more and counts as full. Else prove '..UptoSaid'. A law counts once. -/
mutual
def uptoBulk {H : Type} : DataW H → Nat
  | .lit (.string bytes) => bytes.length + 1
  | .lit _ => 1
  | .nil => 1
  | .ptr d => uptoBulk d + 1
  | .slice elems spare => uptoBulkAll elems + uptoBulkAll spare + 1
  | .agg parts => uptoBulkAll parts + 1
  | .iface _ d => uptoBulk d + 1
  | .map entries => uptoBulkEntries entries + 1
  | .held _ => 1
def uptoBulkAll {H : Type} : List (DataW H) → Nat
  | [] => 0
  | d :: r => uptoBulk d + uptoBulkAll r
def uptoBulkEntries {H : Type} : List (Lit × DataW H) → Nat
  | [] => 0
  | x :: r => uptoBulkEntry x + uptoBulkEntries r
def uptoBulkEntry {H : Type} : Lit × DataW H → Nat
  | (.string bytes, d) => bytes.length + uptoBulk d + 1
  | (_, d) => uptoBulk d + 1
 end
def uptoSmall : (H : Type) → List (DataW H) → Bool := fun _ ds => decide (uptoBulkAll ds ≤ 1048576)
def OpenSpec.upto (s : _root_.Go.ChangeSpec) : _root_.Go.OpenSpec := { _root_.Go.OpenSpec.ofChange s with cond := some uptoSmall }

/-- 'overdrivelaw9.ModelFuel', WHERE WHAT IT READS IS OF BULK AT MOST 1048576: true; the input reads as it did. -/
def modelFuelUptoRow : OpenClaim := { program := "ytojobkhidlfeoaagreatdoor", sum := "0c5e035c06f0bc9d47149257139cd501a99781d892d7b9f483b8b9a48b9b9731", func := "overdrive/overdrivelaw9.ModelFuel", spec := "modelFuel", inPlace := ["internal/bytealg.IndexByteString", "internal/bytealg.IndexString"], unfollowed := true, recurses := true, named := ["overdrive/api.ErrMany", "overdrive/api.ErrKind", "unicode/utf8.first", "unicode/utf8.acceptRanges", "overdrive/api.ErrTarget", "overdrive/api.ErrIndex", "overdrive/api.ErrFall", "overdrive/api.ErrMerge", "overdrive/api.ErrStack", "overdrive/api.ErrLimit", "internal/bytealg.MaxLen"], apart := false, laid := [("unicode/utf8.acceptRanges", laid_unicode_utf8_acceptRanges), ("overdrive/api.ErrMany", laid_overdrive_api_ErrMany), ("overdrive/api.ErrKind", laid_overdrive_api_ErrKind), ("overdrive/api.ErrIndex", laid_overdrive_api_ErrIndex), ("overdrive/api.ErrTarget", laid_overdrive_api_ErrTarget), ("overdrive/api.ErrStack", laid_overdrive_api_ErrStack), ("overdrive/api.ErrMerge", laid_overdrive_api_ErrMerge), ("overdrive/api.ErrFall", laid_overdrive_api_ErrFall), ("overdrive/api.ErrLimit", laid_overdrive_api_ErrLimit), ("unicode/utf8.first", laid_unicode_utf8_first)], narrowed := true }
def ModelFuelUptoSaid : Prop := modelFuelUptoRow.holds Tryz.pinned (OpenSpec.upto modelFuelSpec)

/-- 'overdrivelaw9.ModelReckons', WHERE WHAT IT READS IS OF BULK AT MOST 1048576: true; the input reads as it did. -/
def modelReckonsUptoRow : OpenClaim := { program := "ytojobkhidlfeoaagreatdoor", sum := "0c5e035c06f0bc9d47149257139cd501a99781d892d7b9f483b8b9a48b9b9731", func := "overdrive/overdrivelaw9.ModelReckons", spec := "modelReckons", inPlace := ["internal/bytealg.IndexByteString", "internal/bytealg.IndexString"], unfollowed := true, recurses := true, named := ["overdrive/api.ErrMany", "overdrive/api.ErrKind", "unicode/utf8.first", "unicode/utf8.acceptRanges", "overdrive/api.ErrTarget", "overdrive/api.ErrIndex", "overdrive/api.ErrFall", "overdrive/api.ErrMerge", "overdrive/api.ErrStack", "overdrive/api.ErrLimit", "internal/bytealg.MaxLen"], apart := false, laid := [("unicode/utf8.acceptRanges", laid_unicode_utf8_acceptRanges), ("overdrive/api.ErrMany", laid_overdrive_api_ErrMany), ("overdrive/api.ErrKind", laid_overdrive_api_ErrKind), ("overdrive/api.ErrIndex", laid_overdrive_api_ErrIndex), ("overdrive/api.ErrTarget", laid_overdrive_api_ErrTarget), ("overdrive/api.ErrStack", laid_overdrive_api_ErrStack), ("overdrive/api.ErrMerge", laid_overdrive_api_ErrMerge), ("overdrive/api.ErrFall", laid_overdrive_api_ErrFall), ("overdrive/api.ErrLimit", laid_overdrive_api_ErrLimit), ("unicode/utf8.first", laid_unicode_utf8_first)], narrowed := true }
def ModelReckonsUptoSaid : Prop := modelReckonsUptoRow.holds Tryz.pinned (OpenSpec.upto modelReckonsSpec)

/-- 'overdrivelaw9.ModelApart', WHERE WHAT IT READS IS OF BULK AT MOST 1048576: true; the input reads as it did. -/
def modelApartUptoRow : OpenClaim := { program := "ytojobkhidlfeoaagreatdoor", sum := "0c5e035c06f0bc9d47149257139cd501a99781d892d7b9f483b8b9a48b9b9731", func := "overdrive/overdrivelaw9.ModelApart", spec := "modelApart", inPlace := ["internal/bytealg.IndexByteString", "internal/bytealg.IndexString"], unfollowed := true, recurses := true, named := ["overdrive/api.ErrMany", "overdrive/api.ErrKind", "unicode/utf8.first", "unicode/utf8.acceptRanges", "overdrive/api.ErrTarget", "overdrive/api.ErrIndex", "overdrive/api.ErrFall", "overdrive/api.ErrMerge", "overdrive/api.ErrStack", "overdrive/api.ErrLimit", "overdrive/api.ErrShape", "overdrive/api.ErrEnd", "overdrive/api.ErrByte", "overdrive/api.ErrNode", "overdrive/api.ErrState", "overdrive/api.ErrRoom", "internal/bytealg.MaxLen"], apart := false, laid := [("unicode/utf8.acceptRanges", laid_unicode_utf8_acceptRanges), ("overdrive/api.ErrMany", laid_overdrive_api_ErrMany), ("overdrive/api.ErrKind", laid_overdrive_api_ErrKind), ("overdrive/api.ErrIndex", laid_overdrive_api_ErrIndex), ("overdrive/api.ErrTarget", laid_overdrive_api_ErrTarget), ("overdrive/api.ErrShape", laid_overdrive_api_ErrShape), ("overdrive/api.ErrEnd", laid_overdrive_api_ErrEnd), ("overdrive/api.ErrByte", laid_overdrive_api_ErrByte), ("overdrive/api.ErrStack", laid_overdrive_api_ErrStack), ("overdrive/api.ErrMerge", laid_overdrive_api_ErrMerge), ("overdrive/api.ErrFall", laid_overdrive_api_ErrFall), ("overdrive/api.ErrLimit", laid_overdrive_api_ErrLimit), ("overdrive/api.ErrNode", laid_overdrive_api_ErrNode), ("overdrive/api.ErrState", laid_overdrive_api_ErrState), ("overdrive/api.ErrRoom", laid_overdrive_api_ErrRoom), ("unicode/utf8.first", laid_unicode_utf8_first)], narrowed := true }
def ModelApartUptoSaid : Prop := modelApartUptoRow.holds Tryz.pinned (OpenSpec.upto modelApartSpec)

/-- 'overdrivelaw9.ModelSteps', WHERE WHAT IT READS IS OF BULK AT MOST 1048576: true; the input reads as it did. -/
def modelStepsUptoRow : OpenClaim := { program := "ytojobkhidlfeoaagreatdoor", sum := "0c5e035c06f0bc9d47149257139cd501a99781d892d7b9f483b8b9a48b9b9731", func := "overdrive/overdrivelaw9.ModelSteps", spec := "modelSteps", inPlace := ["internal/bytealg.IndexByteString", "internal/bytealg.IndexString"], unfollowed := true, recurses := true, named := ["overdrive/api.ErrMany", "overdrive/api.ErrKind", "unicode/utf8.first", "unicode/utf8.acceptRanges", "overdrive/api.ErrTarget", "overdrive/api.ErrIndex", "overdrive/api.ErrFall", "overdrive/api.ErrMerge", "overdrive/api.ErrStack", "overdrive/api.ErrLimit", "overdrive/api.ErrShape", "overdrive/api.ErrEnd", "overdrive/api.ErrByte", "overdrive/api.ErrNode", "overdrive/api.ErrState", "overdrive/api.ErrRoom", "internal/bytealg.MaxLen"], apart := false, laid := [("unicode/utf8.acceptRanges", laid_unicode_utf8_acceptRanges), ("overdrive/api.ErrMany", laid_overdrive_api_ErrMany), ("overdrive/api.ErrKind", laid_overdrive_api_ErrKind), ("overdrive/api.ErrIndex", laid_overdrive_api_ErrIndex), ("overdrive/api.ErrTarget", laid_overdrive_api_ErrTarget), ("overdrive/api.ErrShape", laid_overdrive_api_ErrShape), ("overdrive/api.ErrEnd", laid_overdrive_api_ErrEnd), ("overdrive/api.ErrByte", laid_overdrive_api_ErrByte), ("overdrive/api.ErrStack", laid_overdrive_api_ErrStack), ("overdrive/api.ErrMerge", laid_overdrive_api_ErrMerge), ("overdrive/api.ErrFall", laid_overdrive_api_ErrFall), ("overdrive/api.ErrLimit", laid_overdrive_api_ErrLimit), ("overdrive/api.ErrNode", laid_overdrive_api_ErrNode), ("overdrive/api.ErrState", laid_overdrive_api_ErrState), ("overdrive/api.ErrRoom", laid_overdrive_api_ErrRoom), ("unicode/utf8.first", laid_unicode_utf8_first)], narrowed := true }
def ModelStepsUptoSaid : Prop := modelStepsUptoRow.holds Tryz.pinned (OpenSpec.upto modelStepsSpec)

/-- 'overdrivelaw9.ModelEnds', WHERE WHAT IT READS IS OF BULK AT MOST 1048576: true; the input reads as it did. -/
def modelEndsUptoRow : OpenClaim := { program := "ytojobkhidlfeoaagreatdoor", sum := "0c5e035c06f0bc9d47149257139cd501a99781d892d7b9f483b8b9a48b9b9731", func := "overdrive/overdrivelaw9.ModelEnds", spec := "modelEnds", inPlace := ["internal/bytealg.IndexByteString", "internal/bytealg.IndexString", "sync/atomic.AddInt64"], unfollowed := true, recurses := true, named := ["overdrive/api.ErrMany", "overdrive/api.ErrKind", "unicode/utf8.first", "unicode/utf8.acceptRanges", "overdrive/api.ErrTarget", "overdrive/api.ErrIndex", "overdrive/api.ErrFall", "overdrive/api.ErrMerge", "overdrive/api.ErrStack", "overdrive/api.ErrLimit", "internal/bytealg.MaxLen"], apart := false, laid := [("unicode/utf8.acceptRanges", laid_unicode_utf8_acceptRanges), ("overdrive/api.ErrMany", laid_overdrive_api_ErrMany), ("overdrive/api.ErrKind", laid_overdrive_api_ErrKind), ("overdrive/api.ErrIndex", laid_overdrive_api_ErrIndex), ("overdrive/api.ErrTarget", laid_overdrive_api_ErrTarget), ("overdrive/api.ErrStack", laid_overdrive_api_ErrStack), ("overdrive/api.ErrMerge", laid_overdrive_api_ErrMerge), ("overdrive/api.ErrFall", laid_overdrive_api_ErrFall), ("overdrive/api.ErrLimit", laid_overdrive_api_ErrLimit), ("unicode/utf8.first", laid_unicode_utf8_first)], narrowed := true }
def ModelEndsUptoSaid : Prop := modelEndsUptoRow.holds Tryz.pinned (OpenSpec.upto modelEndsSpec)

/-- 'overdrivelaw9.ModelRuns', WHERE WHAT IT READS IS OF BULK AT MOST 1048576: true; the input reads as it did. -/
def modelRunsUptoRow : OpenClaim := { program := "ytojobkhidlfeoaagreatdoor", sum := "0c5e035c06f0bc9d47149257139cd501a99781d892d7b9f483b8b9a48b9b9731", func := "overdrive/overdrivelaw9.ModelRuns", spec := "modelRuns", inPlace := ["internal/bytealg.IndexByteString", "internal/bytealg.IndexString", "sync/atomic.AddInt64"], unfollowed := true, recurses := true, named := ["overdrive/api.ErrMany", "overdrive/api.ErrKind", "unicode/utf8.first", "unicode/utf8.acceptRanges", "overdrive/api.ErrTarget", "overdrive/api.ErrIndex", "overdrive/api.ErrFall", "overdrive/api.ErrMerge", "overdrive/api.ErrStack", "overdrive/api.ErrLimit", "overdrive/api.ErrShape", "overdrive/api.ErrEnd", "overdrive/api.ErrByte", "overdrive/api.ErrNode", "overdrive/api.ErrState", "overdrive/api.ErrRoom", "internal/bytealg.MaxLen"], apart := false, laid := [("unicode/utf8.acceptRanges", laid_unicode_utf8_acceptRanges), ("overdrive/api.ErrMany", laid_overdrive_api_ErrMany), ("overdrive/api.ErrKind", laid_overdrive_api_ErrKind), ("overdrive/api.ErrIndex", laid_overdrive_api_ErrIndex), ("overdrive/api.ErrTarget", laid_overdrive_api_ErrTarget), ("overdrive/api.ErrShape", laid_overdrive_api_ErrShape), ("overdrive/api.ErrEnd", laid_overdrive_api_ErrEnd), ("overdrive/api.ErrByte", laid_overdrive_api_ErrByte), ("overdrive/api.ErrStack", laid_overdrive_api_ErrStack), ("overdrive/api.ErrMerge", laid_overdrive_api_ErrMerge), ("overdrive/api.ErrFall", laid_overdrive_api_ErrFall), ("overdrive/api.ErrLimit", laid_overdrive_api_ErrLimit), ("overdrive/api.ErrNode", laid_overdrive_api_ErrNode), ("overdrive/api.ErrState", laid_overdrive_api_ErrState), ("overdrive/api.ErrRoom", laid_overdrive_api_ErrRoom), ("unicode/utf8.first", laid_unicode_utf8_first)], narrowed := true }
def ModelRunsUptoSaid : Prop := modelRunsUptoRow.holds Tryz.pinned (OpenSpec.upto modelRunsSpec)

/-- 'overdrivelaw9.ModelCalls', WHERE WHAT IT READS IS OF BULK AT MOST 1048576: true; the input reads as it did. -/
def modelCallsUptoRow : OpenClaim := { program := "ytojobkhidlfeoaagreatdoor", sum := "0c5e035c06f0bc9d47149257139cd501a99781d892d7b9f483b8b9a48b9b9731", func := "overdrive/overdrivelaw9.ModelCalls", spec := "modelCalls", inPlace := ["internal/bytealg.IndexByteString", "internal/bytealg.IndexString", "sync/atomic.AddInt64"], unfollowed := true, recurses := true, named := ["overdrive/api.ErrMany", "overdrive/api.ErrKind", "unicode/utf8.first", "unicode/utf8.acceptRanges", "overdrive/api.ErrTarget", "overdrive/api.ErrIndex", "overdrive/api.ErrFall", "overdrive/api.ErrMerge", "overdrive/api.ErrStack", "overdrive/api.ErrLimit", "internal/bytealg.MaxLen"], apart := false, laid := [("unicode/utf8.acceptRanges", laid_unicode_utf8_acceptRanges), ("overdrive/api.ErrMany", laid_overdrive_api_ErrMany), ("overdrive/api.ErrKind", laid_overdrive_api_ErrKind), ("overdrive/api.ErrIndex", laid_overdrive_api_ErrIndex), ("overdrive/api.ErrTarget", laid_overdrive_api_ErrTarget), ("overdrive/api.ErrStack", laid_overdrive_api_ErrStack), ("overdrive/api.ErrMerge", laid_overdrive_api_ErrMerge), ("overdrive/api.ErrFall", laid_overdrive_api_ErrFall), ("overdrive/api.ErrLimit", laid_overdrive_api_ErrLimit), ("unicode/utf8.first", laid_unicode_utf8_first)], narrowed := true }
def ModelCallsUptoSaid : Prop := modelCallsUptoRow.holds Tryz.pinned (OpenSpec.upto modelCallsSpec)

/-- 'overdrivelaw9.ModelLinks', WHERE WHAT IT READS IS OF BULK AT MOST 1048576: true; the input reads as it did. -/
def modelLinksUptoRow : OpenClaim := { program := "ytojobkhidlfeoaagreatdoor", sum := "0c5e035c06f0bc9d47149257139cd501a99781d892d7b9f483b8b9a48b9b9731", func := "overdrive/overdrivelaw9.ModelLinks", spec := "modelLinks", inPlace := ["internal/bytealg.IndexByteString", "internal/bytealg.IndexString", "sync/atomic.AddInt64"], unfollowed := true, recurses := true, named := ["overdrive/api.ErrMany", "overdrive/api.ErrKind", "unicode/utf8.first", "unicode/utf8.acceptRanges", "overdrive/api.ErrTarget", "overdrive/api.ErrIndex", "overdrive/api.ErrFall", "overdrive/api.ErrMerge", "overdrive/api.ErrStack", "overdrive/api.ErrLimit", "internal/bytealg.MaxLen"], apart := false, laid := [("unicode/utf8.acceptRanges", laid_unicode_utf8_acceptRanges), ("overdrive/api.ErrMany", laid_overdrive_api_ErrMany), ("overdrive/api.ErrKind", laid_overdrive_api_ErrKind), ("overdrive/api.ErrIndex", laid_overdrive_api_ErrIndex), ("overdrive/api.ErrTarget", laid_overdrive_api_ErrTarget), ("overdrive/api.ErrStack", laid_overdrive_api_ErrStack), ("overdrive/api.ErrMerge", laid_overdrive_api_ErrMerge), ("overdrive/api.ErrFall", laid_overdrive_api_ErrFall), ("overdrive/api.ErrLimit", laid_overdrive_api_ErrLimit), ("unicode/utf8.first", laid_unicode_utf8_first)], narrowed := true }
def ModelLinksUptoSaid : Prop := modelLinksUptoRow.holds Tryz.pinned (OpenSpec.upto modelLinksSpec)

end Rows
end Go.Proofs.YtojobkhidlfeoaaGreatDoor
