/-
  NARROWER THAN 'FOR EVERY INPUT', by the rows' own cells (each row's printed sentence says how): ModelEchoes: laid · ModelArrays: laid.
  DERIVED. THE GIVEN ROWS OF THIS SEAT. 2 by the template 'for every input the law returns true; each argument reads behind the call as it read before'; 0 by the template 'total and deterministic' (their statements: YtojobkhidlfeoaaDoorTotals.lean).
  GIVEN WITH THE SEED: the statements are not yours to turn. If you find one false, say at which input.
  Laid BY PROGRAM, IN A SANDBOX (cutbox-rows.mjs): the forced cells as the released guide's own fill.sh prints them over the translation 3ab6bc5628241645… (all of the seat's roots in one cut). By AI agents, Wed Nov 11 2026. No macro, syntax, notation, axiom, sorry.
-/
import Derived.Test.YtojobkhidlfeoaaDoorChecked
import GoSem.PinnedTables
import GoSem.Claim
import GoSem.ClaimJoined
import GoSem.ClaimMapViews
import Derived.JoinedTies
import Derived.KernelRfl
namespace Go.Proofs.YtojobkhidlfeoaaDoor
/- THE CELL 'sum', in the pinned program and in every row, IS THE sha256 OF THE DUMP (.gsa) THAT YtojobkhidlfeoaaDoorProg.lean LOADS. Nothing in Lean hashes anything: it is a label: what it is worth is what the hold of that sum in a sandbox is worth. -/
noncomputable def Tryd.pinned : Pinned := { name := "ytojobkhidlfeoaadoor", sum := "3ab6bc56282416458c7f6083f4498f473c3ea33de70b94e78c445692dacdf059", checked := Tryd.checked }
namespace Rows
def none {H : Type} : Left H := { results := [], args := [] }

/- WHAT THE LISTED PACKAGE-LEVEL VARIABLES READ AS WHEN THE CALL BEGINS. Each datum BY PROGRAM (the guide's laid-datum.mjs) off the statement by which the dump's own 'gosem.cut.vars' lays the variable. In a bare row this is a premise. The card (YtojobkhidlfeoaaDoorCards.lean) ties it to the program's text. -/
def laid_unicode_utf8_acceptRanges {H : Type} : DataW H := .agg [.agg [.lit (.int .u8 128), .lit (.int .u8 191)], .agg [.lit (.int .u8 160), .lit (.int .u8 191)], .agg [.lit (.int .u8 128), .lit (.int .u8 159)], .agg [.lit (.int .u8 144), .lit (.int .u8 191)], .agg [.lit (.int .u8 128), .lit (.int .u8 143)], .agg [.lit (.int .u8 0), .lit (.int .u8 0)], .agg [.lit (.int .u8 0), .lit (.int .u8 0)], .agg [.lit (.int .u8 0), .lit (.int .u8 0)], .agg [.lit (.int .u8 0), .lit (.int .u8 0)], .agg [.lit (.int .u8 0), .lit (.int .u8 0)], .agg [.lit (.int .u8 0), .lit (.int .u8 0)], .agg [.lit (.int .u8 0), .lit (.int .u8 0)], .agg [.lit (.int .u8 0), .lit (.int .u8 0)], .agg [.lit (.int .u8 0), .lit (.int .u8 0)], .agg [.lit (.int .u8 0), .lit (.int .u8 0)], .agg [.lit (.int .u8 0), .lit (.int .u8 0)]]
def laid_overdrive_api_ErrMany {H : Type} : DataW H := .iface "*errors.errorString" (.ptr (.agg [.lit (.string [116, 111, 111, 32, 109, 97, 110, 121])]))
def laid_overdrive_api_ErrKind {H : Type} : DataW H := .iface "*errors.errorString" (.ptr (.agg [.lit (.string [110, 111, 32, 115, 117, 99, 104, 32, 107, 105, 110, 100])]))
def laid_overdrive_api_ErrIndex {H : Type} : DataW H := .iface "*errors.errorString" (.ptr (.agg [.lit (.string [110, 111, 32, 115, 117, 99, 104, 32, 116, 104, 105, 110, 103])]))
def laid_overdrive_api_ErrTarget {H : Type} : DataW H := .iface "*errors.errorString" (.ptr (.agg [.lit (.string [110, 111, 32, 112, 108, 97, 99, 101, 32, 116, 111, 32, 106, 117, 109, 112, 32, 116, 111])]))
def laid_overdrive_api_ErrStack {H : Type} : DataW H := .iface "*errors.errorString" (.ptr (.agg [.lit (.string [116, 111, 111, 32, 108, 105, 116, 116, 108, 101, 32, 111, 114, 32, 116, 111, 111, 32, 109, 117, 99, 104, 32, 111, 110, 32, 116, 104, 101, 32, 115, 116, 97, 99, 107])]))
def laid_overdrive_api_ErrMerge {H : Type} : DataW H := .iface "*errors.errorString" (.ptr (.agg [.lit (.string [116, 119, 111, 32, 119, 97, 121, 115, 32, 116, 104, 97, 116, 32, 100, 111, 32, 110, 111, 116, 32, 97, 103, 114, 101, 101])]))
def laid_overdrive_api_ErrFall {H : Type} : DataW H := .iface "*errors.errorString" (.ptr (.agg [.lit (.string [105, 116, 32, 102, 97, 108, 108, 115, 32, 111, 102, 102, 32, 116, 104, 101, 32, 101, 110, 100])]))
def laid_overdrive_api_ErrLimit {H : Type} : DataW H := .iface "*errors.errorString" (.ptr (.agg [.lit (.string [110, 111, 32, 115, 117, 99, 104, 32, 108, 105, 109, 105, 116])]))
/-- One of Go's own tables, pinned by name: the form's constant. -/
def laid_unicode_utf8_first : DataW Unit := Go.Pinned.utf8First

/-- 'overdrivelaw9.ModelEchoes': WHATEVER THE INPUT: true; the input reads as it did. -/
def modelEchoesSpec : ChangeSpec := { name := "modelEchoes", fn := fun _ => fun
  | [d1, d2] => { results := [.lit (.bool true)], args := [d1, d2] }
  | _ => none }
def modelEchoesRow : OpenClaim := { program := "ytojobkhidlfeoaadoor", sum := "3ab6bc56282416458c7f6083f4498f473c3ea33de70b94e78c445692dacdf059", func := "overdrive/overdrivelaw9.ModelEchoes", spec := "modelEchoes", inPlace := ["internal/bytealg.IndexByteString", "internal/bytealg.IndexString"], unfollowed := true, recurses := true, named := ["overdrive/api.ErrMany", "overdrive/api.ErrKind", "unicode/utf8.first", "unicode/utf8.acceptRanges", "overdrive/api.ErrTarget", "overdrive/api.ErrIndex", "overdrive/api.ErrFall", "overdrive/api.ErrMerge", "overdrive/api.ErrStack", "overdrive/api.ErrLimit", "internal/bytealg.MaxLen"], apart := false, laid := [("unicode/utf8.acceptRanges", laid_unicode_utf8_acceptRanges), ("overdrive/api.ErrMany", laid_overdrive_api_ErrMany), ("overdrive/api.ErrKind", laid_overdrive_api_ErrKind), ("overdrive/api.ErrIndex", laid_overdrive_api_ErrIndex), ("overdrive/api.ErrTarget", laid_overdrive_api_ErrTarget), ("overdrive/api.ErrStack", laid_overdrive_api_ErrStack), ("overdrive/api.ErrMerge", laid_overdrive_api_ErrMerge), ("overdrive/api.ErrFall", laid_overdrive_api_ErrFall), ("overdrive/api.ErrLimit", laid_overdrive_api_ErrLimit), ("unicode/utf8.first", laid_unicode_utf8_first)] }
def ModelEchoesSaid : Prop := modelEchoesRow.holds Tryd.pinned (OpenSpec.ofChange modelEchoesSpec)

/-- ITS FALSE NEIGHBOUR: 'it returns false'. Refute it at one input. -/
def modelEchoesWrong : ChangeSpec := { name := "modelEchoes", fn := fun _ => fun
  | [d1, d2] => { results := [.lit (.bool false)], args := [d1, d2] }
  | _ => none }
def ModelEchoesWrongFalsely : Prop := modelEchoesRow.holds Tryd.pinned (OpenSpec.ofChange modelEchoesWrong)

/-- 'overdrivelaw9.ModelArrays': WHATEVER THE INPUT: true; the input reads as it did. -/
def modelArraysSpec : ChangeSpec := { name := "modelArrays", fn := fun _ => fun
  | [d1, d2, d3] => { results := [.lit (.bool true)], args := [d1, d2, d3] }
  | _ => none }
def modelArraysRow : OpenClaim := { program := "ytojobkhidlfeoaadoor", sum := "3ab6bc56282416458c7f6083f4498f473c3ea33de70b94e78c445692dacdf059", func := "overdrive/overdrivelaw9.ModelArrays", spec := "modelArrays", inPlace := ["internal/bytealg.IndexByteString", "internal/bytealg.IndexString"], unfollowed := true, recurses := true, named := ["overdrive/api.ErrMany", "overdrive/api.ErrKind", "unicode/utf8.first", "unicode/utf8.acceptRanges", "overdrive/api.ErrTarget", "overdrive/api.ErrIndex", "overdrive/api.ErrFall", "overdrive/api.ErrMerge", "overdrive/api.ErrStack", "overdrive/api.ErrLimit", "internal/bytealg.MaxLen"], apart := false, laid := [("unicode/utf8.acceptRanges", laid_unicode_utf8_acceptRanges), ("overdrive/api.ErrMany", laid_overdrive_api_ErrMany), ("overdrive/api.ErrKind", laid_overdrive_api_ErrKind), ("overdrive/api.ErrIndex", laid_overdrive_api_ErrIndex), ("overdrive/api.ErrTarget", laid_overdrive_api_ErrTarget), ("overdrive/api.ErrStack", laid_overdrive_api_ErrStack), ("overdrive/api.ErrMerge", laid_overdrive_api_ErrMerge), ("overdrive/api.ErrFall", laid_overdrive_api_ErrFall), ("overdrive/api.ErrLimit", laid_overdrive_api_ErrLimit), ("unicode/utf8.first", laid_unicode_utf8_first)] }
def ModelArraysSaid : Prop := modelArraysRow.holds Tryd.pinned (OpenSpec.ofChange modelArraysSpec)

/-- ITS FALSE NEIGHBOUR: 'it returns false'. Refute it at one input. -/
def modelArraysWrong : ChangeSpec := { name := "modelArrays", fn := fun _ => fun
  | [d1, d2, d3] => { results := [.lit (.bool false)], args := [d1, d2, d3] }
  | _ => none }
def ModelArraysWrongFalsely : Prop := modelArraysRow.holds Tryd.pinned (OpenSpec.ofChange modelArraysWrong)

/- THE SECOND FORM. 'bulk': how many values and letters a reading holds, each counted each time it is reached (what is shared counts as often as it is met; a slice's spare places count too). A statement '..UptoSaid' is the law's where the arguments, and the package variables that the reading takes, are together of bulk at most 1048576: NARROWER than '..Said'. Prove '..Said' where nothing that the law and all that it calls make is longer than what came in: it says more and counts as full. Else prove '..UptoSaid'. A law counts once. -/
mutual
def uptoBulk {H : Type} : DataW H → Nat
  | .lit (.string bytes) => bytes.length + 1
  | .lit _ => 1
  | .nil => 1
  | .ptr d => uptoBulk d + 1
  | .slice elems spare => uptoBulkAll elems + uptoBulkAll spare + 1
  | .agg parts => uptoBulkAll parts + 1
  | .iface _ d => uptoBulk d + 1
  | .map entries => uptoBulkEntries entries + 1
  | .held _ => 1
def uptoBulkAll {H : Type} : List (DataW H) → Nat
  | [] => 0
  | d :: r => uptoBulk d + uptoBulkAll r
def uptoBulkEntries {H : Type} : List (Lit × DataW H) → Nat
  | [] => 0
  | x :: r => uptoBulkEntry x + uptoBulkEntries r
def uptoBulkEntry {H : Type} : Lit × DataW H → Nat
  | (.string bytes, d) => bytes.length + uptoBulk d + 1
  | (_, d) => uptoBulk d + 1
 end
def uptoSmall : (H : Type) → List (DataW H) → Bool := fun _ ds => decide (uptoBulkAll ds ≤ 1048576)
def OpenSpec.upto (s : _root_.Go.ChangeSpec) : _root_.Go.OpenSpec := { _root_.Go.OpenSpec.ofChange s with cond := some uptoSmall }

/-- 'overdrivelaw9.ModelEchoes', WHERE WHAT IT READS IS OF BULK AT MOST 1048576: true; the input reads as it did. -/
def modelEchoesUptoRow : OpenClaim := { program := "ytojobkhidlfeoaadoor", sum := "3ab6bc56282416458c7f6083f4498f473c3ea33de70b94e78c445692dacdf059", func := "overdrive/overdrivelaw9.ModelEchoes", spec := "modelEchoes", inPlace := ["internal/bytealg.IndexByteString", "internal/bytealg.IndexString"], unfollowed := true, recurses := true, named := ["overdrive/api.ErrMany", "overdrive/api.ErrKind", "unicode/utf8.first", "unicode/utf8.acceptRanges", "overdrive/api.ErrTarget", "overdrive/api.ErrIndex", "overdrive/api.ErrFall", "overdrive/api.ErrMerge", "overdrive/api.ErrStack", "overdrive/api.ErrLimit", "internal/bytealg.MaxLen"], apart := false, laid := [("unicode/utf8.acceptRanges", laid_unicode_utf8_acceptRanges), ("overdrive/api.ErrMany", laid_overdrive_api_ErrMany), ("overdrive/api.ErrKind", laid_overdrive_api_ErrKind), ("overdrive/api.ErrIndex", laid_overdrive_api_ErrIndex), ("overdrive/api.ErrTarget", laid_overdrive_api_ErrTarget), ("overdrive/api.ErrStack", laid_overdrive_api_ErrStack), ("overdrive/api.ErrMerge", laid_overdrive_api_ErrMerge), ("overdrive/api.ErrFall", laid_overdrive_api_ErrFall), ("overdrive/api.ErrLimit", laid_overdrive_api_ErrLimit), ("unicode/utf8.first", laid_unicode_utf8_first)], narrowed := true }
def ModelEchoesUptoSaid : Prop := modelEchoesUptoRow.holds Tryd.pinned (OpenSpec.upto modelEchoesSpec)

/-- 'overdrivelaw9.ModelArrays', WHERE WHAT IT READS IS OF BULK AT MOST 1048576: true; the input reads as it did. -/
def modelArraysUptoRow : OpenClaim := { program := "ytojobkhidlfeoaadoor", sum := "3ab6bc56282416458c7f6083f4498f473c3ea33de70b94e78c445692dacdf059", func := "overdrive/overdrivelaw9.ModelArrays", spec := "modelArrays", inPlace := ["internal/bytealg.IndexByteString", "internal/bytealg.IndexString"], unfollowed := true, recurses := true, named := ["overdrive/api.ErrMany", "overdrive/api.ErrKind", "unicode/utf8.first", "unicode/utf8.acceptRanges", "overdrive/api.ErrTarget", "overdrive/api.ErrIndex", "overdrive/api.ErrFall", "overdrive/api.ErrMerge", "overdrive/api.ErrStack", "overdrive/api.ErrLimit", "internal/bytealg.MaxLen"], apart := false, laid := [("unicode/utf8.acceptRanges", laid_unicode_utf8_acceptRanges), ("overdrive/api.ErrMany", laid_overdrive_api_ErrMany), ("overdrive/api.ErrKind", laid_overdrive_api_ErrKind), ("overdrive/api.ErrIndex", laid_overdrive_api_ErrIndex), ("overdrive/api.ErrTarget", laid_overdrive_api_ErrTarget), ("overdrive/api.ErrStack", laid_overdrive_api_ErrStack), ("overdrive/api.ErrMerge", laid_overdrive_api_ErrMerge), ("overdrive/api.ErrFall", laid_overdrive_api_ErrFall), ("overdrive/api.ErrLimit", laid_overdrive_api_ErrLimit), ("unicode/utf8.first", laid_unicode_utf8_first)], narrowed := true }
def ModelArraysUptoSaid : Prop := modelArraysUptoRow.holds Tryd.pinned (OpenSpec.upto modelArraysSpec)

end Rows
end Go.Proofs.YtojobkhidlfeoaaDoor
