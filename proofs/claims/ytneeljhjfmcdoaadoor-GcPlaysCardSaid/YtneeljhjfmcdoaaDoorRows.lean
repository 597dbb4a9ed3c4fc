/-
  NARROWER THAN 'FOR EVERY INPUT', by the rows' own cells (each row's printed sentence says how): GcOwn: laid · GcChain: laid · GcPlays: laid · GcAgain: laid · GcNone: laid · GcRoom: laid.
  DERIVED. THE GIVEN ROWS OF THIS SEAT. 6 by the template 'for every input the law returns true; each argument reads behind the call as it read before'; 0 by the template 'total and deterministic' (their statements: YtneeljhjfmcdoaaDoorTotals.lean).
  GIVEN WITH THE SEED: the statements are not yours to turn. If you find one false, say at which input.
  Laid BY PROGRAM, IN A SANDBOX (cutbox-rows.mjs): the forced cells as the released guide's own fill.sh prints them over the translation b13a03b009733fd1… (all of the seat's roots in one cut). By AI agents, Wed Nov 11 2026. No macro, syntax, notation, axiom, sorry.
-/
import Derived.Test.YtneeljhjfmcdoaaDoorChecked
import GoSem.Claim
import GoSem.ClaimJoined
import GoSem.ClaimMapViews
import Derived.JoinedTies
import Derived.KernelRfl
namespace Go.Proofs.YtneeljhjfmcdoaaDoor
/- THE CELL 'sum', in the pinned program and in every row, IS THE sha256 OF THE DUMP (.gsa) THAT YtneeljhjfmcdoaaDoorProg.lean LOADS. Nothing in Lean hashes anything: it is a label: what it is worth is what the hold of that sum in a sandbox is worth. -/
noncomputable def Tryd.pinned : Pinned := { name := "ytneeljhjfmcdoaadoor", sum := "b13a03b009733fd129c97ea7c392b84a0bb91d5df4d10a321c3a3d6fca8374cd", checked := Tryd.checked }
namespace Rows
def none {H : Type} : Left H := { results := [], args := [] }

/- WHAT THE LISTED PACKAGE-LEVEL VARIABLES READ AS WHEN THE CALL BEGINS. Each datum BY PROGRAM (the guide's laid-datum.mjs) off the statement by which the dump's own 'gosem.cut.vars' lays the variable. In a bare row this is a premise. The card (YtneeljhjfmcdoaaDoorCards.lean) ties it to the program's text. -/
def laid_math_bits_deBruijn64tab {H : Type} : DataW H := .agg [.lit (.int .u8 0), .lit (.int .u8 1), .lit (.int .u8 56), .lit (.int .u8 2), .lit (.int .u8 57), .lit (.int .u8 49), .lit (.int .u8 28), .lit (.int .u8 3), .lit (.int .u8 61), .lit (.int .u8 58), .lit (.int .u8 42), .lit (.int .u8 50), .lit (.int .u8 38), .lit (.int .u8 29), .lit (.int .u8 17), .lit (.int .u8 4), .lit (.int .u8 62), .lit (.int .u8 47), .lit (.int .u8 59), .lit (.int .u8 36), .lit (.int .u8 45), .lit (.int .u8 43), .lit (.int .u8 51), .lit (.int .u8 22), .lit (.int .u8 53), .lit (.int .u8 39), .lit (.int .u8 33), .lit (.int .u8 30), .lit (.int .u8 24), .lit (.int .u8 18), .lit (.int .u8 12), .lit (.int .u8 5), .lit (.int .u8 63), .lit (.int .u8 55), .lit (.int .u8 48), .lit (.int .u8 27), .lit (.int .u8 60), .lit (.int .u8 41), .lit (.int .u8 37), .lit (.int .u8 16), .lit (.int .u8 46), .lit (.int .u8 35), .lit (.int .u8 44), .lit (.int .u8 21), .lit (.int .u8 52), .lit (.int .u8 32), .lit (.int .u8 23), .lit (.int .u8 11), .lit (.int .u8 54), .lit (.int .u8 26), .lit (.int .u8 40), .lit (.int .u8 15), .lit (.int .u8 34), .lit (.int .u8 20), .lit (.int .u8 31), .lit (.int .u8 10), .lit (.int .u8 25), .lit (.int .u8 14), .lit (.int .u8 19), .lit (.int .u8 9), .lit (.int .u8 13), .lit (.int .u8 8), .lit (.int .u8 7), .lit (.int .u8 6)]
def laid_overdrive_api_ErrLimit {H : Type} : DataW H := .iface "*errors.errorString" (.ptr (.agg [.lit (.string [110, 111, 32, 115, 117, 99, 104, 32, 108, 105, 109, 105, 116])]))

/-- 'overdrivelaw12.GcOwn': WHATEVER THE INPUT: true; the input reads as it did. -/
def gcOwnSpec : ChangeSpec := { name := "gcOwn", fn := fun _ => fun
  | [d1, d2, d3] => { results := [.lit (.bool true)], args := [d1, d2, d3] }
  | _ => none }
def gcOwnRow : OpenClaim := { program := "ytneeljhjfmcdoaadoor", sum := "b13a03b009733fd129c97ea7c392b84a0bb91d5df4d10a321c3a3d6fca8374cd", func := "overdrive/overdrivelaw12.GcOwn", spec := "gcOwn", unfollowed := true, recurses := true, named := ["overdrive/api.ErrLimit", "math/bits.deBruijn64tab"], apart := false, laid := [("math/bits.deBruijn64tab", laid_math_bits_deBruijn64tab), ("overdrive/api.ErrLimit", laid_overdrive_api_ErrLimit)] }
def GcOwnSaid : Prop := gcOwnRow.holds Tryd.pinned (OpenSpec.ofChange gcOwnSpec)

/-- ITS FALSE NEIGHBOUR: 'it returns false'. Refute it at one input. -/
def gcOwnWrong : ChangeSpec := { name := "gcOwn", fn := fun _ => fun
  | [d1, d2, d3] => { results := [.lit (.bool false)], args := [d1, d2, d3] }
  | _ => none }
def GcOwnWrongFalsely : Prop := gcOwnRow.holds Tryd.pinned (OpenSpec.ofChange gcOwnWrong)

/-- 'overdrivelaw12.GcChain': WHATEVER THE INPUT: true; the input reads as it did. -/
def gcChainSpec : ChangeSpec := { name := "gcChain", fn := fun _ => fun
  | [d1, d2, d3] => { results := [.lit (.bool true)], args := [d1, d2, d3] }
  | _ => none }
def gcChainRow : OpenClaim := { program := "ytneeljhjfmcdoaadoor", sum := "b13a03b009733fd129c97ea7c392b84a0bb91d5df4d10a321c3a3d6fca8374cd", func := "overdrive/overdrivelaw12.GcChain", spec := "gcChain", unfollowed := true, recurses := true, named := ["overdrive/api.ErrLimit", "math/bits.deBruijn64tab"], apart := false, laid := [("math/bits.deBruijn64tab", laid_math_bits_deBruijn64tab), ("overdrive/api.ErrLimit", laid_overdrive_api_ErrLimit)] }
def GcChainSaid : Prop := gcChainRow.holds Tryd.pinned (OpenSpec.ofChange gcChainSpec)

/-- ITS FALSE NEIGHBOUR: 'it returns false'. Refute it at one input. -/
def gcChainWrong : ChangeSpec := { name := "gcChain", fn := fun _ => fun
  | [d1, d2, d3] => { results := [.lit (.bool false)], args := [d1, d2, d3] }
  | _ => none }
def GcChainWrongFalsely : Prop := gcChainRow.holds Tryd.pinned (OpenSpec.ofChange gcChainWrong)

/-- 'overdrivelaw12.GcPlays': WHATEVER THE INPUT: true; the input reads as it did. -/
def gcPlaysSpec : ChangeSpec := { name := "gcPlays", fn := fun _ => fun
  | [d1, d2, d3, d4] => { results := [.lit (.bool true)], args := [d1, d2, d3, d4] }
  | _ => none }
def gcPlaysRow : OpenClaim := { program := "ytneeljhjfmcdoaadoor", sum := "b13a03b009733fd129c97ea7c392b84a0bb91d5df4d10a321c3a3d6fca8374cd", func := "overdrive/overdrivelaw12.GcPlays", spec := "gcPlays", unfollowed := true, recurses := true, named := ["overdrive/api.ErrLimit", "math/bits.deBruijn64tab"], apart := false, laid := [("math/bits.deBruijn64tab", laid_math_bits_deBruijn64tab), ("overdrive/api.ErrLimit", laid_overdrive_api_ErrLimit)] }
def GcPlaysSaid : Prop := gcPlaysRow.holds Tryd.pinned (OpenSpec.ofChange gcPlaysSpec)

/-- ITS FALSE NEIGHBOUR: 'it returns false'. Refute it at one input. -/
def gcPlaysWrong : ChangeSpec := { name := "gcPlays", fn := fun _ => fun
  | [d1, d2, d3, d4] => { results := [.lit (.bool false)], args := [d1, d2, d3, d4] }
  | _ => none }
def GcPlaysWrongFalsely : Prop := gcPlaysRow.holds Tryd.pinned (OpenSpec.ofChange gcPlaysWrong)

/-- 'overdrivelaw12.GcAgain': WHATEVER THE INPUT: true; the input reads as it did. -/
def gcAgainSpec : ChangeSpec := { name := "gcAgain", fn := fun _ => fun
  | [d1, d2, d3] => { results := [.lit (.bool true)], args := [d1, d2, d3] }
  | _ => none }
def gcAgainRow : OpenClaim := { program := "ytneeljhjfmcdoaadoor", sum := "b13a03b009733fd129c97ea7c392b84a0bb91d5df4d10a321c3a3d6fca8374cd", func := "overdrive/overdrivelaw12.GcAgain", spec := "gcAgain", unfollowed := true, recurses := true, named := ["overdrive/api.ErrLimit", "math/bits.deBruijn64tab"], apart := false, laid := [("math/bits.deBruijn64tab", laid_math_bits_deBruijn64tab), ("overdrive/api.ErrLimit", laid_overdrive_api_ErrLimit)] }
def GcAgainSaid : Prop := gcAgainRow.holds Tryd.pinned (OpenSpec.ofChange gcAgainSpec)

/-- ITS FALSE NEIGHBOUR: 'it returns false'. Refute it at one input. -/
def gcAgainWrong : ChangeSpec := { name := "gcAgain", fn := fun _ => fun
  | [d1, d2, d3] => { results := [.lit (.bool false)], args := [d1, d2, d3] }
  | _ => none }
def GcAgainWrongFalsely : Prop := gcAgainRow.holds Tryd.pinned (OpenSpec.ofChange gcAgainWrong)

/-- 'overdrivelaw12.GcNone': WHATEVER THE INPUT: true; the input reads as it did. -/
def gcNoneSpec : ChangeSpec := { name := "gcNone", fn := fun _ => fun
  | [d1, d2] => { results := [.lit (.bool true)], args := [d1, d2] }
  | _ => none }
def gcNoneRow : OpenClaim := { program := "ytneeljhjfmcdoaadoor", sum := "b13a03b009733fd129c97ea7c392b84a0bb91d5df4d10a321c3a3d6fca8374cd", func := "overdrive/overdrivelaw12.GcNone", spec := "gcNone", unfollowed := true, recurses := true, named := ["overdrive/api.ErrLimit", "math/bits.deBruijn64tab"], apart := false, laid := [("math/bits.deBruijn64tab", laid_math_bits_deBruijn64tab), ("overdrive/api.ErrLimit", laid_overdrive_api_ErrLimit)] }
def GcNoneSaid : Prop := gcNoneRow.holds Tryd.pinned (OpenSpec.ofChange gcNoneSpec)

/-- ITS FALSE NEIGHBOUR: 'it returns false'. Refute it at one input. -/
def gcNoneWrong : ChangeSpec := { name := "gcNone", fn := fun _ => fun
  | [d1, d2] => { results := [.lit (.bool false)], args := [d1, d2] }
  | _ => none }
def GcNoneWrongFalsely : Prop := gcNoneRow.holds Tryd.pinned (OpenSpec.ofChange gcNoneWrong)

/-- 'overdrivelaw12.GcRoom': WHATEVER THE INPUT: true; the input reads as it did. -/
def gcRoomSpec : ChangeSpec := { name := "gcRoom", fn := fun _ => fun
  | [d1, d2, d3] => { results := [.lit (.bool true)], args := [d1, d2, d3] }
  | _ => none }
def gcRoomRow : OpenClaim := { program := "ytneeljhjfmcdoaadoor", sum := "b13a03b009733fd129c97ea7c392b84a0bb91d5df4d10a321c3a3d6fca8374cd", func := "overdrive/overdrivelaw12.GcRoom", spec := "gcRoom", unfollowed := true, recurses := true, named := ["overdrive/api.ErrLimit", "math/bits.deBruijn64tab"], apart := false, laid := [("math/bits.deBruijn64tab", laid_math_bits_deBruijn64tab), ("overdrive/api.ErrLimit", laid_overdrive_api_ErrLimit)] }
def GcRoomSaid : Prop := gcRoomRow.holds Tryd.pinned (OpenSpec.ofChange gcRoomSpec)

/-- ITS FALSE NEIGHBOUR: 'it returns false'. Refute it at one input. -/
def gcRoomWrong : ChangeSpec := { name := "gcRoom", fn := fun _ => fun
  | [d1, d2, d3] => { results := [.lit (.bool false)], args := [d1, d2, d3] }
  | _ => none }
def GcRoomWrongFalsely : Prop := gcRoomRow.holds Tryd.pinned (OpenSpec.ofChange gcRoomWrong)

/- THE SECOND FORM. 'bulk': how many values and letters a reading holds, each counted each time it is reached (what is shared counts as often as it is met; a slice's spare places count too). A statement '..UptoSaid' is the law's where the arguments, and the package variables that the reading takes, are together of bulk at most 1048576: NARROWER than '..Said'. Prove '..Said' where nothing that the law and all that it calls make is longer than what came in: it says more and counts as full. Else prove '..UptoSaid'. A law counts once. -/
mutual
def uptoBulk {H : Type} : DataW H → Nat
  | .lit (.string bytes) => bytes.length + 1
  | .lit _ => 1
  | .nil => 1
  | .ptr d => uptoBulk d + 1
  | .slice elems spare => uptoBulkAll elems + uptoBulkAll spare + 1
  | .agg parts => uptoBulkAll parts + 1
  | .iface _ d => uptoBulk d + 1
  | .map entries => uptoBulkEntries entries + 1
  | .held _ => 1
def uptoBulkAll {H : Type} : List (DataW H) → Nat
  | [] => 0
  | d :: r => uptoBulk d + uptoBulkAll r
def uptoBulkEntries {H : Type} : List (Lit × DataW H) → Nat
  | [] => 0
  | x :: r => uptoBulkEntry x + uptoBulkEntries r
def uptoBulkEntry {H : Type} : Lit × DataW H → Nat
  | (.string bytes, d) => bytes.length + uptoBulk d + 1
  | (_, d) => uptoBulk d + 1
 end
def uptoSmall : (H : Type) → List (DataW H) → Bool := fun _ ds => decide (uptoBulkAll ds ≤ 1048576)
def OpenSpec.upto (s : _root_.Go.ChangeSpec) : _root_.Go.OpenSpec := { _root_.Go.OpenSpec.ofChange s with cond := some uptoSmall }

/-- 'overdrivelaw12.GcOwn', WHERE WHAT IT READS IS OF BULK AT MOST 1048576: true; the input reads as it did. -/
def gcOwnUptoRow : OpenClaim := { program := "ytneeljhjfmcdoaadoor", sum := "b13a03b009733fd129c97ea7c392b84a0bb91d5df4d10a321c3a3d6fca8374cd", func := "overdrive/overdrivelaw12.GcOwn", spec := "gcOwn", unfollowed := true, recurses := true, named := ["overdrive/api.ErrLimit", "math/bits.deBruijn64tab"], apart := false, laid := [("math/bits.deBruijn64tab", laid_math_bits_deBruijn64tab), ("overdrive/api.ErrLimit", laid_overdrive_api_ErrLimit)], narrowed := true }
def GcOwnUptoSaid : Prop := gcOwnUptoRow.holds Tryd.pinned (OpenSpec.upto gcOwnSpec)

/-- 'overdrivelaw12.GcChain', WHERE WHAT IT READS IS OF BULK AT MOST 1048576: true; the input reads as it did. -/
def gcChainUptoRow : OpenClaim := { program := "ytneeljhjfmcdoaadoor", sum := "b13a03b009733fd129c97ea7c392b84a0bb91d5df4d10a321c3a3d6fca8374cd", func := "overdrive/overdrivelaw12.GcChain", spec := "gcChain", unfollowed := true, recurses := true, named := ["overdrive/api.ErrLimit", "math/bits.deBruijn64tab"], apart := false, laid := [("math/bits.deBruijn64tab", laid_math_bits_deBruijn64tab), ("overdrive/api.ErrLimit", laid_overdrive_api_ErrLimit)], narrowed := true }
def GcChainUptoSaid : Prop := gcChainUptoRow.holds Tryd.pinned (OpenSpec.upto gcChainSpec)

/-- 'overdrivelaw12.GcPlays', WHERE WHAT IT READS IS OF BULK AT MOST 1048576: true; the input reads as it did. -/
def gcPlaysUptoRow : OpenClaim := { program := "ytneeljhjfmcdoaadoor", sum := "b13a03b009733fd129c97ea7c392b84a0bb91d5df4d10a321c3a3d6fca8374cd", func := "overdrive/overdrivelaw12.GcPlays", spec := "gcPlays", unfollowed := true, recurses := true, named := ["overdrive/api.ErrLimit", "math/bits.deBruijn64tab"], apart := false, laid := [("math/bits.deBruijn64tab", laid_math_bits_deBruijn64tab), ("overdrive/api.ErrLimit", laid_overdrive_api_ErrLimit)], narrowed := true }
def GcPlaysUptoSaid : Prop := gcPlaysUptoRow.holds Tryd.pinned (OpenSpec.upto gcPlaysSpec)

/-- 'overdrivelaw12.GcAgain', WHERE WHAT IT READS IS OF BULK AT MOST 1048576: true; the input reads as it did. -/
def gcAgainUptoRow : OpenClaim := { program := "ytneeljhjfmcdoaadoor", sum := "b13a03b009733fd129c97ea7c392b84a0bb91d5df4d10a321c3a3d6fca8374cd", func := "overdrive/overdrivelaw12.GcAgain", spec := "gcAgain", unfollowed := true, recurses := true, named := ["overdrive/api.ErrLimit", "math/bits.deBruijn64tab"], apart := false, laid := [("math/bits.deBruijn64tab", laid_math_bits_deBruijn64tab), ("overdrive/api.ErrLimit", laid_overdrive_api_ErrLimit)], narrowed := true }
def GcAgainUptoSaid : Prop := gcAgainUptoRow.holds Tryd.pinned (OpenSpec.upto gcAgainSpec)

/-- 'overdrivelaw12.GcNone', WHERE WHAT IT READS IS OF BULK AT MOST 1048576: true; the input reads as it did. -/
def gcNoneUptoRow : OpenClaim := { program := "ytneeljhjfmcdoaadoor", sum := "b13a03b009733fd129c97ea7c392b84a0bb91d5df4d10a321c3a3d6fca8374cd", func := "overdrive/overdrivelaw12.GcNone", spec := "gcNone", unfollowed := true, recurses := true, named := ["overdrive/api.ErrLimit", "math/bits.deBruijn64tab"], apart := false, laid := [("math/bits.deBruijn64tab", laid_math_bits_deBruijn64tab), ("overdrive/api.ErrLimit", laid_overdrive_api_ErrLimit)], narrowed := true }
def GcNoneUptoSaid : Prop := gcNoneUptoRow.holds Tryd.pinned (OpenSpec.upto gcNoneSpec)

/-- 'overdrivelaw12.GcRoom', WHERE WHAT IT READS IS OF BULK AT MOST 1048576: true; the input reads as it did. -/
def gcRoomUptoRow : OpenClaim := { program := "ytneeljhjfmcdoaadoor", sum := "b13a03b009733fd129c97ea7c392b84a0bb91d5df4d10a321c3a3d6fca8374cd", func := "overdrive/overdrivelaw12.GcRoom", spec := "gcRoom", unfollowed := true, recurses := true, named := ["overdrive/api.ErrLimit", "math/bits.deBruijn64tab"], apart := false, laid := [("math/bits.deBruijn64tab", laid_math_bits_deBruijn64tab), ("overdrive/api.ErrLimit", laid_overdrive_api_ErrLimit)], narrowed := true }
def GcRoomUptoSaid : Prop := gcRoomUptoRow.holds Tryd.pinned (OpenSpec.upto gcRoomSpec)

end Rows
end Go.Proofs.YtneeljhjfmcdoaaDoor
