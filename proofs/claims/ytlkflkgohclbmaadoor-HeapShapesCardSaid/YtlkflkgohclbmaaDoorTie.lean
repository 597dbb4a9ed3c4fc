/-
  DERIVED. GIVEN WITH THE SEED: THE PROGRAM's TIES (one call each: nine closed facts by the kernel) AND EACH ROW's TIE, after the 31st guide's Derived/Test/Toyas{Tie, Card}.lean. No idea stands in it: it is a product of the set-up. Laid BY PROGRAM, IN A SANDBOX (cutbox-door.mjs). By AI agents, Wed Nov 11 2026. No macro, syntax, notation, axiom, sorry.
-/
import Derived.Test.YtlkflkgohclbmaaDoorRows
import Derived.LaidByTextLater
import Derived.SevenTiedAt
import Derived.LaidSub
import Derived.LaidOnce
namespace Go.Proofs.YtlkflkgohclbmaaDoor
open Go
set_option maxRecDepth 100000
theorem seatTie1 : Tryd.prog.laidByTextLater [("math/bits.deBruijn64tab", Rows.laid_math_bits_deBruijn64tab), ("overdrive/api.ErrMany", Rows.laid_overdrive_api_ErrMany), ("overdrive/api.ErrKind", Rows.laid_overdrive_api_ErrKind), ("overdrive/api.ErrIndex", Rows.laid_overdrive_api_ErrIndex), ("overdrive/api.ErrTarget", Rows.laid_overdrive_api_ErrTarget), ("overdrive/api.ErrShape", Rows.laid_overdrive_api_ErrShape), ("overdrive/api.ErrEnd", Rows.laid_overdrive_api_ErrEnd), ("overdrive/api.ErrByte", Rows.laid_overdrive_api_ErrByte), ("overdrive/api.ErrStack", Rows.laid_overdrive_api_ErrStack), ("overdrive/api.ErrMerge", Rows.laid_overdrive_api_ErrMerge), ("overdrive/api.ErrFall", Rows.laid_overdrive_api_ErrFall), ("overdrive/api.ErrLimit", Rows.laid_overdrive_api_ErrLimit), ("overdrive/api.ErrNode", Rows.laid_overdrive_api_ErrNode), ("overdrive/api.ErrState", Rows.laid_overdrive_api_ErrState), ("overdrive/api.ErrRoom", Rows.laid_overdrive_api_ErrRoom)] [.data, .sentinel, .sentinel, .sentinel, .sentinel, .sentinel, .sentinel, .sentinel, .sentinel, .sentinel, .sentinel, .sentinel, .sentinel, .sentinel, .sentinel] true :=
  Program.laidByTextLater_by_one 280 8 65 (by kernel_rfl) (by kernel_rfl) (by kernel_rfl) (by kernel_rfl) (by kernel_rfl) (by kernel_rfl) (fun _ _ => by kernel_rfl)
theorem noOwnUnsafe : Tryd.pinned.checked.prog.headLifts.contains "ownunsafe" = false := by kernel_rfl
theorem tie : Tryd.prog.laidByTextLater [("overdrive/api.ErrLimit", Rows.laid_overdrive_api_ErrLimit)] [.sentinel] true :=
  Program.laidByTextLater.sub seatTie1 ["overdrive/api.ErrLimit"] (by kernel_rfl) (by kernel_rfl)
theorem heapKinds_row_tie : Rows.heapKindsRow.laidByTextAt .later Tryd.pinned [.sentinel] true :=
  OpenClaim.laidByTextAt_later rfl rfl tie noOwnUnsafe
theorem heapShapes_row_tie : Rows.heapShapesRow.laidByTextAt .later Tryd.pinned [.sentinel] true :=
  OpenClaim.laidByTextAt_later rfl rfl tie noOwnUnsafe
theorem heapFills_row_tie : Rows.heapFillsRow.laidByTextAt .later Tryd.pinned [.sentinel] true :=
  OpenClaim.laidByTextAt_later rfl rfl tie noOwnUnsafe
theorem heapRing_row_tie : Rows.heapRingRow.laidByTextAt .later Tryd.pinned [.sentinel] true :=
  OpenClaim.laidByTextAt_later rfl rfl tie noOwnUnsafe
theorem heapLeast_row_tie : Rows.heapLeastRow.laidByTextAt .later Tryd.pinned [.sentinel] true :=
  OpenClaim.laidByTextAt_later rfl rfl tie noOwnUnsafe
theorem tie2 : Tryd.prog.laidByTextLater [("math/bits.deBruijn64tab", Rows.laid_math_bits_deBruijn64tab), ("overdrive/api.ErrMany", Rows.laid_overdrive_api_ErrMany), ("overdrive/api.ErrKind", Rows.laid_overdrive_api_ErrKind), ("overdrive/api.ErrIndex", Rows.laid_overdrive_api_ErrIndex), ("overdrive/api.ErrTarget", Rows.laid_overdrive_api_ErrTarget), ("overdrive/api.ErrShape", Rows.laid_overdrive_api_ErrShape), ("overdrive/api.ErrEnd", Rows.laid_overdrive_api_ErrEnd), ("overdrive/api.ErrByte", Rows.laid_overdrive_api_ErrByte), ("overdrive/api.ErrStack", Rows.laid_overdrive_api_ErrStack), ("overdrive/api.ErrMerge", Rows.laid_overdrive_api_ErrMerge), ("overdrive/api.ErrFall", Rows.laid_overdrive_api_ErrFall), ("overdrive/api.ErrLimit", Rows.laid_overdrive_api_ErrLimit), ("overdrive/api.ErrNode", Rows.laid_overdrive_api_ErrNode), ("overdrive/api.ErrState", Rows.laid_overdrive_api_ErrState), ("overdrive/api.ErrRoom", Rows.laid_overdrive_api_ErrRoom)] [.data, .sentinel, .sentinel, .sentinel, .sentinel, .sentinel, .sentinel, .sentinel, .sentinel, .sentinel, .sentinel, .sentinel, .sentinel, .sentinel, .sentinel] true :=
  Program.laidByTextLater.sub seatTie1 ["math/bits.deBruijn64tab", "overdrive/api.ErrMany", "overdrive/api.ErrKind", "overdrive/api.ErrIndex", "overdrive/api.ErrTarget", "overdrive/api.ErrShape", "overdrive/api.ErrEnd", "overdrive/api.ErrByte", "overdrive/api.ErrStack", "overdrive/api.ErrMerge", "overdrive/api.ErrFall", "overdrive/api.ErrLimit", "overdrive/api.ErrNode", "overdrive/api.ErrState", "overdrive/api.ErrRoom"] (by kernel_rfl) (by kernel_rfl)
theorem heapPlays_row_tie : Rows.heapPlaysRow.laidByTextAt .later Tryd.pinned [.data, .sentinel, .sentinel, .sentinel, .sentinel, .sentinel, .sentinel, .sentinel, .sentinel, .sentinel, .sentinel, .sentinel, .sentinel, .sentinel, .sentinel] true :=
  OpenClaim.laidByTextAt_later rfl rfl tie2 noOwnUnsafe
theorem tie3 : Tryd.prog.laidByTextLater [("math/bits.deBruijn64tab", Rows.laid_math_bits_deBruijn64tab), ("overdrive/api.ErrLimit", Rows.laid_overdrive_api_ErrLimit)] [.data, .sentinel] true :=
  Program.laidByTextLater.sub seatTie1 ["math/bits.deBruijn64tab", "overdrive/api.ErrLimit"] (by kernel_rfl) (by kernel_rfl)
theorem gcOwn_row_tie : Rows.gcOwnRow.laidByTextAt .later Tryd.pinned [.data, .sentinel] true :=
  OpenClaim.laidByTextAt_later rfl rfl tie3 noOwnUnsafe
theorem gcChain_row_tie : Rows.gcChainRow.laidByTextAt .later Tryd.pinned [.data, .sentinel] true :=
  OpenClaim.laidByTextAt_later rfl rfl tie3 noOwnUnsafe
theorem gcPlays_row_tie : Rows.gcPlaysRow.laidByTextAt .later Tryd.pinned [.data, .sentinel] true :=
  OpenClaim.laidByTextAt_later rfl rfl tie3 noOwnUnsafe
theorem gcAgain_row_tie : Rows.gcAgainRow.laidByTextAt .later Tryd.pinned [.data, .sentinel] true :=
  OpenClaim.laidByTextAt_later rfl rfl tie3 noOwnUnsafe
theorem gcNone_row_tie : Rows.gcNoneRow.laidByTextAt .later Tryd.pinned [.data, .sentinel] true :=
  OpenClaim.laidByTextAt_later rfl rfl tie3 noOwnUnsafe
theorem gcRoom_row_tie : Rows.gcRoomRow.laidByTextAt .later Tryd.pinned [.data, .sentinel] true :=
  OpenClaim.laidByTextAt_later rfl rfl tie3 noOwnUnsafe
theorem heapKindsUpto_row_tie : Rows.heapKindsUptoRow.laidByTextAt .later Tryd.pinned [.sentinel] true :=
  OpenClaim.laidByTextAt_later rfl rfl tie noOwnUnsafe
theorem heapShapesUpto_row_tie : Rows.heapShapesUptoRow.laidByTextAt .later Tryd.pinned [.sentinel] true :=
  OpenClaim.laidByTextAt_later rfl rfl tie noOwnUnsafe
theorem heapFillsUpto_row_tie : Rows.heapFillsUptoRow.laidByTextAt .later Tryd.pinned [.sentinel] true :=
  OpenClaim.laidByTextAt_later rfl rfl tie noOwnUnsafe
theorem heapRingUpto_row_tie : Rows.heapRingUptoRow.laidByTextAt .later Tryd.pinned [.sentinel] true :=
  OpenClaim.laidByTextAt_later rfl rfl tie noOwnUnsafe
theorem heapLeastUpto_row_tie : Rows.heapLeastUptoRow.laidByTextAt .later Tryd.pinned [.sentinel] true :=
  OpenClaim.laidByTextAt_later rfl rfl tie noOwnUnsafe
theorem heapPlaysUpto_row_tie : Rows.heapPlaysUptoRow.laidByTextAt .later Tryd.pinned [.data, .sentinel, .sentinel, .sentinel, .sentinel, .sentinel, .sentinel, .sentinel, .sentinel, .sentinel, .sentinel, .sentinel, .sentinel, .sentinel, .sentinel] true :=
  OpenClaim.laidByTextAt_later rfl rfl tie2 noOwnUnsafe
theorem gcOwnUpto_row_tie : Rows.gcOwnUptoRow.laidByTextAt .later Tryd.pinned [.data, .sentinel] true :=
  OpenClaim.laidByTextAt_later rfl rfl tie3 noOwnUnsafe
theorem gcChainUpto_row_tie : Rows.gcChainUptoRow.laidByTextAt .later Tryd.pinned [.data, .sentinel] true :=
  OpenClaim.laidByTextAt_later rfl rfl tie3 noOwnUnsafe
theorem gcPlaysUpto_row_tie : Rows.gcPlaysUptoRow.laidByTextAt .later Tryd.pinned [.data, .sentinel] true :=
  OpenClaim.laidByTextAt_later rfl rfl tie3 noOwnUnsafe
theorem gcAgainUpto_row_tie : Rows.gcAgainUptoRow.laidByTextAt .later Tryd.pinned [.data, .sentinel] true :=
  OpenClaim.laidByTextAt_later rfl rfl tie3 noOwnUnsafe
theorem gcNoneUpto_row_tie : Rows.gcNoneUptoRow.laidByTextAt .later Tryd.pinned [.data, .sentinel] true :=
  OpenClaim.laidByTextAt_later rfl rfl tie3 noOwnUnsafe
theorem gcRoomUpto_row_tie : Rows.gcRoomUptoRow.laidByTextAt .later Tryd.pinned [.data, .sentinel] true :=
  OpenClaim.laidByTextAt_later rfl rfl tie3 noOwnUnsafe
end Go.Proofs.YtlkflkgohclbmaaDoor
