/- prog.in. -/
import Derived.Test.YtojobkhidlfeoaaDoorRows
import Derived.Test.YtojobkhidlfeoaaDoorLib
import Derived.Deep.QuietTactic
import Derived.BigQuiet
namespace Go.Proofs.YtojobkhidlfeoaaDoor
open Go.RowKit

set_option maxHeartbeats 400000 in
theorem pin_any (i n : Int) (w : World) : Calls Tryd.prog 37 #[.int .i64 i, .int .i64 n] w fun e w' => e = .returned (.bool (decide (0 ≤ i ∧ i < n))) ∧ w = w' := by
 by_cases h0 : 0 ≤ i
 ·have d0 : decide (0 ≤ i) = true := by simpa using h0
  have e : decide (0 ≤ i ∧ i < n) = decide (i < n) := by simp [h0]
  rw [e]
  go_enter Tryd.func37, Tryd.ntmps37
  go_wp2_with fail
  go_ret
  exact ⟨rfl, rfl⟩
 ·have d0 : decide (0 ≤ i) = false := by simpa using h0
  have e : decide (0 ≤ i ∧ i < n) = false := by simp [h0]
  rw [e]
  go_enter Tryd.func37, Tryd.ntmps37
  go_wp2_with fail
  go_ret
  exact ⟨rfl, rfl⟩

end Go.Proofs.YtojobkhidlfeoaaDoor
