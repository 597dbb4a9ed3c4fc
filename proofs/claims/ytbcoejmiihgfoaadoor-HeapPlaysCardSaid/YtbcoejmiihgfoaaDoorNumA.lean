/- overdriveworld.Number: a number below a bound. -/
import Derived.Test.YtbcoejmiihgfoaaDoorLib
import Derived.Test.YtbcoejmiihgfoaaDoorRows
/-! overdriveworld.Number: a number below a bound. -/
namespace Go.Proofs.YtbcoejmiihgfoaaDoor
open Go.RowKit

theorem tmod_bd (a b : Int) (hb : 0 < b) : -b < a.tmod b ∧ a.tmod b < b := by
 rcases Int.lt_or_le a 0 with h | h
 ·have h1 : a.tmod b = -((-a).tmod b) := by
   have := Int.neg_tmod (-a) b
   rwa [Int.neg_neg] at this
  have h2 : (-a).tmod b = (-a) % b := Int.tmod_eq_emod_of_nonneg (by omega)
  have h3 := Int.emod_nonneg (-a) (show b ≠ 0 by omega)
  have h4 := Int.emod_lt_of_pos (-a) hb
  omega
 ·have h2 : a.tmod b = a % b := Int.tmod_eq_emod_of_nonneg h
  have h3 := Int.emod_nonneg a (show b ≠ 0 by omega)
  have h4 := Int.emod_lt_of_pos a hb
  omega
theorem tmod_add_emod (a b : Int) : (a.tmod b + b) % b = a % b := by
 have h := Int.tmod_def a b
 rw [h, show a - b * a.tdiv b + b = a + b * (1 - a.tdiv b) by rw [Int.mul_sub, Int.mul_one]; omega, Int.add_mul_emod_self_left]

set_option maxHeartbeats 400000 in
theorem number_any (n b : Int) (w : World) (h0 : 1 ≤ b) (h1 : b ≤ 1000000) :
  Calls Tryd.prog 14 #[.int .i64 n, .int .i64 b] w fun e w' => e = .returned (.int .i64 (n % b)) ∧ w = w' := by
 have hb := tmod_bd n b (by omega)
 have HM := Lib.hid (tmod_add_emod n b)
 go_enter Tryd.func14, Tryd.ntmps14
 go_wp2_with fail
 go_ret
 refine ⟨?_, rfl⟩
 rw [← HM.out]; rfl
end Go.Proofs.YtbcoejmiihgfoaaDoor
