/- prog.uses. -/
import Derived.Test.YtjndigfmemdmjaaDoorLetA
namespace Go.Proofs.YtjndigfmemdmjaaDoor
open Go.RowKit

theorem ua_contains (op : Int) : ([3, 4, 22, 23, 24, 25, 26, 27, 28, 29, 30, 32] : List Int).contains op = decide (UA op) := by
  rw [Bool.eq_iff_iff, List.contains_iff_mem, decide_eq_true_eq]
  simp only [List.mem_cons, List.not_mem_nil, or_false]
  rfl

set_option maxRecDepth 100000 in
set_option maxHeartbeats 1000000 in
theorem uses_any (op : Int) (w : World) :
    Calls Tryd.prog 54 #[.int .i64 op] w fun e w' => e = .returned (.tuple #[.bool (decide (UA op)), .bool (decide (UB op)), .bool (decide (op = 1))]) ∧ Upd [] w w' := by
  have HU := Lib.hid ((Upd.refl [] w).alloc (.cells (icells [3, 4, 22, 23, 24, 25, 26, 27, 28, 29, 30, 32]) 3))
  have hC := Tryd.slices_Contains_int w.heap.size 0 12 12 [3, 4, 22, 23, 24, 25, 26, 27, 28, 29, 30, 32] op (w.alloc (.cells (icells [3, 4, 22, 23, 24, 25, 26, 27, 28, 29, 30, 32]) 3)) (by decide) (by decide) (fun j hj => by
    rw [Nat.zero_add, cell_of (heap_alloc_new w _), icells_get _ _ hj])
  rw [show (([3, 4, 22, 23, 24, 25, 26, 27, 28, 29, 30, 32] : List Int).take 12) = [3, 4, 22, 23, 24, 25, 26, 27, 28, 29, 30, 32] from rfl, ua_contains] at hC
  have HC := Lib.hid hC
  clear hC
  go_enter Tryd.func54, Tryd.ntmps54
  go_wp2_with fail
  refine HC.out.mono ?_
  rintro e w' ⟨rfl, hw⟩
  rw [hw]
  clear hw
  generalize (w.alloc (.cells (icells [3, 4, 22, 23, 24, 25, 26, 27, 28, 29, 30, 32]) 3)) = w1 at HU ⊢
  clear HC
  go_wp2_with fail
  all_goals
    go_ret3
    refine ⟨?_, HU.out⟩
    first
      | (rename_i h25
         subst h25
         show Ending.returned (.tuple #[.bool (decide (UA 25)), .bool true, .bool false]) = _
         rw [show decide (UB 25) = true by decide, show decide ((25 : Int) = 1) = false by decide])
      | (show Ending.returned (.tuple #[.bool (decide (UA op)), .bool (op == 25 || op == 26), .bool (op == 1)]) = _
         rw [show decide (UB op) = (op == 25 || op == 26) from by rw [Bool.eq_iff_iff, decide_eq_true_iff]; simp [UB], show decide (op = 1) = (op == 1) from by rw [Bool.eq_iff_iff]; simp])
end Go.Proofs.YtjndigfmemdmjaaDoor
