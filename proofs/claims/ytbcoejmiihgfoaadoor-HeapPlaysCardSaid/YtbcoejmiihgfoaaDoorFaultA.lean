/- A fault's value; overdriveref.Bare, None, There. -/
import Derived.Test.YtbcoejmiihgfoaaDoorInts
import Derived.Test.YtbcoejmiihgfoaaDoorRows
namespace Go.Proofs.YtbcoejmiihgfoaaDoor
open Go.RowKit

/-- A fault's value. -/
def FaultV (w : World) (v : Value) (code : Int) (at_ : List Int) : Prop := ∃ s b, v = .agg #[.int .i64 code, s] ∧ IntsV w s b at_

theorem fault_code (w : World) (c : Int) (p : Option Addr) (n k : Nat) : (Instr.field 31 (.agg #[.int .i64 c, .slice p n k]) 0).run Tryd.prog w = .ok (.int .i64 c) w := by kernel_rfl

set_option maxHeartbeats 400000 in
theorem bare_any (c : Int) (w : World) : Calls Tryd.prog 25 #[.int .i64 c] w fun e w' => e = .returned (.agg #[.int .i64 c, .slice none 0 0]) ∧ Upd [] w w' := by
 go_enter Tryd.func25, Tryd.ntmps25
 go_wp2_with fail
 refine bodyPost_ret (v := .agg #[.int .i64 c, .slice none 0 0]) (by simp [results, Tryd.results25, go_sem]) rfl ?_
 exact ⟨rfl, by first | exact (Upd.refl _ _).alloc _ | exact ((Upd.refl _ _).alloc _).setCell (Or.inr (by simp)) _⟩

set_option maxHeartbeats 400000 in
theorem none_any (w : World) : Calls Tryd.prog 29 #[] w fun e w' => e = .returned (.agg #[.int .i64 0, .slice none 0 0]) ∧ Upd [] w w' := by
 go_enter Tryd.func29, Tryd.ntmps29
 go_wp2_with fail
 refine bodyPost_ret (v := .agg #[.int .i64 0, .slice none 0 0]) (by simp [results, Tryd.results29, go_sem]) rfl ?_
 exact ⟨rfl, by first | exact (Upd.refl _ _).alloc _ | exact ((Upd.refl _ _).alloc _).setCell (Or.inr (by simp)) _⟩

set_option maxHeartbeats 400000 in
theorem there_fault (c x y : Int) (w : World) : Calls Tryd.prog 26 #[.int .i64 c, .int .i64 x, .int .i64 y] w fun e w' => ∃ b, e = .returned (.agg #[.int .i64 c, .slice (some ⟨b, 0, none⟩) 2 2]) ∧ IntsV w' (.slice (some ⟨b, 0, none⟩) 2 2) b [x, y] ∧ Upd [] w w' ∧ w.heap.size ≤ b := by
 go_enter Tryd.func26, Tryd.ntmps26
 go_wp2_with fail
 refine bodyPost_ret (v := .agg #[.int .i64 c, .slice (some ⟨w.heap.size + 1, 0, none⟩) 2 2]) (by simp [results, Tryd.results26, go_sem]) rfl ?_
 refine ⟨w.heap.size + 1, rfl, ?_, ((Upd.refl _ _).alloc _).alloc _, by omega⟩
 have h : IntsV (((w.alloc (.cells #[.int .i64 c, .slice (some ⟨w.heap.size + 1, 0, none⟩) 2 2] 31))).alloc (.cells #[.int .i64 x, .int .i64 y] 3)) _ _ _ := ints_lit (w.alloc (.cells #[.int .i64 c, .slice (some ⟨w.heap.size + 1, 0, none⟩) 2 2] 31)) [x, y] 3 rfl
 simpa using h

end Go.Proofs.YtbcoejmiihgfoaaDoor
