/- A fault's value; overdriveref.Bare, None, There. -/
import Derived.Test.YtojobkhidlfeoaaGreatDoorInts
import Derived.Test.YtojobkhidlfeoaaGreatDoorRows
namespace Go.Proofs.YtojobkhidlfeoaaGreatDoor
open Go.RowKit

/-- A fault's value. -/
def FaultV (w : World) (v : Value) (code : Int) (at_ : List Int) : Prop := ∃ s b, v = .agg #[.int .i64 code, s] ∧ IntsV w s b at_

theorem fault_code (w : World) (c : Int) (p : Option Addr) (n k : Nat) : (Instr.field 110 (.agg #[.int .i64 c, .slice p n k]) 0).run Tryz.prog w = .ok (.int .i64 c) w := by kernel_rfl

set_option maxHeartbeats 400000 in
theorem bare_any (c : Int) (w : World) : Calls Tryz.prog 49 #[.int .i64 c] w fun e w' => e = .returned (.agg #[.int .i64 c, .slice none 0 0]) ∧ Upd [] w w' := by
 go_enter Tryz.func49, Tryz.ntmps49
 go_wp2_with fail
 refine bodyPost_ret (v := .agg #[.int .i64 c, .slice none 0 0]) (by simp [results, Tryz.results49, go_sem]) rfl ?_
 exact ⟨rfl, by first | exact (Upd.refl _ _).alloc _ | exact ((Upd.refl _ _).alloc _).setCell (Or.inr (by simp)) _⟩

set_option maxHeartbeats 400000 in
theorem none_any (w : World) : Calls Tryz.prog 107 #[] w fun e w' => e = .returned (.agg #[.int .i64 0, .slice none 0 0]) ∧ Upd [] w w' := by
 go_enter Tryz.func107, Tryz.ntmps107
 go_wp2_with fail
 refine bodyPost_ret (v := .agg #[.int .i64 0, .slice none 0 0]) (by simp [results, Tryz.results107, go_sem]) rfl ?_
 exact ⟨rfl, by first | exact (Upd.refl _ _).alloc _ | exact ((Upd.refl _ _).alloc _).setCell (Or.inr (by simp)) _⟩

set_option maxHeartbeats 400000 in
theorem there_fault (c x y : Int) (w : World) : Calls Tryz.prog 117 #[.int .i64 c, .int .i64 x, .int .i64 y] w fun e w' => ∃ b, e = .returned (.agg #[.int .i64 c, .slice (some ⟨b, 0, none⟩) 2 2]) ∧ IntsV w' (.slice (some ⟨b, 0, none⟩) 2 2) b [x, y] ∧ Upd [] w w' ∧ w.heap.size ≤ b := by
 go_enter Tryz.func117, Tryz.ntmps117
 go_wp2_with fail
 refine bodyPost_ret (v := .agg #[.int .i64 c, .slice (some ⟨w.heap.size + 1, 0, none⟩) 2 2]) (by simp [results, Tryz.results117, go_sem]) rfl ?_
 refine ⟨w.heap.size + 1, rfl, ?_, ((Upd.refl _ _).alloc _).alloc _, by omega⟩
 have h : IntsV (((w.alloc (.cells #[.int .i64 c, .slice (some ⟨w.heap.size + 1, 0, none⟩) 2 2] 110))).alloc (.cells #[.int .i64 x, .int .i64 y] 3)) _ _ _ := ints_lit (w.alloc (.cells #[.int .i64 c, .slice (some ⟨w.heap.size + 1, 0, none⟩) 2 2] 110)) [x, y] 3 rfl
 simpa using h

end Go.Proofs.YtojobkhidlfeoaaGreatDoor
