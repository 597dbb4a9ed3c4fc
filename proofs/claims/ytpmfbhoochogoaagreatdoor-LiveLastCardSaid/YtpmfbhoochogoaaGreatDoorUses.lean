/- prog.letters, uses; strings.Trim and slices.Contains as they are asked there. prog.uses. -/
import Derived.Test.YtpmfbhoochogoaaGreatDoorShelf
import Derived.Test.YtpmfbhoochogoaaGreatDoorLetL
import Derived.Shelf.Strings.SlTrimAscii
/-! prog.letters, uses; strings.Trim and slices.Contains as they are asked there. -/
namespace Go.Proofs.YtpmfbhoochogoaaGreatDoor
open Go.RowKit

theorem trim_any (s : ByteArray) (w : World) (hs : s.size ≤ 1000000000000000) :
    Calls Tryz.prog 94 #[.string s, .string ⟨#[73, 82]⟩] w fun e w' => e = .returned (.string (bs (Lib.trimS s.data.toList [73, 82]))) ∧ Upd [] w w' :=
  (Any.strings_Trim_laid Tryz.lays160 (by kernel_rfl) s ⟨#[73, 82]⟩ w (by omega) (by decide) (ascii_of_all (by decide))).mono fun _ _ ⟨h1, h2⟩ => ⟨h1, Upd.of_below h2⟩

set_option maxRecDepth 100000 in
set_option maxHeartbeats 1000000 in
theorem pletters_any (s : ByteArray) (w : World) (hs : s.size ≤ 1000000000000000) :
    Calls Tryz.prog 74 #[.string s] w fun e w' => e = .returned (.bool (lettersB s)) ∧ Upd [] w w' := by
  have he : ((bs (Lib.trimS s.data.toList [73, 82])).toList == []) = lettersB s := by
    rw [bs_list, Bool.eq_iff_iff, ← letters_trim, beq_iff_eq]
  have HE := Lib.hid he
  clear he
  go_enter Tryz.func74, Tryz.ntmps74
  go_wp2_with fail
  refine (trim_any s _ hs).mono ?_
  rintro e w' ⟨rfl, hu⟩
  generalize bs (Lib.trimS s.data.toList [73, 82]) = t at HE ⊢
  go_wp2_with fail
  go_ret
  exact ⟨by rw [← HE.out]; cases t.toList <;> rfl, hu⟩
end Go.Proofs.YtpmfbhoochogoaaGreatDoor

/-! prog.uses. -/
namespace Go.Proofs.YtpmfbhoochogoaaGreatDoor
open Go.RowKit

theorem ua_contains (op : Int) : ([3, 4, 22, 23, 24, 25, 26, 27, 28, 29, 30, 32] : List Int).contains op = decide (UA op) := by
  rw [Bool.eq_iff_iff, List.contains_iff_mem, decide_eq_true_eq]
  simp only [List.mem_cons, List.not_mem_nil, or_false]
  rfl

set_option maxRecDepth 100000 in
set_option maxHeartbeats 1000000 in
theorem uses_any (op : Int) (w : World) :
    Calls Tryz.prog 96 #[.int .i64 op] w fun e w' => e = .returned (.tuple #[.bool (decide (UA op)), .bool (decide (UB op)), .bool (decide (op = 1))]) ∧ Upd [] w w' := by
  have HU := Lib.hid ((Upd.refl [] w).alloc (.cells (icells [3, 4, 22, 23, 24, 25, 26, 27, 28, 29, 30, 32]) 3))
  have hC := Tryz.slices_Contains_int w.heap.size 0 12 12 [3, 4, 22, 23, 24, 25, 26, 27, 28, 29, 30, 32] op (w.alloc (.cells (icells [3, 4, 22, 23, 24, 25, 26, 27, 28, 29, 30, 32]) 3)) (by decide) (by decide) (fun j hj => by
    rw [Nat.zero_add, cell_of (heap_alloc_new w _), icells_get _ _ hj])
  rw [show (([3, 4, 22, 23, 24, 25, 26, 27, 28, 29, 30, 32] : List Int).take 12) = [3, 4, 22, 23, 24, 25, 26, 27, 28, 29, 30, 32] from rfl, ua_contains] at hC
  have HC := Lib.hid hC
  clear hC
  go_enter Tryz.func96, Tryz.ntmps96
  go_wp2_with fail
  refine HC.out.mono ?_
  rintro e w' ⟨rfl, hw⟩
  rw [hw]
  clear hw
  generalize (w.alloc (.cells (icells [3, 4, 22, 23, 24, 25, 26, 27, 28, 29, 30, 32]) 3)) = w1 at HU ⊢
  clear HC
  go_wp2_with fail
  all_goals
    go_ret3
    refine ⟨?_, HU.out⟩
    first
      | (rename_i h25
         subst h25
         show Ending.returned (.tuple #[.bool (decide (UA 25)), .bool true, .bool false]) = _
         rw [show decide (UB 25) = true by decide, show decide ((25 : Int) = 1) = false by decide])
      | (show Ending.returned (.tuple #[.bool (decide (UA op)), .bool (op == 25 || op == 26), .bool (op == 1)]) = _
         rw [show decide (UB op) = (op == 25 || op == 26) from by rw [Bool.eq_iff_iff, decide_eq_true_iff]; simp [UB], show decide (op = 1) = (op == 1) from by rw [Bool.eq_iff_iff]; simp])
end Go.Proofs.YtpmfbhoochogoaaGreatDoor
