/- The walk of 'first' of the statements on package arena. -/
import Derived.Test.YtlddnpcpioligaaDoorAr3
namespace Go.Proofs.YtlddnpcpioligaaDoor
open Go.RowKit

def firstL (k : Nat) : List Int := (List.range 4).map fun i => if i < k then (i : Int) + 1 else 0
theorem firstL_set (k : Nat) (h : k < 4) : (firstL k).set k ((k : Int) + 1) = firstL (k + 1) := by
  have : k = 0 ∨ k = 1 ∨ k = 2 ∨ k = 3 := by omega
  rcases this with rfl | rfl | rfl | rfl <;> rfl
theorem firstL_len (k : Nat) : (firstL k).length = 4 := by simp [firstL]

/-- The struct of a space, new: its three cells. -/
theorem Upd.lt {S : List Nat} {w w' : World} (h : Upd S w w') {k : Nat} (hk : k < w.heap.size) : k < w'.heap.size := Nat.lt_of_lt_of_le hk h.size

set_option maxRecDepth 100000 in
set_option maxHeartbeats 1000000 in
theorem first_any (w : World) :
    Calls Tryd.prog 7 #[] w fun e w' => e = .returned (.bool true) ∧ Upd [] w w' := by
  go_enter Tryd.func7, Tryd.ntmps7
  go_wp2_with fail
  refine (new_ok _ _ (by omega) (by omega)).mono ?_
  rintro e w1 ⟨rfl, har, hu, hz⟩
  have HZ := Lib.hid hz
  clear hz
  go_wp2_with fail
  go_loopw [3] (fun i wr => ∃ k : Nat, k ≤ 4 ∧ i = .int .i64 k ∧ ArAt wr (w.heap.size + 1) w.heap.size (firstL k) ∧ Upd [] w wr) (fun i _ => 4 - (intOf i).toNat)
  case atStart => exact ⟨0, by omega, rfl, har, hu⟩
  case round =>
    obtain ⟨k, hk, rfl, hA, hU⟩ := hrel
    by_cases hlt : k < 4
    · go_wp2_with (go_at_call 13; refine (store_in _ _ _ _ _ _ hA (by omega) (by rw [firstL_len]; omega)).mono ?_; rintro e w2 ⟨rfl, hA2, hU2⟩)
      go_roundw
      case rel =>
        refine ⟨k + 1, by omega, by go_num, ?_, hU.trans' hU2 (by intro i hi h2; simp at hi; omega)⟩
        rw [← firstL_set k hlt]; simpa using hA2
      case measure => simp [intOf]; omega
    · obtain rfl : k = 4 := by omega
      go_wp2_with fail
      refine (copy_yes _ _ _ _ _ _ _ hA (by omega) (by omega) (by rw [firstL_len]; omega) (by omega) (by rw [firstL_len]; omega)).mono ?_
      rintro e w2 ⟨rfl, hA2, hU2⟩
      have eL : splice (firstL 4) (1 : Int).toNat (((firstL 4).drop (0 : Int).toNat).take (3 : Int).toNat) = [1, 1, 2, 3] := rfl
      rw [eL] at hA2
      clear eL
      go_wp2_with fail
      refine (load_in _ _ _ _ _ hA2 (by omega) (by simp)).mono ?_
      rintro e w' ⟨rfl, rfl⟩
      go_wp2_with fail
      refine (load_in _ _ _ _ _ hA2 (by omega) (by simp)).mono ?_
      rintro e w' ⟨rfl, rfl⟩
      go_wp2_with fail
      refine (take_yes _ 0 5 2 2 _ (by omega) (by omega) (by omega) (by omega) (by omega) (by simp) (by simp) (by simp)).mono ?_
      rintro e w3 ⟨rfl, m, rfl⟩
      go_wp2_with fail
      refine (take_no _ 0 5 4 2 _ (by omega) (by omega) (by omega) (by omega) (by simp) (by simp)).mono ?_
      rintro e w3 ⟨rfl, m2, rfl⟩
      go_wp2_with fail
      go_ret
      exact ⟨rfl, ((hU.trans' hU2 (by intro i hi h2; simp at hi; omega)).alloc _).drewN _⟩

end Go.Proofs.YtlddnpcpioligaaDoor
