/- overdriveref1.Two: two integers by an op, as the document has it. -/
import Derived.Test.YtojobkhidlfeoaaGreatDoorWdT
namespace Go.Proofs.YtojobkhidlfeoaaGreatDoor
open Go.RowKit

theorem and63i (b : Int) : IntKind.u64.wrap (bits BinOp.and IntKind.i64 b 63) = b % 64 := by
  have e4 : bits BinOp.and IntKind.i64 b 63 = IntKind.i64.wrap (((BitVec.ofInt 64 b) &&& (BitVec.ofInt 64 63)).toNat : Int) := rfl
  have e5 : (BitVec.ofInt 64 63).toNat = 63 := by decide
  rw [e4, BitVec.toNat_and, e5, BitVec.toNat_ofInt]
  have e6 : ∀ x : Nat, x &&& 63 = x % 64 := fun x => Nat.and_two_pow_sub_one_eq_mod x 6
  rw [e6, IntKind.wrap_i64, IntKind.wrap_u64]
  have e7 : ((2 ^ 64 : Nat) : Int) = 18446744073709551616 := by decide
  rw [e7]
  omega
set_option maxRecDepth 100000 in
set_option maxHeartbeats 2000000 in
theorem r1two_any (op a b : Int) (ho : op = 8 ∨ op = 9 ∨ op = 10 ∨ op = 11 ∨ op = 12 ∨ op = 13 ∨ op = 14 ∨ op = 15 ∨ op = 16 ∨ op = 17 ∨ op = 18 ∨ op = 19 ∨ op = 20) (w : World) : Calls Tryz.prog 18 #[.int .i64 op, .int .i64 a, .int .i64 b] w fun e w' => e = .returned (.tuple #[.int .i64 (twoL op a b).1, .int .i64 (twoL op a b).2]) ∧ w = w' := by
  rcases ho with rfl | rfl | rfl | rfl | rfl | rfl | rfl | rfl | rfl | rfl | rfl | rfl | rfl
  · go_enter Tryz.func18, Tryz.ntmps18
    go_wp2_with fail
    go_ret2
    exact ⟨ret2i (i64_w _) rfl, rfl⟩
  · go_enter Tryz.func18, Tryz.ntmps18
    go_wp2_with fail
    go_ret2
    exact ⟨ret2i (i64_w _) rfl, rfl⟩
  · go_enter Tryz.func18, Tryz.ntmps18
    go_wp2_with fail
    go_ret2
    exact ⟨ret2i (i64_w _) rfl, rfl⟩
  · by_cases hb : b = 0
    · subst hb
      rw [show twoL 11 a 0 = (0, 5) from rfl]
      go_enter Tryz.func18, Tryz.ntmps18
      go_wp2_with fail
      go_ret2
      exact ⟨rfl, rfl⟩
    · have d0 : (b == 0) = false := by rw [beq_eq_false_iff_ne]; exact hb
      rw [show twoL 11 a b = (IntKind.i64.wrap (a.tdiv b), 0) by unfold twoL; simp [hb]]
      by_cases hb1 : b = -1
      · subst hb1
        go_enter Tryz.func18, Tryz.ntmps18
        go_wp2_with fail
        go_ret2
        exact ⟨ret2i (by rw [Int.tdiv_neg, Int.tdiv_one]; first | rfl | exact i64_w _) rfl, rfl⟩
      · have d1 : (b == -1) = false := by rw [beq_eq_false_iff_ne]; exact hb1
        go_enter Tryz.func18, Tryz.ntmps18
        go_wp2_with fail
        go_ret2
        exact ⟨ret2i (i64_w _) rfl, rfl⟩
  · by_cases hb : b = 0
    · subst hb
      rw [show twoL 12 a 0 = (0, 5) from rfl]
      go_enter Tryz.func18, Tryz.ntmps18
      go_wp2_with fail
      go_ret2
      exact ⟨rfl, rfl⟩
    · have d0 : (b == 0) = false := by rw [beq_eq_false_iff_ne]; exact hb
      rw [show twoL 12 a b = (a.tmod b, 0) by unfold twoL; simp [hb]]
      by_cases hb1 : b = -1
      · subst hb1
        rw [show a.tmod (-1) = 0 by rw [Int.tmod_neg, Int.tmod_one]]
        go_enter Tryz.func18, Tryz.ntmps18
        go_wp2_with fail
        go_ret2
        exact ⟨rfl, rfl⟩
      · have d1 : (b == -1) = false := by rw [beq_eq_false_iff_ne]; exact hb1
        go_enter Tryz.func18, Tryz.ntmps18
        go_wp2_with fail
        go_ret2
        exact ⟨rfl, rfl⟩
  · go_enter Tryz.func18, Tryz.ntmps18
    go_wp2_with fail
    go_ret2
    exact ⟨rfl, rfl⟩
  · go_enter Tryz.func18, Tryz.ntmps18
    go_wp2_with fail
    go_ret2
    exact ⟨rfl, rfl⟩
  · go_enter Tryz.func18, Tryz.ntmps18
    go_wp2_with fail
    go_ret2
    exact ⟨rfl, rfl⟩
  · rw [show twoL 16 a b = (IntKind.i64.wrap (a * 2 ^ (b % 64).toNat), 0) from rfl]
    have h63 := and63i b
    have hr : 0 ≤ b % 64 ∧ b % 64 < 64 := by omega
    generalize b % 64 = k at h63 hr ⊢
    go_enter Tryz.func18, Tryz.ntmps18
    go_wp2_with fail
    go_ret2
    exact ⟨ret2i (i64_w _) rfl, rfl⟩
  · rw [show twoL 17 a b = (a.fdiv (2 ^ (b % 64).toNat), 0) from rfl]
    have h63 := and63i b
    have hr : 0 ≤ b % 64 ∧ b % 64 < 64 := by omega
    generalize b % 64 = k at h63 hr ⊢
    go_enter Tryz.func18, Tryz.ntmps18
    go_wp2_with fail
    go_ret2
    exact ⟨ret2i (Int.fdiv_eq_ediv_of_nonneg _ (Int.le_of_lt (Int.pow_pos (by decide)))) rfl, rfl⟩
  · rw [show twoL 18 a b = (0, 0) from rfl]
    go_enter Tryz.func18, Tryz.ntmps18
    go_wp2_with fail
    go_ret2
    exact ⟨rfl, rfl⟩
  · by_cases hc : a < b
    · rw [show twoL 19 a b = (1, 0) by unfold twoL; simp [hc]]
      go_enter Tryz.func18, Tryz.ntmps18
      go_wp2_with fail
      go_ret2
      exact ⟨rfl, rfl⟩
    · rw [show twoL 19 a b = (0, 0) by unfold twoL; simp [hc]]
      go_enter Tryz.func18, Tryz.ntmps18
      go_wp2_with fail
      go_ret2
      exact ⟨rfl, rfl⟩
  · by_cases hc : a = b
    · subst hc
      rw [show twoL 20 a a = (1, 0) by unfold twoL; simp]
      go_enter Tryz.func18, Tryz.ntmps18
      go_wp2_with fail
      go_ret2
      exact ⟨rfl, rfl⟩
    · have d0 : (a == b) = false := by rw [beq_eq_false_iff_ne]; exact hc
      rw [show twoL 20 a b = (0, 0) by unfold twoL; simp [hc]]
      go_enter Tryz.func18, Tryz.ntmps18
      go_wp2_with fail
      go_ret2
      exact ⟨rfl, rfl⟩
end Go.Proofs.YtojobkhidlfeoaaGreatDoor
