/- Two integers by an op: word.Two. -/
import Derived.Test.YtojobkhidlfeoaaDoorMdS
import Derived.Test.YtojobkhidlfeoaaDoorRows
namespace Go.Proofs.YtojobkhidlfeoaaDoor
open Go.RowKit

theorem and63 (b : Int) : bits BinOp.and IntKind.u64 (IntKind.u64.wrap b) 63 = b % 64 := by
 have e4 : bits BinOp.and IntKind.u64 (IntKind.u64.wrap b) 63 = IntKind.u64.wrap (((BitVec.ofInt 64 (IntKind.u64.wrap b)) &&& (BitVec.ofInt 64 63)).toNat : Int) := rfl
 have e5 : (BitVec.ofInt 64 63).toNat = 63 := by decide
 rw [e4, BitVec.toNat_and, e5, BitVec.toNat_ofInt]
 have e6 : ∀ x : Nat, x &&& 63 = x % 64 := fun x => Nat.and_two_pow_sub_one_eq_mod x 6
 rw [e6, IntKind.wrap_u64, IntKind.wrap_u64]
 have e7 : ((2 ^ 64 : Nat) : Int) = 18446744073709551616 := by decide
 rw [e7]
 omega
theorem ret2i {a b c d : Int} (h : b = a) (h2 : d = c) : Ending.returned (.tuple #[.int .i64 a, .int .i64 c]) = .returned (.tuple #[.int .i64 b, .int .i64 d]) := by rw [h, h2]
theorem i64_w (n : Int) : IntKind.i64.wrap n = wrap64 n := IntWalk.i64_left n
set_option maxRecDepth 100000 in
theorem wtruth_any (b : Bool) (w : World) : Calls Tryd.prog 67 #[.bool b] w fun e w' => e = .returned (.int .i64 (if b then 1 else 0)) ∧ w = w' := by
 cases b with
 | true =>
  go_enter Tryd.func67, Tryd.ntmps67
  go_wp2_with fail
  go_ret
  exact ⟨rfl, rfl⟩
 | false =>
  go_enter Tryd.func67, Tryd.ntmps67
  go_wp2_with fail
  go_ret
  exact ⟨rfl, rfl⟩
set_option maxRecDepth 100000 in
set_option maxHeartbeats 1000000 in
theorem wcut_any (op a b : Int) (ho : op = 11 ∨ op = 12) (ha : -9223372036854775808 ≤ a ∧ a ≤ 9223372036854775807) (w : World) : Calls Tryd.prog 66 #[.int .i64 op, .int .i64 a, .int .i64 b] w fun e w' => e = .returned (.tuple #[.int .i64 (twoL op a b).1, .int .i64 (twoL op a b).2]) ∧ w = w' := by
 by_cases hb : b = 0
 ·subst hb
  have h1 : (twoL op a 0) = (0, 5) := by
   rcases ho with rfl | rfl <;> rfl
  rw [h1]
  go_enter Tryd.func66, Tryd.ntmps66
  go_wp2_with fail
  go_ret2
  exact ⟨rfl, rfl⟩
 ·have d0 : (b == 0) = false := by rw [beq_eq_false_iff_ne]; exact hb
  rcases ho with rfl | rfl
  ·have h1 : twoL 11 a b = (IntKind.i64.wrap (a.tdiv b), 0) := by unfold twoL; simp [hb]
   rw [h1]
   by_cases hm : a = -9223372036854775808
   ·by_cases hb1 : b = -1
    ·subst hm hb1
     go_enter Tryd.func66, Tryd.ntmps66
     go_wp2_with fail
     go_ret2
     exact ⟨rfl, rfl⟩
    ·have d1 : (b == -1) = false := by rw [beq_eq_false_iff_ne]; exact hb1
     subst hm
     go_enter Tryd.func66, Tryd.ntmps66
     go_wp2_with fail
     go_ret2
     exact ⟨ret2i (by rw [i64_w, Int.neg_tdiv]) rfl, rfl⟩
   ·have d2 : (a == -9223372036854775808) = false := by rw [beq_eq_false_iff_ne]; exact hm
    by_cases hb1 : b = -1
    ·subst hb1
     go_enter Tryd.func66, Tryd.ntmps66
     go_wp2_with fail
     go_ret2
     exact ⟨ret2i (by rw [Int.tdiv_neg, Int.tdiv_one, IntWalk.i64_in _ (by omega)]) rfl, rfl⟩
    ·have d1 : (b == -1) = false := by rw [beq_eq_false_iff_ne]; exact hb1
     go_enter Tryd.func66, Tryd.ntmps66
     go_wp2_with fail
     go_ret2
     exact ⟨ret2i (i64_w _) rfl, rfl⟩
  ·have h1 : twoL 12 a b = (a.tmod b, 0) := by unfold twoL; simp [hb]
   rw [h1]
   by_cases hb1 : b = -1
   ·subst hb1
    have h2 : a.tmod (-1) = 0 := by rw [Int.tmod_neg, Int.tmod_one]
    rw [h2]
    obtain ⟨bb, hbb⟩ : ∃ bb, (a == -9223372036854775808) = bb := ⟨_, rfl⟩
    cases bb
    ·go_enter Tryd.func66, Tryd.ntmps66
     go_wp2_with fail
     go_ret2
     exact ⟨rfl, rfl⟩
    ·go_enter Tryd.func66, Tryd.ntmps66
     go_wp2_with fail
     go_ret2
     exact ⟨rfl, rfl⟩
   ·have d1 : (b == -1) = false := by rw [beq_eq_false_iff_ne]; exact hb1
    obtain ⟨bb, hbb⟩ : ∃ bb, (a == -9223372036854775808) = bb := ⟨_, rfl⟩
    cases bb
    ·go_enter Tryd.func66, Tryd.ntmps66
     go_wp2_with fail
     go_ret2
     exact ⟨rfl, rfl⟩
    ·go_enter Tryd.func66, Tryd.ntmps66
     go_wp2_with fail
     go_ret2
     exact ⟨rfl, rfl⟩
set_option maxRecDepth 100000 in
set_option maxHeartbeats 1000000 in
theorem wtwo_any (op a b : Int) (ho : op = 8 ∨ op = 9 ∨ op = 10 ∨ op = 11 ∨ op = 12 ∨ op = 13 ∨ op = 14 ∨ op = 15 ∨ op = 16 ∨ op = 17 ∨ op = 19 ∨ op = 20) (ha : -9223372036854775808 ≤ a ∧ a ≤ 9223372036854775807) (w : World) : Calls Tryd.prog 51 #[.int .i64 op, .int .i64 a, .int .i64 b] w fun e w' => e = .returned (.tuple #[.int .i64 (twoL op a b).1, .int .i64 (twoL op a b).2]) ∧ w = w' := by
 have HT := Lib.hid (fun b => wtruth_any b w)
 have HC := Lib.hid (fun op ho => wcut_any op a b ho ha w)
 rcases ho with rfl | rfl | rfl | rfl | rfl | rfl | rfl | rfl | rfl | rfl | rfl | rfl
 ·go_enter Tryd.func51, Tryd.ntmps51
  go_wp2_with fail
  go_ret2
  exact ⟨ret2i (i64_w _) rfl, rfl⟩
 ·go_enter Tryd.func51, Tryd.ntmps51
  go_wp2_with fail
  go_ret2
  exact ⟨ret2i (i64_w _) rfl, rfl⟩
 ·go_enter Tryd.func51, Tryd.ntmps51
  go_wp2_with fail
  go_ret2
  exact ⟨ret2i (i64_w _) rfl, rfl⟩
 ·have HC1 := Lib.hid (HC.out 11 (.inl rfl))
  generalize twoL 11 a b = r at HC1 ⊢
  obtain ⟨r1, r2⟩ := r
  go_enter Tryd.func51, Tryd.ntmps51
  go_wp2_with fail
  refine HC1.out.mono ?_
  rintro e w' ⟨rfl, rfl⟩
  go_wp2_with fail
  go_ret2
  exact ⟨rfl, rfl⟩
 ·have HC1 := Lib.hid (HC.out 12 (.inr rfl))
  generalize twoL 12 a b = r at HC1 ⊢
  obtain ⟨r1, r2⟩ := r
  go_enter Tryd.func51, Tryd.ntmps51
  go_wp2_with fail
  refine HC1.out.mono ?_
  rintro e w' ⟨rfl, rfl⟩
  go_wp2_with fail
  go_ret2
  exact ⟨rfl, rfl⟩
 ·go_enter Tryd.func51, Tryd.ntmps51
  go_wp2_with fail
  go_ret2
  exact ⟨rfl, rfl⟩
 ·go_enter Tryd.func51, Tryd.ntmps51
  go_wp2_with fail
  go_ret2
  exact ⟨rfl, rfl⟩
 ·go_enter Tryd.func51, Tryd.ntmps51
  go_wp2_with fail
  go_ret2
  exact ⟨rfl, rfl⟩
 ·have h1 : twoL 16 a b = (IntKind.i64.wrap (a * 2 ^ (b % 64).toNat), 0) := rfl
  rw [h1]
  have h63 := and63 b
  have hr : 0 ≤ b % 64 ∧ b % 64 < 64 := by omega
  generalize b % 64 = k at h63 hr ⊢
  go_enter Tryd.func51, Tryd.ntmps51
  go_wp2_with fail
  go_ret2
  exact ⟨ret2i (i64_w _) rfl, rfl⟩
 ·have h1 : twoL 17 a b = (a.fdiv (2 ^ (b % 64).toNat), 0) := rfl
  rw [h1]
  have h63 := and63 b
  have hr : 0 ≤ b % 64 ∧ b % 64 < 64 := by omega
  generalize b % 64 = k at h63 hr ⊢
  go_enter Tryd.func51, Tryd.ntmps51
  go_wp2_with fail
  go_ret2
  exact ⟨ret2i (Int.fdiv_eq_ediv_of_nonneg _ (Int.le_of_lt (Int.pow_pos (by decide)))) rfl, rfl⟩
 ·by_cases hc : a < b
  ·have h1 : twoL 19 a b = (1, 0) := by unfold twoL; simp [hc]
   have hd : decide (a < b) = true := by simp [hc]
   rw [h1]
   clear h1 hc
   go_enter Tryd.func51, Tryd.ntmps51
   go_wp2_with fail
   refine (HT.out _).mono ?_
   rintro e w' ⟨rfl, rfl⟩
   go_wp2_with fail
   go_ret2
   exact ⟨rfl, rfl⟩
  ·have h1 : twoL 19 a b = (0, 0) := by unfold twoL; simp [hc]
   have hd : decide (a < b) = false := by simp [hc]
   rw [h1]
   clear h1 hc
   go_enter Tryd.func51, Tryd.ntmps51
   go_wp2_with fail
   refine (HT.out _).mono ?_
   rintro e w' ⟨rfl, rfl⟩
   go_wp2_with fail
   go_ret2
   exact ⟨rfl, rfl⟩
 ·by_cases hc : a = b
  ·have h1 : twoL 20 a b = (1, 0) := by unfold twoL; simp [hc]
   have hd : (a == b) = true := by simp [hc]
   rw [h1]
   clear h1 hc
   go_enter Tryd.func51, Tryd.ntmps51
   go_wp2_with fail
   refine (HT.out _).mono ?_
   rintro e w' ⟨rfl, rfl⟩
   go_wp2_with fail
   go_ret2
   exact ⟨rfl, rfl⟩
  ·have h1 : twoL 20 a b = (0, 0) := by unfold twoL; simp [hc]
   have hd : (a == b) = false := by simp [hc]
   rw [h1]
   clear h1 hc
   go_enter Tryd.func51, Tryd.ntmps51
   go_wp2_with fail
   refine (HT.out _).mono ?_
   rintro e w' ⟨rfl, rfl⟩
   go_wp2_with fail
   go_ret2
   exact ⟨rfl, rfl⟩
end Go.Proofs.YtojobkhidlfeoaaDoor
