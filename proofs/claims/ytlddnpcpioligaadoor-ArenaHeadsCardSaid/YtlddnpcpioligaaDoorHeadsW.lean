/- The walk of ArenaHeads. -/
import Derived.Test.YtlddnpcpioligaaDoorAl1
namespace Go.Proofs.YtlddnpcpioligaaDoor
open Go.RowKit

theorem packV_inj (c n d m : Int) (h1 : 0 ≤ n) (h2 : n ≤ 1048576) (h3 : 0 ≤ m) (h4 : m ≤ 1048576) : packV c n = packV d m ↔ (c = d ∧ n = m) := by
  unfold packV; omega

theorem unpack_pack (c n : Int) (w : World) (h1 : -2 ≤ c) (h2 : c < 12) (h3 : 0 ≤ n) (h4 : n ≤ 1048576) :
    Calls Tryd.prog 21 #[.int .i64 (packV c n)] w fun e w' => e = .returned (.tuple #[.int .i64 c, .int .i64 n, .bool true]) ∧ w = w' := by
  refine (unpack_yes (packV c n) w (headOk_pack c n h1 h2 h3 h4)).mono ?_
  rintro e w' ⟨rfl, rfl⟩
  rw [unC_pack c n h3 h4, unN_pack c n h3 h4]
  exact ⟨rfl, rfl⟩

/-- Does a head of that class and number exist? -/
def may (c n : Int) : Prop := -2 ≤ c ∧ c < 12 ∧ 0 ≤ n ∧ n ≤ 1048576

theorem unpack_m1 (w : World) : Calls Tryd.prog 21 #[.int .i64 (-1)] w fun e w' => e = .returned (.tuple #[.int .i64 0, .int .i64 0, .bool false]) ∧ w = w' :=
  unpack_no (-1) w (by unfold headOk; omega) (by omega) (by omega)


set_option maxRecDepth 100000 in
set_option maxHeartbeats 1000000 in
theorem heads_ff (c n d m x : Int) (w : World) (hx0 : -9223372036854775808 ≤ x) (hx1 : x ≤ 9223372036854775807) (a : c < -2 ∨ 12 ≤ c ∨ n < 0 ∨ 1048576 < n) (b : d < -2 ∨ 12 ≤ d ∨ m < 0 ∨ 1048576 < m) :
    Calls Tryd.prog 6 #[.int .i64 c, .int .i64 n, .int .i64 d, .int .i64 m, .int .i64 x] w fun e w' => e = .returned (.bool true) ∧ Upd [] w w' := by
  go_enter Tryd.func6, Tryd.ntmps6
  go_wp2_with fail
  refine (first_any _).mono ?_
  rintro e w1 ⟨rfl, hu⟩
  go_wp2_with fail
  all_goals
    refine (pack_no _ _ _ a).mono ?_
    rintro e w' ⟨rfl, rfl⟩
    go_wp2_with fail
  all_goals
    refine (pack_no _ _ _ b).mono ?_
    rintro e w' ⟨rfl, rfl⟩
    go_wp2_with fail
  all_goals
    refine (unpack_m1 _).mono ?_
    rintro e w' ⟨rfl, rfl⟩
    go_wp2_with fail
  all_goals
    by_cases hx : headOk x
    · refine (unpack_yes x _ hx).mono ?_
      rintro e w' ⟨rfl, rfl⟩
      have q1 : -2 ≤ unC x := by unfold headOk at hx; unfold unC; omega
      have q2 : unC x < 12 := by unfold headOk at hx; unfold unC; omega
      have q3 := unN_nonneg x
      have q4 : unN x ≤ 1048576 := by unfold headOk at hx; unfold unN; omega
      have E := Lib.hid (packV_un x)
      go_wp2_with fail
      refine (pack_yes _ _ _ q1 q2 q3 q4).mono ?_
      rintro e w' ⟨rfl, rfl⟩
      rw [E.out]
      go_wp2_with fail
      go_ret
      exact ⟨by simp, hu⟩
    · refine (unpack_no x _ hx hx0 hx1).mono ?_
      rintro e w' ⟨rfl, rfl⟩
      go_wp2_with fail
      go_ret
      exact ⟨by simp, hu⟩

set_option maxRecDepth 100000 in
set_option maxHeartbeats 1000000 in
theorem heads_tf (c n d m x : Int) (w : World) (hx0 : -9223372036854775808 ≤ x) (hx1 : x ≤ 9223372036854775807) (a1 : -2 ≤ c) (a2 : c < 12) (a3 : 0 ≤ n) (a4 : n ≤ 1048576) (b : d < -2 ∨ 12 ≤ d ∨ m < 0 ∨ 1048576 < m) :
    Calls Tryd.prog 6 #[.int .i64 c, .int .i64 n, .int .i64 d, .int .i64 m, .int .i64 x] w fun e w' => e = .returned (.bool true) ∧ Upd [] w w' := by
  have ne1 : (packV c n != -1) = true := by rw [bne_iff_ne]; unfold packV; omega
  have ne2 : (packV c n == -1) = false := by rw [beq_eq_false_iff_ne]; unfold packV; omega
  go_enter Tryd.func6, Tryd.ntmps6
  go_wp2_with fail
  refine (first_any _).mono ?_
  rintro e w1 ⟨rfl, hu⟩
  go_wp2_with fail
  all_goals
    refine (pack_yes _ _ _ a1 a2 a3 a4).mono ?_
    rintro e w' ⟨rfl, rfl⟩
    go_wp2_with fail
  all_goals
    refine (pack_no _ _ _ b).mono ?_
    rintro e w' ⟨rfl, rfl⟩
    go_wp2_with fail
  all_goals
    refine (unpack_pack _ _ _ a1 a2 a3 a4).mono ?_
    rintro e w' ⟨rfl, rfl⟩
    go_wp2_with fail
  all_goals
    by_cases hx : headOk x
    · refine (unpack_yes x _ hx).mono ?_
      rintro e w' ⟨rfl, rfl⟩
      have q1 : -2 ≤ unC x := by unfold headOk at hx; unfold unC; omega
      have q2 : unC x < 12 := by unfold headOk at hx; unfold unC; omega
      have q3 := unN_nonneg x
      have q4 : unN x ≤ 1048576 := by unfold headOk at hx; unfold unN; omega
      have E := Lib.hid (packV_un x)
      go_wp2_with fail
      refine (pack_yes _ _ _ q1 q2 q3 q4).mono ?_
      rintro e w' ⟨rfl, rfl⟩
      rw [E.out]
      go_wp2_with fail
      go_ret
      exact ⟨by simp, hu⟩
    · refine (unpack_no x _ hx hx0 hx1).mono ?_
      rintro e w' ⟨rfl, rfl⟩
      go_wp2_with fail
      go_ret
      exact ⟨by simp, hu⟩

set_option maxRecDepth 100000 in
set_option maxHeartbeats 1000000 in
theorem heads_ft (c n d m x : Int) (w : World) (hx0 : -9223372036854775808 ≤ x) (hx1 : x ≤ 9223372036854775807) (a : c < -2 ∨ 12 ≤ c ∨ n < 0 ∨ 1048576 < n) (b1 : -2 ≤ d) (b2 : d < 12) (b3 : 0 ≤ m) (b4 : m ≤ 1048576) :
    Calls Tryd.prog 6 #[.int .i64 c, .int .i64 n, .int .i64 d, .int .i64 m, .int .i64 x] w fun e w' => e = .returned (.bool true) ∧ Upd [] w w' := by
  go_enter Tryd.func6, Tryd.ntmps6
  go_wp2_with fail
  refine (first_any _).mono ?_
  rintro e w1 ⟨rfl, hu⟩
  go_wp2_with fail
  all_goals
    refine (pack_no _ _ _ a).mono ?_
    rintro e w' ⟨rfl, rfl⟩
    go_wp2_with fail
  all_goals
    refine (pack_yes _ _ _ b1 b2 b3 b4).mono ?_
    rintro e w' ⟨rfl, rfl⟩
    go_wp2_with fail
  all_goals
    refine (unpack_m1 _).mono ?_
    rintro e w' ⟨rfl, rfl⟩
    go_wp2_with fail
  all_goals
    by_cases hx : headOk x
    · refine (unpack_yes x _ hx).mono ?_
      rintro e w' ⟨rfl, rfl⟩
      have q1 : -2 ≤ unC x := by unfold headOk at hx; unfold unC; omega
      have q2 : unC x < 12 := by unfold headOk at hx; unfold unC; omega
      have q3 := unN_nonneg x
      have q4 : unN x ≤ 1048576 := by unfold headOk at hx; unfold unN; omega
      have E := Lib.hid (packV_un x)
      go_wp2_with fail
      refine (pack_yes _ _ _ q1 q2 q3 q4).mono ?_
      rintro e w' ⟨rfl, rfl⟩
      rw [E.out]
      go_wp2_with fail
      go_ret
      exact ⟨by simp, hu⟩
    · refine (unpack_no x _ hx hx0 hx1).mono ?_
      rintro e w' ⟨rfl, rfl⟩
      go_wp2_with fail
      go_ret
      exact ⟨by simp, hu⟩

set_option maxRecDepth 100000 in
set_option maxHeartbeats 1000000 in
theorem heads_tts (c n d m x : Int) (w : World) (hx0 : -9223372036854775808 ≤ x) (hx1 : x ≤ 9223372036854775807) (a1 : -2 ≤ c) (a2 : c < 12) (a3 : 0 ≤ n) (a4 : n ≤ 1048576) (b1 : -2 ≤ d) (b2 : d < 12) (b3 : 0 ≤ m) (b4 : m ≤ 1048576) (s : c = d ∧ n = m) :
    Calls Tryd.prog 6 #[.int .i64 c, .int .i64 n, .int .i64 d, .int .i64 m, .int .i64 x] w fun e w' => e = .returned (.bool true) ∧ Upd [] w w' := by
  obtain ⟨rfl, rfl⟩ := s
  have ne1 : (packV c n != -1) = true := by rw [bne_iff_ne]; unfold packV; omega
  have ne2 : (packV c n == -1) = false := by rw [beq_eq_false_iff_ne]; unfold packV; omega
  go_enter Tryd.func6, Tryd.ntmps6
  go_wp2_with fail
  refine (first_any _).mono ?_
  rintro e w1 ⟨rfl, hu⟩
  go_wp2_with fail
  all_goals
    refine (pack_yes _ _ _ a1 a2 a3 a4).mono ?_
    rintro e w' ⟨rfl, rfl⟩
    go_wp2_with fail
  all_goals
    refine (pack_yes _ _ _ a1 a2 a3 a4).mono ?_
    rintro e w' ⟨rfl, rfl⟩
    go_wp2_with fail
  all_goals
    refine (unpack_pack _ _ _ a1 a2 a3 a4).mono ?_
    rintro e w' ⟨rfl, rfl⟩
    go_wp2_with fail
  all_goals
    by_cases hx : headOk x
    · refine (unpack_yes x _ hx).mono ?_
      rintro e w' ⟨rfl, rfl⟩
      have q1 : -2 ≤ unC x := by unfold headOk at hx; unfold unC; omega
      have q2 : unC x < 12 := by unfold headOk at hx; unfold unC; omega
      have q3 := unN_nonneg x
      have q4 : unN x ≤ 1048576 := by unfold headOk at hx; unfold unN; omega
      have E := Lib.hid (packV_un x)
      go_wp2_with fail
      refine (pack_yes _ _ _ q1 q2 q3 q4).mono ?_
      rintro e w' ⟨rfl, rfl⟩
      rw [E.out]
      go_wp2_with fail
      go_ret
      exact ⟨by simp, hu⟩
    · refine (unpack_no x _ hx hx0 hx1).mono ?_
      rintro e w' ⟨rfl, rfl⟩
      go_wp2_with fail
      go_ret
      exact ⟨by simp, hu⟩

set_option maxRecDepth 100000 in
set_option maxHeartbeats 1000000 in
theorem heads_ttd (c n d m x : Int) (w : World) (hx0 : -9223372036854775808 ≤ x) (hx1 : x ≤ 9223372036854775807) (a1 : -2 ≤ c) (a2 : c < 12) (a3 : 0 ≤ n) (a4 : n ≤ 1048576) (b1 : -2 ≤ d) (b2 : d < 12) (b3 : 0 ≤ m) (b4 : m ≤ 1048576) (s : ¬ (c = d ∧ n = m)) :
    Calls Tryd.prog 6 #[.int .i64 c, .int .i64 n, .int .i64 d, .int .i64 m, .int .i64 x] w fun e w' => e = .returned (.bool true) ∧ Upd [] w w' := by
  have eq1 : (packV c n == packV d m) = false := by rw [beq_eq_false_iff_ne]; intro h; exact s ((packV_inj c n d m a3 a4 b3 b4).1 h)
  have ne1 : (packV c n != -1) = true := by rw [bne_iff_ne]; unfold packV; omega
  have ne2 : (packV c n == -1) = false := by rw [beq_eq_false_iff_ne]; unfold packV; omega
  go_enter Tryd.func6, Tryd.ntmps6
  go_wp2_with fail
  refine (first_any _).mono ?_
  rintro e w1 ⟨rfl, hu⟩
  go_wp2_with fail
  all_goals
    refine (pack_yes _ _ _ a1 a2 a3 a4).mono ?_
    rintro e w' ⟨rfl, rfl⟩
    go_wp2_with fail
  all_goals
    refine (pack_yes _ _ _ b1 b2 b3 b4).mono ?_
    rintro e w' ⟨rfl, rfl⟩
    go_wp2_with fail
  all_goals
    refine (unpack_pack _ _ _ a1 a2 a3 a4).mono ?_
    rintro e w' ⟨rfl, rfl⟩
    go_wp2_with fail
  all_goals
    by_cases hx : headOk x
    · refine (unpack_yes x _ hx).mono ?_
      rintro e w' ⟨rfl, rfl⟩
      have q1 : -2 ≤ unC x := by unfold headOk at hx; unfold unC; omega
      have q2 : unC x < 12 := by unfold headOk at hx; unfold unC; omega
      have q3 := unN_nonneg x
      have q4 : unN x ≤ 1048576 := by unfold headOk at hx; unfold unN; omega
      have E := Lib.hid (packV_un x)
      go_wp2_with fail
      refine (pack_yes _ _ _ q1 q2 q3 q4).mono ?_
      rintro e w' ⟨rfl, rfl⟩
      rw [E.out]
      go_wp2_with fail
      go_ret
      exact ⟨by simp, hu⟩
    · refine (unpack_no x _ hx hx0 hx1).mono ?_
      rintro e w' ⟨rfl, rfl⟩
      go_wp2_with fail
      go_ret
      exact ⟨by simp, hu⟩

theorem heads_any (c n d m x : Int) (w : World) (hx0 : -9223372036854775808 ≤ x) (hx1 : x ≤ 9223372036854775807) :
    Calls Tryd.prog 6 #[.int .i64 c, .int .i64 n, .int .i64 d, .int .i64 m, .int .i64 x] w fun e w' => e = .returned (.bool true) ∧ Upd [] w w' := by
  by_cases h1 : -2 ≤ c ∧ c < 12 ∧ 0 ≤ n ∧ n ≤ 1048576
  · obtain ⟨a1, a2, a3, a4⟩ := h1
    by_cases h2 : -2 ≤ d ∧ d < 12 ∧ 0 ≤ m ∧ m ≤ 1048576
    · obtain ⟨b1, b2, b3, b4⟩ := h2
      by_cases s : c = d ∧ n = m
      · exact heads_tts c n d m x w hx0 hx1 a1 a2 a3 a4 b1 b2 b3 b4 s
      · exact heads_ttd c n d m x w hx0 hx1 a1 a2 a3 a4 b1 b2 b3 b4 s
    · exact heads_tf c n d m x w hx0 hx1 a1 a2 a3 a4 (by omega)
  · by_cases h2 : -2 ≤ d ∧ d < 12 ∧ 0 ≤ m ∧ m ≤ 1048576
    · obtain ⟨b1, b2, b3, b4⟩ := h2
      exact heads_ft c n d m x w hx0 hx1 (by omega) b1 b2 b3 b4
    · exact heads_ff c n d m x w hx0 hx1 (by omega) (by omega)

end Go.Proofs.YtlddnpcpioligaaDoor
