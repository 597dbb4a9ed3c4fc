/- Two rows of integers compared. -/
import Derived.Test.YtbcoejmiihgfoaaDoorRows
import Derived.Test.YtbcoejmiihgfoaaDoorInts
import Derived.Deep.QuietTactic
import Derived.BigQuiet
import Derived.StillTailTactics
namespace Go.Proofs.YtbcoejmiihgfoaaDoor
open Go.RowKit

set_option maxHeartbeats 800000 in
theorem sints (va vb : Value) (ba bb : Nat) (xs ys : List Int) (w : World) (ha : IntsV w va ba xs) (hb : IntsV w vb bb ys) (hn : xs.length ≤ 1000000) :
  Calls Tryd.prog 24 #[va, vb] w fun e w' => e = .returned (.bool (decide (xs = ys))) ∧ Upd [] w w' := by
 obtain ⟨pa, ca, rfl⟩ := ha.form
 obtain ⟨pb, cb, rfl⟩ := hb.form
 by_cases hl : xs.length = ys.length
 ·go_enter Tryd.func24, Tryd.ntmps24
  go_wp2_with fail
  go_loopw [5] (fun i wr => ∃ k : Nat, k ≤ xs.length ∧ i = .int .i64 k ∧ Hid (∀ j, j < k → xs.getD j 0 = ys.getD j 0) ∧ Upd [] w wr) (fun i _ => xs.length - (intOf i).toNat)
  case atStart => exact ⟨0, by omega, rfl, (fun j hj => by omega : ∀ j, j < 0 → _), Upd.refl _ _⟩
  case round =>
   obtain ⟨k, hk, rfl, hsame, hU⟩ := hrel
   by_cases hlt : k < xs.length
   ·obtain ⟨h1, h2⟩ := sints_nth _ _ _ _ _ ha k hlt
    obtain ⟨h3, h4⟩ := sints_nth _ _ _ _ _ hb k (by omega)
    subst h1
    subst h3
    have hx := hU.cell h2 (by simp)
    have hy := hU.cell h4 (by simp)
    clear h2 h4
    have HXE := Lib.hid (rfl : xs.getD k 0 = xs.getD k 0)
    generalize hgx : xs.getD k 0 = x at hx
    generalize hgy : ys.getD k 0 = y at hy
    have HGX := Lib.hid hgx
    have HGY := Lib.hid hgy
    clear hgx hgy HXE
    by_cases hxy : x = y
    ·subst hxy
     go_wp2_with fail
     go_region
     all_goals (try go_wp2_with fail)
     all_goals go_roundw
     case rel =>
      refine ⟨k + 1, by omega, by go_num, (fun j hj => ?_ : ∀ j, j < k + 1 → _), by first | exact hU | exact hU.drew | exact hU.drewN _⟩
      by_cases e : j = k
      ·subst e; rw [HGX.out, HGY.out]
      ·exact hsame.out j (by omega)
     case measure => simp [intOf]; omega
    ·have hbne : (x == y) = false := by simpa using hxy
     go_wp2_with fail
     go_region
     all_goals (try rw [hbne])
     all_goals (try go_wp2_with fail)
     all_goals go_ret
     have hne : xs ≠ ys := fun e => hxy (by rw [← HGX.out, ← HGY.out, e])
     exact ⟨by simp [hne], by first | exact hU | exact hU.drew | exact hU.drewN _⟩
   ·go_wp2_with fail
    go_ret
    have heq : xs = ys := by
     apply List.ext_getElem hl
     intro i h1 h2
     have := hsame.out i (by omega)
     rw [List.getD_eq_getElem?_getD, List.getD_eq_getElem?_getD, List.getElem?_eq_getElem h1, List.getElem?_eq_getElem h2] at this
     simpa using this
    exact ⟨by simp [heq], hU⟩
 ·go_enter Tryd.func24, Tryd.ntmps24
  go_wp2_with fail
  go_ret
  have : xs ≠ ys := fun e => hl (by rw [e])
  exact ⟨by simp [this], Upd.refl _ _⟩

set_option maxHeartbeats 800000 in
theorem slongs (va vb : Value) (ba bb : Nat) (xs ys : List Int) (w : World) (ha : IntsV w va ba xs) (hb : IntsV w vb bb ys) (hn : xs.length ≤ 1000000) :
  Calls Tryd.prog 23 #[va, vb] w fun e w' => e = .returned (.bool (decide (xs = ys))) ∧ Upd [] w w' := by
 obtain ⟨pa, ca, rfl⟩ := ha.form
 obtain ⟨pb, cb, rfl⟩ := hb.form
 by_cases hl : xs.length = ys.length
 ·go_enter Tryd.func23, Tryd.ntmps23
  go_wp2_with fail
  go_loopw [5] (fun i wr => ∃ k : Nat, k ≤ xs.length ∧ i = .int .i64 k ∧ Hid (∀ j, j < k → xs.getD j 0 = ys.getD j 0) ∧ Upd [] w wr) (fun i _ => xs.length - (intOf i).toNat)
  case atStart => exact ⟨0, by omega, rfl, (fun j hj => by omega : ∀ j, j < 0 → _), Upd.refl _ _⟩
  case round =>
   obtain ⟨k, hk, rfl, hsame, hU⟩ := hrel
   by_cases hlt : k < xs.length
   ·obtain ⟨h1, h2⟩ := slongs_nth _ _ _ _ _ ha k hlt
    obtain ⟨h3, h4⟩ := slongs_nth _ _ _ _ _ hb k (by omega)
    subst h1
    subst h3
    have hx := hU.cell h2 (by simp)
    have hy := hU.cell h4 (by simp)
    clear h2 h4
    have HXE := Lib.hid (rfl : xs.getD k 0 = xs.getD k 0)
    generalize hgx : xs.getD k 0 = x at hx
    generalize hgy : ys.getD k 0 = y at hy
    have HGX := Lib.hid hgx
    have HGY := Lib.hid hgy
    clear hgx hgy HXE
    by_cases hxy : x = y
    ·subst hxy
     go_wp2_with fail
     go_region
     all_goals (try go_wp2_with fail)
     all_goals go_roundw
     case rel =>
      refine ⟨k + 1, by omega, by go_num, (fun j hj => ?_ : ∀ j, j < k + 1 → _), by first | exact hU | exact hU.drew | exact hU.drewN _⟩
      by_cases e : j = k
      ·subst e; rw [HGX.out, HGY.out]
      ·exact hsame.out j (by omega)
     case measure => simp [intOf]; omega
    ·have hbne : (x == y) = false := by simpa using hxy
     go_wp2_with fail
     go_region
     all_goals (try rw [hbne])
     all_goals (try go_wp2_with fail)
     all_goals go_ret
     have hne : xs ≠ ys := fun e => hxy (by rw [← HGX.out, ← HGY.out, e])
     exact ⟨by simp [hne], by first | exact hU | exact hU.drew | exact hU.drewN _⟩
   ·go_wp2_with fail
    go_ret
    have heq : xs = ys := by
     apply List.ext_getElem hl
     intro i h1 h2
     have := hsame.out i (by omega)
     rw [List.getD_eq_getElem?_getD, List.getD_eq_getElem?_getD, List.getElem?_eq_getElem h1, List.getElem?_eq_getElem h2] at this
     simpa using this
    exact ⟨by simp [heq], hU⟩
 ·go_enter Tryd.func23, Tryd.ntmps23
  go_wp2_with fail
  go_ret
  have : xs ≠ ys := fun e => hl (by rw [e])
  exact ⟨by simp [this], Upd.refl _ _⟩

end Go.Proofs.YtbcoejmiihgfoaaDoor
