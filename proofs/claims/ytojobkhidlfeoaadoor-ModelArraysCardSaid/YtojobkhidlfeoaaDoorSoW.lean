/- overdriveref.SameLongs and SameOutcome, wherever the integers lie. -/
import Derived.Test.YtojobkhidlfeoaaDoorMwV
import Derived.Test.YtojobkhidlfeoaaDoorOpenG
namespace Go.Proofs.YtojobkhidlfeoaaDoor
open Go.RowKit

set_option maxRecDepth 100000 in
set_option maxHeartbeats 2000000 in
theorem slongsW (va vb : Value) (xs ys : List Int) (w : World) (ha : IntsW w va xs) (hb : IntsW w vb ys) (hn : xs.length ≤ 1000000) :
  Calls Tryd.prog 13 #[va, vb] w fun e w' => e = .returned (.bool (decide (xs = ys))) ∧ Upd [] w w' := by
 obtain ⟨pa, ca, rfl⟩ := ha.form
 obtain ⟨pb, cb, rfl⟩ := hb.form
 by_cases hl : xs.length = ys.length
 ·go_enter Tryd.func13, Tryd.ntmps13
  go_wp2_with fail
  go_loopw [5] (fun i wr => ∃ k : Nat, k ≤ xs.length ∧ i = .int .i64 k ∧ Hid (∀ j, j < k → xs.getD j 0 = ys.getD j 0) ∧ Upd [] w wr) (fun i _ => xs.length - (intOf i).toNat)
  case atStart => exact ⟨0, by omega, rfl, (fun j hj => by omega : ∀ j, j < 0 → _), Upd.refl _ _⟩
  case round =>
   obtain ⟨k, hk, rfl, hsame, hU⟩ := hrel
   by_cases hlt : k < xs.length
   ·obtain ⟨ba, oa, h1, h2⟩ := ha.nth k hlt
    obtain ⟨bb, ob, h3, h4⟩ := hb.nth k (by omega)
    subst h1
    subst h3
    have hx := hU.cell h2 (by simp)
    have hy := hU.cell h4 (by simp)
    clear h2 h4
    have HXE := Lib.hid (rfl : xs.getD k 0 = xs.getD k 0)
    generalize hgx : xs.getD k 0 = x at hx
    generalize hgy : ys.getD k 0 = y at hy
    have HGX := Lib.hid hgx
    have HGY := Lib.hid hgy
    clear hgx hgy HXE
    by_cases hxy : x = y
    ·subst hxy
     go_wp2_with fail
     go_region
     all_goals (try go_wp2_with fail)
     all_goals go_roundw
     case rel =>
      refine ⟨k + 1, by omega, by go_num, (fun j hj => ?_ : ∀ j, j < k + 1 → _), by first | exact hU | exact hU.drew | exact hU.drewN _⟩
      by_cases e : j = k
      ·subst e; rw [HGX.out, HGY.out]
      ·exact hsame.out j (by omega)
     case measure => simp [intOf]; omega
    ·have hbne : (x == y) = false := by simpa using hxy
     go_wp2_with fail
     go_region
     all_goals (try rw [hbne])
     all_goals (try go_wp2_with fail)
     all_goals go_ret
     have hne : xs ≠ ys := fun e => hxy (by rw [← HGX.out, ← HGY.out, e])
     exact ⟨by simp [hne], by first | exact hU | exact hU.drew | exact hU.drewN _⟩
   ·go_wp2_with fail
    go_ret
    have heq : xs = ys := by
     apply List.ext_getElem hl
     intro i h1 h2
     have := hsame.out i (by omega)
     rw [List.getD_eq_getElem?_getD, List.getD_eq_getElem?_getD, List.getElem?_eq_getElem h1, List.getElem?_eq_getElem h2] at this
     simpa using this
    exact ⟨by simp [heq], hU⟩
 ·go_enter Tryd.func13, Tryd.ntmps13
  go_wp2_with fail
  go_ret
  have : xs ≠ ys := fun e => hl (by rw [e])
  exact ⟨by simp [this], Upd.refl _ _⟩


set_option maxRecDepth 100000 in
set_option maxHeartbeats 2000000 in
theorem soutsW {w : World} {va vb : Value} {xs ys : List Int} (ha : IntsW w va xs) (hb : IntsW w vb ys) (hn : xs.length ≤ 1000000) (k t m p v k' t' m' p' v' : Int) :
  Calls Tryd.prog 7 #[.agg #[.int .i64 k, .int .i64 t, .int .i64 m, .int .i64 p, .int .i64 v, va], .agg #[.int .i64 k', .int .i64 t', .int .i64 m', .int .i64 p', .int .i64 v', vb]] w fun e w' => e = .returned (.bool (decide (k = k' ∧ t = t' ∧ m = m' ∧ p = p' ∧ v = v' ∧ xs = ys))) ∧ Upd [] w w' := by
 obtain ⟨pa, ca, rfl⟩ := ha.form
 obtain ⟨pb, cb, rfl⟩ := hb.form
 have hu := ((Upd.refl [] w).alloc (.cells #[.int .i64 k, .int .i64 t, .int .i64 m, .int .i64 p, .int .i64 v, .slice pa xs.length ca] 25)).alloc (.cells #[.int .i64 k', .int .i64 t', .int .i64 m', .int .i64 p', .int .i64 v', .slice pb ys.length cb] 25)
 have HSL := Lib.hid (slongsW _ _ xs ys _ (ha.upd hu) (hb.upd hu) hn)
 have hA := ((Upd.refl [] _).alloc (.cells #[.int .i64 k', .int .i64 t', .int .i64 m', .int .i64 p', .int .i64 v', .slice pb ys.length cb] 25)).heap (heap_alloc_new w (.cells #[.int .i64 k, .int .i64 t, .int .i64 m, .int .i64 p, .int .i64 v, .slice pa xs.length ca] 25)) (by simp)
 have hB := heap_alloc_new (w.alloc (.cells #[.int .i64 k, .int .i64 t, .int .i64 m, .int .i64 p, .int .i64 v, .slice pa xs.length ca] 25)) (.cells #[.int .i64 k', .int .i64 t', .int .i64 m', .int .i64 p', .int .i64 v', .slice pb ys.length cb] 25)
 rw [show (w.alloc (.cells #[.int .i64 k, .int .i64 t, .int .i64 m, .int .i64 p, .int .i64 v, .slice pa xs.length ca] 25)).heap.size = w.heap.size + 1 by simp] at hB
 have HU := Lib.hid hu
 clear ha hb hu
 go_enter Tryd.func7, Tryd.ntmps7
 go_upto_region 1 with fail
 generalize (w.alloc (.cells #[.int .i64 k, .int .i64 t, .int .i64 m, .int .i64 p, .int .i64 v, .slice pa xs.length ca] 25)).alloc (.cells #[.int .i64 k', .int .i64 t', .int .i64 m', .int .i64 p', .int .i64 v', .slice pb ys.length cb] 25) = w1 at HSL hA hB HU ⊢
 have HA := Lib.hid hA
 have HB := Lib.hid hB
 have a5 : w1.cell? ⟨w.heap.size, 5, none⟩ = some (.slice pa xs.length ca) := by rw [cell_of hA]; rfl
 have b5 : w1.cell? ⟨w.heap.size + 1, 5, none⟩ = some (.slice pb ys.length cb) := by rw [cell_of hB]; rfl
 clear hA hB
 obtain ⟨dd, hdd⟩ : ∃ dd, decide (xs = ys) = dd := ⟨_, rfl⟩
 rw [hdd] at HSL
 have HDD := Lib.hid hdd
 clear hdd
 go_wp2_with fail
 refine HSL.out.mono ?_
 rintro e w2 ⟨rfl, hu2⟩
 have HA2 := hu2.heap HA.out (by simp)
 have HB2 := hu2.heap HB.out (by simp)
 have HU2 := Lib.hid (HU.out.trans hu2)
 clear hu2 a5 b5
 have a0 : w2.cell? ⟨w.heap.size, 0, none⟩ = some (.int .i64 k) := by rw [cell_of HA2]; rfl
 have a1 : w2.cell? ⟨w.heap.size, 1, none⟩ = some (.int .i64 t) := by rw [cell_of HA2]; rfl
 have a2 : w2.cell? ⟨w.heap.size, 2, none⟩ = some (.int .i64 m) := by rw [cell_of HA2]; rfl
 have a3 : w2.cell? ⟨w.heap.size, 3, none⟩ = some (.int .i64 p) := by rw [cell_of HA2]; rfl
 have a4 : w2.cell? ⟨w.heap.size, 4, none⟩ = some (.int .i64 v) := by rw [cell_of HA2]; rfl
 have b0 : w2.cell? ⟨w.heap.size + 1, 0, none⟩ = some (.int .i64 k') := by rw [cell_of HB2]; rfl
 have b1 : w2.cell? ⟨w.heap.size + 1, 1, none⟩ = some (.int .i64 t') := by rw [cell_of HB2]; rfl
 have b2 : w2.cell? ⟨w.heap.size + 1, 2, none⟩ = some (.int .i64 m') := by rw [cell_of HB2]; rfl
 have b3 : w2.cell? ⟨w.heap.size + 1, 3, none⟩ = some (.int .i64 p') := by rw [cell_of HB2]; rfl
 have b4 : w2.cell? ⟨w.heap.size + 1, 4, none⟩ = some (.int .i64 v') := by rw [cell_of HB2]; rfl
 clear HA2 HB2 HA HB
 by_cases e0 : k = k'
 ·subst e0
  by_cases e1 : t = t'
  ·subst e1
   by_cases e2 : m = m'
   ·subst e2
    by_cases e3 : p = p'
    ·subst e3
     by_cases e4 : v = v'
     ·subst e4
      go_wp2_with fail
      go_ret
      exact ⟨by rw [← HDD.out]; simp, HU2.out⟩
     ·have n4 : (v == v') = false := by simpa using e4
      go_wp2_with fail
      go_ret
      exact ⟨by simp, HU2.out⟩
    ·have n3 : (p == p') = false := by simpa using e3
     go_wp2_with fail
     go_ret
     exact ⟨by simp, HU2.out⟩
   ·have n2 : (m == m') = false := by simpa using e2
    go_wp2_with fail
    go_ret
    exact ⟨by simp, HU2.out⟩
  ·have n1 : (t == t') = false := by simpa using e1
   go_wp2_with fail
   go_ret
   exact ⟨by simp, HU2.out⟩
 ·have n0 : (k == k') = false := by simpa using e0
  go_wp2_with fail
  go_ret
  exact ⟨by simp [e0], HU2.out⟩
end Go.Proofs.YtojobkhidlfeoaaDoor
