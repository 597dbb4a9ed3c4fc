/- HeapLeast: the walk. -/
import Derived.Test.YtlkflkgohclbmaaDoorFirst
namespace Go.Proofs.YtlkflkgohclbmaaDoor
open Go.RowKit

theorem least_pos (v : Value) (v2 : Value) (a b : Int) (w : World) (ha : 0 ≤ a) (hb : 0 ≤ b) (ha2 : a ≤ 100000) (hb2 : b ≤ 100000) :
    Calls Tryd.prog 34 #[.agg #[v, v2], .int .i64 a, .int .i64 b] w fun e w' => e = .returned (.int .i64 (2 * (a + b) + b)) ∧ Upd [] w w' := by
  go_enter Tryd.func34, Tryd.ntmps34
  go_wp2_with fail
  go_ret
  exact ⟨rfl, (Upd.refl _ _).alloc _⟩

theorem least_neg (v : Value) (v2 : Value) (w : World) :
    Calls Tryd.prog 34 #[.agg #[v, v2], .int .i64 (-5), .int .i64 (-7)] w fun e w' => e = .returned (.int .i64 0) ∧ Upd [] w w' := by
  go_enter Tryd.func34, Tryd.ntmps34
  go_wp2_with fail
  go_ret
  exact ⟨rfl, (Upd.refl _ _).alloc _⟩

theorem cls_nil (w : World) : ClsAt w (.slice none 0 0) 0 0 [] := ⟨.inl ⟨rfl, rfl⟩, by simp⟩

set_option maxRecDepth 100000 in
set_option maxHeartbeats 2000000 in
theorem leastL_any (x y : Int) (w : World) : Calls Tryd.prog 7 #[.int .i64 x, .int .i64 y] w fun e w' => e = .returned (.bool true) ∧ Upd [] w w' := by
  go_enter Tryd.func7, Tryd.ntmps7
  go_wp2_with fail
  refine (first_any w).mono ?_
  rintro e w1 ⟨rfl, hu1⟩
  have e1 := and_8191 x
  have e2 := and_4095 y
  go_wp2_with fail
  have ha := Int.emod_nonneg x (show (8192 : Int) ≠ 0 by omega)
  have ha2 := Int.emod_lt_of_pos x (show (0 : Int) < 8192 by omega)
  have hb := Int.emod_nonneg y (show (4096 : Int) ≠ 0 by omega)
  have hb2 := Int.emod_lt_of_pos y (show (0 : Int) < 4096 by omega)
  generalize x % 8192 = a at ha ha2
  generalize y % 4096 = b at hb hb2
  clear e1 e2
  have hpw := heap_alloc_new ((w1.alloc (.cells #[.int .i64 33, .int .i64 0, .int .i64 0, .int .i64 0] 25)).alloc (.cells #[.string { data := #[] }, .string { data := #[] }, .string { data := #[] }, .slice (some ⟨w1.heap.size, 0, none⟩) 1 1] 28)) (.cells #[.slice none 0 0, .slice (some ⟨w1.heap.size + 1, 0, none⟩) 1 1] 32)
  have hz : (((w1.alloc (.cells #[.int .i64 33, .int .i64 0, .int .i64 0, .int .i64 0] 25)).alloc (.cells #[.string { data := #[] }, .string { data := #[] }, .string { data := #[] }, .slice (some ⟨w1.heap.size, 0, none⟩) 1 1] 28))).heap.size = w1.heap.size + 1 + 1 := by simp
  rw [hz] at hpw
  have hU2 := ((hu1.alloc (.cells #[.int .i64 33, .int .i64 0, .int .i64 0, .int .i64 0] 25)).alloc (.cells #[.string { data := #[] }, .string { data := #[] }, .string { data := #[] }, .slice (some ⟨w1.heap.size, 0, none⟩) 1 1] 28)).alloc (.cells #[.slice none 0 0, .slice (some ⟨w1.heap.size + 1, 0, none⟩) 1 1] 32)
  refine (least_pos _ _ a b _ ha hb (by omega) (by omega)).mono ?_
  rintro e w2 ⟨rfl, hu2⟩
  have hp2 := hu2.heap hpw (by simp)
  have hU3 := hU2.trans hu2
  clear hpw hu2 hU2 hz
  have c0 := cell_of hp2 0
  have c1 := cell_of hp2 1
  have hw2 := lt_of_heap hp2
  go_wp2_with fail
  refine (hnew_ok _ _ 0 0 [] (2 * (a + b) + b) b w2 (cls_nil w2) hb (by omega) (by omega) (by simp) (by simp) (by omega)).mono ?_
  rintro e w3 ⟨L, cv, mv, rfl, hH, hu3, _⟩
  have hp3 := hu3.heap hp2 (by simp)
  have hU4 := hU3.trans hu3
  clear hu3 hU3 hp2 c0 c1
  have c0 := cell_of hp3 0
  have c1 := cell_of hp3 1
  go_wp2_with fail
  refine (size_any _ _ _ _ _ hH).mono ?_
  rintro e w4 ⟨rfl, n4, rfl⟩
  have ey : (Hp.new [] (2 * (a + b) + b) b).y.to - (Hp.new [] (2 * (a + b) + b) b).y.fr = b := by simp only [Hp.new]; omega
  have eh : (Hp.new [] (2 * (a + b) + b) b).h0.to - (Hp.new [] (2 * (a + b) + b) b).h0.fr = a + b := by simp only [Hp.new]; omega
  rw [ey, eh]
  clear ey eh
  have d0 : (w3.drewN n4).cell? ⟨w1.heap.size + 1 + 1, 0, none⟩ = _ := c0
  have d1 : (w3.drewN n4).cell? ⟨w1.heap.size + 1 + 1, 1, none⟩ = _ := c1
  go_wp2_with fail
  refine (least_neg _ _ _).mono ?_
  rintro e w5 ⟨rfl, hu5⟩
  have hp5 := hu5.heap (show (w3.drewN n4).heap[w1.heap.size + 1 + 1]? = _ from hp3) (by simp)
  have hU5 := (hU4.drewN n4).trans hu5
  clear hu5 hU4 hp3 c0 c1 d0 d1
  have c0 := cell_of hp5 0
  have c1 := cell_of hp5 1
  have hw5 := lt_of_heap hp5
  by_cases h0 : a + b = 0
  · go_wp2_with fail
    go_ret
    exact ⟨by simp, hU5⟩
  · go_wp2_with fail
    refine (hnew_ok _ _ 0 0 [] (2 * (a + b) + b - 1) b w5 (cls_nil w5) hb (by omega) (by omega) (by simp) (by simp) (by omega)).mono ?_
    rintro e w6 ⟨L6, cv6, mv6, rfl, hH6, hu6, _⟩
    have hU6 := hU5.trans hu6
    clear hu6 hU5 hp5 c0 c1
    go_wp2_with fail
    refine (size_any _ _ _ _ _ hH6).mono ?_
    rintro e w7 ⟨rfl, n7, rfl⟩
    have ey : (Hp.new [] (2 * (a + b) + b - 1) b).y.to - (Hp.new [] (2 * (a + b) + b - 1) b).y.fr = b := by simp only [Hp.new]; omega
    have eh : (Hp.new [] (2 * (a + b) + b - 1) b).h0.to - (Hp.new [] (2 * (a + b) + b - 1) b).h0.fr = a + b - 1 := by simp only [Hp.new]; omega
    rw [ey, eh]
    clear ey eh
    go_wp2_with fail
    go_ret
    exact ⟨by simp; omega, hU6.drewN n7⟩

end Go.Proofs.YtlkflkgohclbmaaDoor
