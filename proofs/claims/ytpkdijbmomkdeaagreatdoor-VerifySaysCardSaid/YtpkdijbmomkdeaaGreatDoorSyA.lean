/- verify.Info asked about no method; Asked, Program; overdriveref7.Info.Words. overdriveref7.Info.Words, Reached of no method. -/
import Derived.Test.YtpkdijbmomkdeaaGreatDoorMostW
import Derived.Test.YtpkdijbmomkdeaaGreatDoorCopyV
import Derived.Test.YtpkdijbmomkdeaaGreatDoorSyR
/-! verify.Info asked about no method; Asked, Program; overdriveref7.Info.Words. -/
/-! verify.Info asked about no method; Asked, Program; overdriveref7.Info.Words. -/
namespace Go.Proofs.YtpkdijbmomkdeaaGreatDoor
open Go.RowKit

set_option maxRecDepth 100000 in
set_option maxHeartbeats 4000000 in
theorem ask_out (ib : Nat) (p : Prg) (ss : List Lk) (n k : Int) (w : World) (h : InfoAt w ib p ss n) (hl : ss.length = p.ms.length) (hk : ¬ (0 ≤ k ∧ k < (p.ms.length : Int))) (h0 : 0 ≤ n) (h1 : n ≤ 1000000000) :
    Calls Tryz.prog 31 #[.pointer (some ⟨ib, 0, none⟩), .int .i64 k] w fun e w' => e = .returned (.tuple #[.agg #[.slice none 0 0, .slice none 0 0, .int .i64 0], .agg #[.string ⟨#[]⟩, .string ⟨#[]⟩, .string ⟨#[]⟩, .slice none 0 0]]) ∧ InfoAt w' ib p ss (n + 1) ∧ Upd [ib] w w' := by
  obtain ⟨cv, mv, lv, hbx, hc, hm, lp, lc, rfl, hlm, hlx⟩ := id h
  have hib : ib < w.heap.size := lt_of_heap hbx
  go_enter Tryz.func31, Tryz.ntmps31
  go_upto_region 1 with fail
  have hu0 := ((Upd.refl [] w).alloc (.cells #[.slice none 0 0, .slice none 0 0, .int .i64 0] 75)).alloc (.cells #[.string ⟨#[]⟩, .string ⟨#[]⟩, .string ⟨#[]⟩, .slice none 0 0] 52)
  have hA := ((Upd.refl [] _).alloc (.cells #[.string ⟨#[]⟩, .string ⟨#[]⟩, .string ⟨#[]⟩, .slice none 0 0] 52)).heap (heap_alloc_new w (.cells #[.slice none 0 0, .slice none 0 0, .int .i64 0] 75)) (by simp)
  have hB := heap_alloc_new (w.alloc (.cells #[.slice none 0 0, .slice none 0 0, .int .i64 0] 75)) (.cells #[.string ⟨#[]⟩, .string ⟨#[]⟩, .string ⟨#[]⟩, .slice none 0 0] 52)
  rw [show (w.alloc (.cells #[.slice none 0 0, .slice none 0 0, .int .i64 0] 75)).heap.size = w.heap.size + 1 by simp] at hB
  have hI0 := h.upd hu0
  generalize (w.alloc (.cells #[.slice none 0 0, .slice none 0 0, .int .i64 0] 75)).alloc (.cells #[.string ⟨#[]⟩, .string ⟨#[]⟩, .string ⟨#[]⟩, .slice none 0 0] 52) = w0 at hu0 hA hB hI0 ⊢
  have hbx0 := hu0.heap hbx (by simp)
  have a3 : w0.cell? ⟨ib, 3, none⟩ = some (.int .i64 n) := by rw [cell_of hbx0]; rfl
  have f3 := froz_of hbx0 3
  go_wp2_with fail
  refine (iadd_any ib n w0 a3 f3 h0 h1).mono ?_
  rintro e w1 ⟨rfl, hw1⟩
  have hI1 := hI0.ask (n + 1)
  have hu1 : Upd [ib] w0 (w0.setCell ⟨ib, 3, none⟩ (.int .i64 (n + 1))) := (Upd.refl _ _).setCell (.inl (by simp)) _
  rw [← hw1] at hI1 hu1
  have hw2 : ∀ q, q ≠ 3 → w1.cell? ⟨ib, q, none⟩ = w.cell? ⟨ib, q, none⟩ := fun q hq => by
    rw [hw1, World.cell?_setCell_other _ ⟨ib, 3, none⟩ ⟨ib, q, none⟩ _ (by simp), World.cell?_of_block (hu0.block ib hib (by simp))]
  have hA1 := hu1.heap hA (by simp; omega)
  have hB1 := hu1.heap hB (by simp; omega)
  have HW3 : Hid (∀ cv mv lv, w.heap[ib]? = some (.cells #[cv, mv, lv, .int .i64 n] 73) → w1.heap[ib]? = some (.cells #[cv, mv, lv, .int .i64 (n + 1)] 73)) := fun cv mv lv hb => by
    rw [hw1, heap_setCell (hu0.heap hb (by simp))]
    simp
  have HOR := Lib.hid h
  clear hw1 hbx0 a3 f3 hI0 hA hB h
  have HI1 := Lib.hid hI1
  have HU : Hid (Upd [ib] w w1) := (hu0.mono (by simp)).trans hu1
  clear hI1 hu0 hu1
  have e2 : w1.cell? ⟨ib, 2, none⟩ = some (.slice lp ss.length lc) := by rw [hw2 2 (by decide), cell_of hbx]; rfl
  rw [hl] at e2
  clear hlx hbx hw2 hc hm
  have r0 : w1.cell? ⟨w.heap.size, 0, none⟩ = some (.slice none 0 0) := by rw [cell_of hA1]; rfl
  have r1 : w1.cell? ⟨w.heap.size, 1, none⟩ = some (.slice none 0 0) := by rw [cell_of hA1]; rfl
  have r2 : w1.cell? ⟨w.heap.size, 2, none⟩ = some (.int .i64 0) := by rw [cell_of hA1]; rfl
  have s0 : w1.cell? ⟨w.heap.size + 1, 0, none⟩ = some (.string ⟨#[]⟩) := by rw [cell_of hB1]; rfl
  have s1 : w1.cell? ⟨w.heap.size + 1, 1, none⟩ = some (.string ⟨#[]⟩) := by rw [cell_of hB1]; rfl
  have s2 : w1.cell? ⟨w.heap.size + 1, 2, none⟩ = some (.string ⟨#[]⟩) := by rw [cell_of hB1]; rfl
  have s3 : w1.cell? ⟨w.heap.size + 1, 3, none⟩ = some (.slice none 0 0) := by rw [cell_of hB1]; rfl
  have x0 := froz_of hA1 0
  have x1 := froz_of hA1 1
  have x2 := froz_of hA1 2
  have y0 := froz_of hB1 0
  have y1 := froz_of hB1 1
  have y2 := froz_of hB1 2
  have y3 := froz_of hB1 3
  have HA1 := Lib.hid hA1
  have HB1 := Lib.hid hB1
  clear hA1 hB1 hib
  have hor : (decide (k < 0) = true ∧ k < 0) ∨ (decide (k < 0) = false ∧ decide ((p.ms.length : Int) ≤ k) = true ∧ ¬ k < 0 ∧ (p.ms.length : Int) ≤ k) := by
    by_cases hn : k < 0
    · exact .inl ⟨decide_eq_true hn, hn⟩
    · exact .inr ⟨decide_eq_false hn, decide_eq_true (by omega), hn, by omega⟩
  clear hk hlm
  rcases hor with ⟨d0, d9⟩ | ⟨d0, d1, d8, d9⟩
  all_goals
    go_wp2_with fail
    have k1 := heap_setCell HA1.out 0 (.slice none 0 0)
    have k2 := heap_setCell k1 1 (.slice none 0 0)
    have k3 := heap_setCell k2 2 (.int .i64 0)
    have hu3 : Upd [w.heap.size] w1 (((w1.setCell ⟨w.heap.size, 0, none⟩ (.slice none 0 0)).setCell ⟨w.heap.size, 1, none⟩ (.slice none 0 0)).setCell ⟨w.heap.size, 2, none⟩ (.int .i64 0)) :=
      (((Upd.refl _ w1).setCell (.inl (by simp)) _).setCell (.inl (by simp)) _).setCell (.inl (by simp)) _
    have kb := hu3.heap HB1.out (by simp)
    generalize (((w1.setCell ⟨w.heap.size, 0, none⟩ (.slice none 0 0)).setCell ⟨w.heap.size, 1, none⟩ (.slice none 0 0)).setCell ⟨w.heap.size, 2, none⟩ (.int .i64 0)) = w3 at k3 hu3 kb ⊢
    have k4 := heap_setCell kb 0 (.string ⟨#[]⟩)
    have k5 := heap_setCell k4 1 (.string ⟨#[]⟩)
    have k6 := heap_setCell k5 2 (.string ⟨#[]⟩)
    have k7 := heap_setCell k6 3 (.slice none 0 0)
    have hu7 : Upd [w.heap.size + 1] w3 ((((w3.setCell ⟨w.heap.size + 1, 0, none⟩ (.string ⟨#[]⟩)).setCell ⟨w.heap.size + 1, 1, none⟩ (.string ⟨#[]⟩)).setCell ⟨w.heap.size + 1, 2, none⟩ (.string ⟨#[]⟩)).setCell ⟨w.heap.size + 1, 3, none⟩ (.slice none 0 0)) :=
      ((((Upd.refl _ w3).setCell (.inl (by simp)) _).setCell (.inl (by simp)) _).setCell (.inl (by simp)) _).setCell (.inl (by simp)) _
    have ka3 := hu7.heap k3 (by simp)
    generalize ((((w3.setCell ⟨w.heap.size + 1, 0, none⟩ (.string ⟨#[]⟩)).setCell ⟨w.heap.size + 1, 1, none⟩ (.string ⟨#[]⟩)).setCell ⟨w.heap.size + 1, 2, none⟩ (.string ⟨#[]⟩)).setCell ⟨w.heap.size + 1, 3, none⟩ (.slice none 0 0)) = w7 at k7 hu7 ka3 ⊢
    have d0 := cell_of ka3 0
    have d1 := cell_of ka3 1
    have d2 := cell_of ka3 2
    have d4 := cell_of k7 0
    have d5 := cell_of k7 1
    have d6 := cell_of k7 2
    have d7 := cell_of k7 3
    simp at d0 d1 d2 d4 d5 d6 d7
    have hu : Upd [w.heap.size, w.heap.size + 1] w1 w7 := (hu3.mono (by simp)).trans (hu7.mono (by simp))
    refine bodyPost_ret (v := .tuple #[.agg #[.slice none 0 0, .slice none 0 0, .int .i64 0], .agg #[.string ⟨#[]⟩, .string ⟨#[]⟩, .string ⟨#[]⟩, .slice none 0 0]]) (by simp [results, Tryz.results31, go_sem, d0, d1, d2, d4, d5, d6, d7]) rfl ?_
    have hU7 : Upd [ib] w w7 := HU.out.trans' hu (fun q hq hl => by simp at hq; omega)
    exact ⟨rfl, HOR.out.later hU7 (fun cv mv lv hb => hu.heap (HW3.out cv mv lv hb) (by have := lt_of_heap hb; simp; omega)), hU7⟩

set_option maxRecDepth 100000 in
set_option maxHeartbeats 1000000 in
/-- How often anything was asked. -/
theorem asked_any (ib : Nat) (p : Prg) (ss : List Lk) (n : Int) (w : World) (h : InfoAt w ib p ss n) :
    Calls Tryz.prog 11 #[.pointer (some ⟨ib, 0, none⟩)] w fun e w' => e = .returned (.int .i64 n) ∧ w' = w := by
  obtain ⟨cv, mv, lv, hbx, _⟩ := h
  have a3 : w.cell? ⟨ib, 3, none⟩ = some (.int .i64 n) := by rw [cell_of hbx]; rfl
  have hl := run_call_load (P := Tryz.prog) Tryz.func52 (by kernel_rfl) (by kernel_rfl) (by kernel_rfl) .i64 (by kernel_rfl) a3
  have hld : Calls Tryz.prog 30 #[.pointer (some ⟨ib, 3, none⟩)] w fun e w' => e = .returned (.int .i64 n) ∧ w' = w := by
    go_enter Tryz.func30, Tryz.ntmps30
    go_wp2_with fail
    go_ret
    exact ⟨rfl, rfl⟩
  clear hl
  go_enter Tryz.func11, Tryz.ntmps11
  go_wp2_with fail
  refine hld.mono ?_
  rintro e w1 ⟨rfl, rfl⟩
  go_wp2_with fail
  go_ret
  exact ⟨rfl, rfl⟩

set_option maxRecDepth 100000 in
set_option maxHeartbeats 2000000 in
/-- Asked of no method: the greatest height. -/
theorem most_out (ib : Nat) (p : Prg) (ss : List Lk) (n k : Int) (w : World) (h : InfoAt w ib p ss n) (hl : ss.length = p.ms.length) (hk : ¬ (0 ≤ k ∧ k < (p.ms.length : Int))) (h0 : 0 ≤ n) (h1 : n ≤ 1000000000) :
    Calls Tryz.prog 12 #[.pointer (some ⟨ib, 0, none⟩), .int .i64 k] w fun e w' => e = .returned (.int .i64 0) ∧ InfoAt w' ib p ss (n + 1) ∧ Upd [ib] w w' := by
  have HA := Lib.hid (ask_out ib p ss n k w h hl hk h0 h1)
  clear hk h hl
  go_enter Tryz.func12, Tryz.ntmps12
  go_wp2_with fail
  refine HA.out.mono ?_
  rintro e w1 ⟨rfl, hi, hu⟩
  have hu2 := ((Upd.refl [] w1).alloc (.cells #[.slice none 0 0, .slice none 0 0, .int .i64 0] 75)).alloc (.cells #[.string ⟨#[]⟩, .string ⟨#[]⟩, .string ⟨#[]⟩, .slice none 0 0] 52)
  have HI := Lib.hid (hi.upd hu2)
  have HU := Lib.hid (hu.trans (hu2.mono (T := [ib]) (by simp)))
  clear hi hu hu2 HA
  go_wp2_with fail
  go_ret
  exact ⟨rfl, HI.out, HU.out⟩

set_option maxRecDepth 100000 in
set_option maxHeartbeats 2000000 in
theorem words_out (ib : Nat) (p : Prg) (ss : List Lk) (n k : Int) (w : World) (h : InfoAt w ib p ss n) (hl : ss.length = p.ms.length) (hk : ¬ (0 ≤ k ∧ k < (p.ms.length : Int))) (h0 : 0 ≤ n) (h1 : n ≤ 1000000000) :
    Calls Tryz.prog 13 #[.pointer (some ⟨ib, 0, none⟩), .int .i64 k] w fun e w' => e = .returned (.int .i64 0) ∧ InfoAt w' ib p ss (n + 1) ∧ Upd [ib] w w' := by
  have HA := Lib.hid (ask_out ib p ss n k w h hl hk h0 h1)
  clear hk h hl
  go_enter Tryz.func13, Tryz.ntmps13
  go_wp2_with fail
  refine HA.out.mono ?_
  rintro e w1 ⟨rfl, hi, hu⟩
  have hu2 := ((Upd.refl [] w1).alloc (.cells #[.slice none 0 0, .slice none 0 0, .int .i64 0] 75)).alloc (.cells #[.string ⟨#[]⟩, .string ⟨#[]⟩, .string ⟨#[]⟩, .slice none 0 0] 52)
  have HI := Lib.hid (hi.upd hu2)
  have HU := Lib.hid (hu.trans (hu2.mono (T := [ib]) (by simp)))
  clear hi hu hu2 HA
  go_wp2_with fail
  go_ret
  exact ⟨rfl, HI.out, HU.out⟩

set_option maxRecDepth 100000 in
set_option maxHeartbeats 2000000 in
theorem at_none (pc : Int) (w : World) :
    Calls Tryz.prog 34 #[.agg #[.slice none 0 0, .slice none 0 0, .int .i64 0], .int .i64 pc] w fun e w' => e = .returned (.tuple #[.string ⟨#[]⟩, .bool false]) ∧ Upd [] w w' := by
  have HU := Lib.hid ((Upd.refl [] w).alloc (.cells #[.slice none 0 0, .slice none 0 0, .int .i64 0] 75))
  have hor : decide (pc < 0) = true ∨ (decide (pc < 0) = false ∧ decide (0 ≤ pc) = true) := by
    by_cases hn : pc < 0
    · exact .inl (decide_eq_true hn)
    · exact .inr ⟨decide_eq_false hn, decide_eq_true (by omega)⟩
  go_enter Tryz.func34, Tryz.ntmps34
  rcases hor with d0 | ⟨d0, d1⟩
  all_goals
    go_wp2_with fail
    go_ret2
    exact ⟨rfl, HU.out⟩

set_option maxRecDepth 100000 in
set_option maxHeartbeats 2000000 in
theorem stack_out (ib : Nat) (p : Prg) (ss : List Lk) (n k pc : Int) (w : World) (h : InfoAt w ib p ss n) (hl : ss.length = p.ms.length) (hk : ¬ (0 ≤ k ∧ k < (p.ms.length : Int))) (h0 : 0 ≤ n) (h1 : n ≤ 1000000000) :
    Calls Tryz.prog 15 #[.pointer (some ⟨ib, 0, none⟩), .int .i64 k, .int .i64 pc] w fun e w' => e = .returned (.tuple #[.string ⟨#[]⟩, .bool false]) ∧ InfoAt w' ib p ss (n + 1) ∧ Upd [ib] w w' := by
  have HA := Lib.hid (ask_out ib p ss n k w h hl hk h0 h1)
  clear hk h hl
  go_enter Tryz.func15, Tryz.ntmps15
  go_wp2_with fail
  refine HA.out.mono ?_
  rintro e w1 ⟨rfl, hi, hu⟩
  have hu2 := ((Upd.refl [] w1).alloc (.cells #[.slice none 0 0, .slice none 0 0, .int .i64 0] 75)).alloc (.cells #[.string ⟨#[]⟩, .string ⟨#[]⟩, .string ⟨#[]⟩, .slice none 0 0] 52)
  have HI := Lib.hid (hi.upd hu2)
  have HU := Lib.hid (hu.trans (hu2.mono (T := [ib]) (by simp)))
  clear hi hu hu2 HA
  go_wp2_with fail
  refine (at_none pc _).mono ?_
  rintro e w3 ⟨rfl, hu3⟩
  go_wp2_with fail
  go_ret2
  exact ⟨rfl, HI.out.upd hu3, HU.out.trans (hu3.mono (T := [ib]) (by simp))⟩

end Go.Proofs.YtpkdijbmomkdeaaGreatDoor

/-! overdriveref7.Info.Words, Reached of no method. -/
/-! overdriveref7.Info.Words, Reached of no method. -/
namespace Go.Proofs.YtpkdijbmomkdeaaGreatDoor
open Go.RowKit

set_option maxRecDepth 100000 in
set_option maxHeartbeats 4000000 in
theorem rreached_out (a0 a1 a2 : Option Addr) (n0 c0 n1 c1 n2 c2 : Nat) (k pc : Int) (w : World) (hk : ¬ (0 ≤ k ∧ k < (n2 : Int))) :
    Calls Tryz.prog 16 #[.agg #[.slice a0 n0 c0, .slice a1 n1 c1, .slice a2 n2 c2], .int .i64 k, .int .i64 pc] w fun e w' => e = .returned (.bool false) ∧ Upd [] w w' := by
  have hu := (Upd.refl [] w).alloc (.cells #[.slice a0 n0 c0, .slice a1 n1 c1, .slice a2 n2 c2] 35)
  have hb := heap_alloc_new w (.cells #[.slice a0 n0 c0, .slice a1 n1 c1, .slice a2 n2 c2] 35)
  have y2 : (w.alloc (.cells #[.slice a0 n0 c0, .slice a1 n1 c1, .slice a2 n2 c2] 35)).cell? ⟨w.heap.size, 2, none⟩ = some (.slice a2 n2 c2) := by rw [cell_of hb]; rfl
  have HU := Lib.hid hu
  clear hb hu
  have hor : decide (0 ≤ k) = false ∨ (decide (0 ≤ k) = true ∧ decide (k < (n2 : Int)) = false) := by
    by_cases hn : 0 ≤ k
    · exact .inr ⟨decide_eq_true hn, decide_eq_false (by omega)⟩
    · exact .inl (decide_eq_false hn)
  clear hk
  go_enter Tryz.func16, Tryz.ntmps16
  rcases hor with d0 | ⟨d0, d1⟩
  all_goals
    go_wp2_with fail
    go_ret
    exact ⟨rfl, HU.out⟩

set_option maxRecDepth 100000 in
set_option maxHeartbeats 4000000 in
theorem rwords_any (p : Prg) (ss : List Lk) (a0 ma : Option Addr) (n0 c0 mc : Nat) (v2 : Value) (k : Nat) (w : World) (h : LksT w v2 p.ms ss) (hm : MethsAt w (.slice ma p.ms.length mc) p.ms) (hl : ss.length = p.ms.length) (hk : k < p.ms.length)
    (hz1 : (p.ms.getD k default).params.size ≤ 1000) (hz2 : (p.ms.getD k default).locals.size ≤ 1000) (hmo : (ss.getD k default).most ≤ 1000) :
    Calls Tryz.prog 14 #[.agg #[.slice a0 n0 c0, .slice ma p.ms.length mc, v2], .int .i64 k] w fun e w' => e = .returned (.int .i64 (4 + ((p.ms.getD k default).params.size + (p.ms.getD k default).locals.size : Nat) + (ss.getD k default).most)) ∧ Upd [] w w' := by
  obtain ⟨a, cap, rfl, hcap, hx⟩ := h
  obtain ⟨b, o, gs, gb, rfl, x0, x1, x2, hlk⟩ := hx k (by omega)
  obtain ⟨_, _, hme, _, hmm, hmx⟩ := hm
  injection hme with hme1 _ hme2
  subst hme1 hme2
  obtain ⟨bm, mo, rfl, _, q0, q1, q2, kv, q3, hcode⟩ := hmx k hk
  obtain ⟨ka, kc, rfl, _⟩ := hcode
  clear hmx hx hlk
  unfold maxLen at hmm hcap
  have hu := (Upd.refl [] w).alloc (.cells #[.slice a0 n0 c0, .slice (some ⟨bm, mo, none⟩) p.ms.length mc, .slice (some ⟨b, o, none⟩) ss.length cap] 35)
  have hb := heap_alloc_new w (.cells #[.slice a0 n0 c0, .slice (some ⟨bm, mo, none⟩) p.ms.length mc, .slice (some ⟨b, o, none⟩) ss.length cap] 35)
  have HU := Lib.hid hu
  have y1 : (w.alloc (.cells #[.slice a0 n0 c0, .slice (some ⟨bm, mo, none⟩) p.ms.length mc, .slice (some ⟨b, o, none⟩) ss.length cap] 35)).cell? ⟨w.heap.size, 1, none⟩ = some (.slice (some ⟨bm, mo, none⟩) p.ms.length mc) := by rw [cell_of hb]; rfl
  have y2 : (w.alloc (.cells #[.slice a0 n0 c0, .slice (some ⟨bm, mo, none⟩) p.ms.length mc, .slice (some ⟨b, o, none⟩) ss.length cap] 35)).cell? ⟨w.heap.size, 2, none⟩ = some (.slice (some ⟨b, o, none⟩) ss.length cap) := by rw [cell_of hb]; rfl
  have q0 := hu.cell q0 (by simp)
  have q1 := hu.cell q1 (by simp)
  have q2 := hu.cell q2 (by simp)
  have q3 := hu.cell q3 (by simp)
  have x2 := hu.cell x2 (by simp)
  clear hb hu x0 x1
  generalize hmg : p.ms.getD k default = m at q0 q1 q2 q3 hz1 hz2 ⊢
  generalize hsg : ss.getD k default = s at x2 hmo ⊢
  clear hmg hsg
  rw [hl] at y1 y2 q0 q1 q2 q3 x2 HU ⊢
  go_enter Tryz.func14, Tryz.ntmps14
  go_upto_region 1 with fail
  generalize w.alloc (.cells #[.slice a0 n0 c0, .slice (some ⟨bm, mo, none⟩) p.ms.length mc, .slice (some ⟨b, o, none⟩) p.ms.length cap] 35) = w2 at HU y1 y2 q0 q1 q2 q3 x2 ⊢
  generalize w.heap.size = B at y1 y2 ⊢
  have d0 : decide ((k : Int) < 0) = false := decide_eq_false (by omega)
  have d1 : decide ((p.ms.length : Int) ≤ k) = false := decide_eq_false (by omega)
  have HK := Lib.hid (rkinds_any m (.slice ka m.code.length kc) w2.drew (by omega) (by omega))
  have hks := kinds_size m
  have hks2 : (bs (kindsL m)).size ≤ 2000 := by omega
  have HKS := Lib.hid hks
  clear hks
  generalize bs (kindsL m) = ks at HK hks2 HKS
  have hF0 : w2.cell? ⟨B, 1, none⟩ = some (.slice (some ⟨bm, mo, none⟩) p.ms.length mc) ∧ w2.cell? ⟨B, 2, none⟩ = some (.slice (some ⟨b, o, none⟩) p.ms.length cap) ∧ w2.cell? ⟨bm, mo + k * 4, none⟩ = some (.string m.params) ∧ w2.cell? ⟨bm, mo + k * 4 + 1, none⟩ = some (.string m.locals) ∧ w2.cell? ⟨bm, mo + k * 4 + 2, none⟩ = some (.string m.ret) ∧ w2.cell? ⟨bm, mo + k * 4 + 3, none⟩ = some (.slice ka m.code.length kc) ∧ w2.cell? ⟨b, o + k * 3 + 2, none⟩ = some (.int .i64 s.most) := ⟨y1, y2, q0, q1, q2, q3, x2⟩
  have hd := (Upd.refl [] w2).drew
  have hF1 : w2.drew.cell? ⟨B, 1, none⟩ = some (.slice (some ⟨bm, mo, none⟩) p.ms.length mc) ∧ w2.drew.cell? ⟨B, 2, none⟩ = some (.slice (some ⟨b, o, none⟩) p.ms.length cap) ∧ w2.drew.cell? ⟨bm, mo + k * 4, none⟩ = some (.string m.params) ∧ w2.drew.cell? ⟨bm, mo + k * 4 + 1, none⟩ = some (.string m.locals) ∧ w2.drew.cell? ⟨bm, mo + k * 4 + 2, none⟩ = some (.string m.ret) ∧ w2.drew.cell? ⟨bm, mo + k * 4 + 3, none⟩ = some (.slice ka m.code.length kc) ∧ w2.drew.cell? ⟨b, o + k * 3 + 2, none⟩ = some (.int .i64 s.most) := hF0
  go_wp2_with fail
  go_region_held3 (fun w' => w'.cell? ⟨B, 1, none⟩ = some (.slice (some ⟨bm, mo, none⟩) p.ms.length mc) ∧ w'.cell? ⟨B, 2, none⟩ = some (.slice (some ⟨b, o, none⟩) p.ms.length cap) ∧ w'.cell? ⟨bm, mo + k * 4, none⟩ = some (.string m.params) ∧ w'.cell? ⟨bm, mo + k * 4 + 1, none⟩ = some (.string m.locals) ∧ w'.cell? ⟨bm, mo + k * 4 + 2, none⟩ = some (.string m.ret) ∧ w'.cell? ⟨bm, mo + k * 4 + 3, none⟩ = some (.slice ka m.code.length kc) ∧ w'.cell? ⟨b, o + k * 3 + 2, none⟩ = some (.int .i64 s.most))
    (first | exact hk0 | exact hF1 | exact hF0)
    ((go_at_call 33; refine HK.out.mono ?_; rintro e w3 ⟨rfl, hu3⟩; have hk0 := (⟨hu3.cell hF1.1 (by simp), hu3.cell hF1.2.1 (by simp), hu3.cell hF1.2.2.1 (by simp), hu3.cell hF1.2.2.2.1 (by simp), hu3.cell hF1.2.2.2.2.1 (by simp), hu3.cell hF1.2.2.2.2.2.1 (by simp), hu3.cell hF1.2.2.2.2.2.2 (by simp)⟩ : _ ∧ _ ∧ _ ∧ _ ∧ _ ∧ _ ∧ _)))
  have hu4 := hd.trans hu3
  clear hk0 hF0 hF1
  go_wp2_with fail
  go_ret
  exact ⟨by
    rw [← HKS.out]
    show Ending.returned (.int .i64 (IntKind.i64.wrap (IntKind.i64.wrap (4 + (ks.size : Int)) + (s.most : Int)))) = _
    rw [IntWalk.i64_in (4 + (ks.size : Int)) (by omega), IntWalk.i64_in _ (by omega)], HU.out.trans hu4⟩

end Go.Proofs.YtpkdijbmomkdeaaGreatDoor
