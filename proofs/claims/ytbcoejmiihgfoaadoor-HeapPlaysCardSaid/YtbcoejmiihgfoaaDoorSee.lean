/- Contracts of package overdrivesee: an error that is one of api's, or none. -/
import Derived.Test.YtbcoejmiihgfoaaDoorSentA
import Derived.Test.YtbcoejmiihgfoaaDoorFaultA
import Derived.LaidEql
import Derived.LaidLaws
import Derived.Stop.LaidErr
import Derived.Deep.QuietTactic
import Derived.BigQuiet
namespace Go.Proofs.YtbcoejmiihgfoaaDoor
open Go.RowKit Go.ChangeShapes


set_option maxHeartbeats 400000 in
theorem alike_same (a : Addr) (w : World) :
  Calls Tryd.prog 63 #[.iface 127 (.pointer (some a)), .iface 127 (.pointer (some a))] w fun e w' => e = .returned (.bool true) ∧ w = w' := by
 obtain ⟨i, hi, hc⟩ := Option.map_eq_some_iff.1 Tryd.compE
 obtain ⟨j, hj, _⟩ := Option.map_eq_some_iff.1 Tryd.sizeE
 have heq := run_eql_iface_ptr_same (P := Tryd.prog) w a Tryd.underlying35 Tryd.underlying127 hi hc hj
 clear hi hc hj
 go_enter Tryd.func63, Tryd.ntmps63
 go_wp2_with fail
 go_ret
 exact ⟨rfl, rfl⟩

set_option maxHeartbeats 400000 in
theorem alike_other (a b : Addr) (w : World) (hne : a ≠ b) (ha : ∃ c t, w.heap[a.block]? = some (.cells c t (0, 0))) (hb : ∃ c t, w.heap[b.block]? = some (.cells c t (0, 0))) :
  Calls Tryd.prog 63 #[.iface 127 (.pointer (some a)), .iface 127 (.pointer (some b))] w fun e w' => e = .returned (.bool false) ∧ w = w' := by
 obtain ⟨i, hi, hc⟩ := Option.map_eq_some_iff.1 Tryd.compE
 obtain ⟨j, hj, hsz⟩ := Option.map_eq_some_iff.1 Tryd.sizeE
 obtain ⟨c1, t1, h1⟩ := ha
 obtain ⟨c2, t2, h2⟩ := hb
 have heq := run_eql_iface_ptr_other (P := Tryd.prog) w Tryd.underlying35 Tryd.underlying127 hi hc hj (by omega) hne h1 h2
 clear hi hc hj hsz h1 h2 hne
 go_enter Tryd.func63, Tryd.ntmps63
 go_wp2_with fail
 go_ret
 exact ⟨rfl, rfl⟩

/-- The block that 'sentinels' makes. -/
def sCells (E : Nat → Addr) : Array Value := ((List.range 14).map (sErr E)).toArray

set_option maxRecDepth 100000 in
set_option maxHeartbeats 400000 in
theorem sentinels_any (E : Nat → Addr) (w : World) (h : SentAll w E) :
  Calls Tryd.prog 62 #[] w fun e w' => e = .returned (.slice (some ⟨w.heap.size, 0, none⟩) 14 14) ∧ w' = w.alloc (.cells (sCells E) 35) := by
 have g0 := h.g 0 (by omega)
 have g1 := h.g 1 (by omega)
 have g2 := h.g 2 (by omega)
 have g3 := h.g 3 (by omega)
 have g4 := h.g 4 (by omega)
 have g5 := h.g 5 (by omega)
 have g6 := h.g 6 (by omega)
 have g7 := h.g 7 (by omega)
 have g8 := h.g 8 (by omega)
 have g9 := h.g 9 (by omega)
 have g10 := h.g 10 (by omega)
 have g11 := h.g 11 (by omega)
 have g12 := h.g 12 (by omega)
 have g13 := h.g 13 (by omega)
 simp only [sGlob, List.getD_cons_zero, List.getD_cons_succ, sErr] at g0 g1 g2 g3 g4 g5 g6 g7 g8 g9 g10 g11 g12 g13
 go_enter Tryd.func62, Tryd.ntmps62
 go_wp2_with fail
 go_ret
 exact ⟨rfl, rfl⟩

set_option maxRecDepth 100000 in
set_option maxHeartbeats 800000 in
theorem sentinel_at (E : Nat → Addr) (k : Nat) (hk : k < 14) (w : World) (h : SentAll w E) :
  Calls Tryd.prog 60 #[sErr E k] w fun e w' => e = .returned (.int .i64 (101 + k)) ∧ Upd [] w w' := by
 have hU0 : Upd [] w (w.alloc (.cells (sCells E) 35)) := (Upd.refl _ _).alloc _
 have hc : Hid (∀ i, i < 14 → (w.alloc (.cells (sCells E) 35)).cell? ⟨w.heap.size, i, none⟩ = some (.iface 127 (.pointer (some (E i))))) := by
  intro i hi
  simp [sCells, sErr, hi]
 unfold sErr
 go_enter Tryd.func60, Tryd.ntmps60
 go_wp2_with fail
 refine (sentinels_any E _ h).mono ?_
 rintro e w1 ⟨rfl, rfl⟩
 generalize w.alloc (.cells (sCells E) 35) = w1 at *
 go_wp2_with fail
 go_loop [4] (fun i => ∃ j : Nat, j ≤ k ∧ i = .int .i64 j) (fun i => 14 - (intOf i).toNat)
 case atStart => exact ⟨0, by omega, rfl⟩
 case round =>
  obtain ⟨j, hj, rfl⟩ := hrel
  have hcj := hc.out j (by omega)
  by_cases hjk : j = k
  ·subst hjk
   go_wp2_with fail
   refine (alike_same _ _).mono ?_
   rintro e w' ⟨rfl, rfl⟩
   go_wp2_with fail
   go_ret
   exact ⟨rfl, hU0⟩
  ·have hs := h.upd hU0
   have hne : E k ≠ E j := fun e => hjk (hs.inj hk (by omega) e).symm
   have H1 := Lib.hid (alike_other (E k) (E j) w1 hne (hs k hk).2.1 (hs j (by omega)).2.1)
   clear hs hne
   go_wp2_with fail
   refine H1.out.mono ?_
   rintro e w' ⟨rfl, rfl⟩
   go_wp2_with fail
   go_round
   case rel => exact ⟨j + 1, by omega, by go_num⟩
   case measure => simp [intOf]; omega

theorem assertAt_no (v : Value) (w : World) : (Instr.typeAssert (.iface 127 v) 35 117 true).run Tryd.prog w = .ok (.tuple #[.pointer none, .bool false]) w := by kernel_rfl
theorem assertWhere_no (v : Value) (w : World) : (Instr.typeAssert (.iface 127 v) 35 120 true).run Tryd.prog w = .ok (.tuple #[.pointer none, .bool false]) w := by kernel_rfl

set_option maxRecDepth 100000 in
set_option maxHeartbeats 400000 in
theorem fault_at (E : Nat → Addr) (k : Nat) (hk : k < 14) (left : Int) (hl : 0 < left) (w : World) (h : SentAll w E) :
  Calls Tryd.prog 58 #[sErr E k, .int .i64 left] w fun e w' => e = .returned (.agg #[.int .i64 (101 + k), .slice none 0 0]) ∧ Upd [] w w' := by
 have hl0 : (left == 0) = false := by rw [beq_eq_false_iff_ne]; omega
 have ha1 := assertAt_no
 have ha2 := assertWhere_no
 have H := Lib.hid (h.upd ((Upd.refl [] w).alloc (.cells #[.int .i64 0, .slice none 0 0] 31)))
 have HU := Lib.hid ((Upd.refl [] w).alloc (.cells #[.int .i64 0, .slice none 0 0] 31))
 clear h
 unfold sErr
 go_enter Tryd.func58, Tryd.ntmps58
 go_wp2_with fail
 have h2 := sentinel_at E k hk _ H.out
 unfold sErr at h2
 refine h2.mono ?_
 clear h2
 rintro e w1 ⟨rfl, hu1⟩
 go_wp2_with fail
 refine (bare_any _ _).mono ?_
 rintro e w2 ⟨rfl, hu2⟩
 have hu : Upd [] w w2 := (HU.out.trans hu1).trans hu2
 have hb : w2.heap[w.heap.size]? = some (.cells #[.int .i64 0, .slice none 0 0] 31) := by
  have h0 := heap_alloc_new w (.cells #[.int .i64 0, .slice none 0 0] 31)
  exact (hu1.trans hu2).heap h0 (by simp)
 clear hu1 hu2
 have c0 : w2.cell? ⟨w.heap.size, 0, none⟩ = some (.int .i64 0) := by rw [cell_of hb]; rfl
 have c1 : w2.cell? ⟨w.heap.size, 1, none⟩ = some (.slice none 0 0) := by rw [cell_of hb]; rfl
 have f0 := froz_of hb 0
 have f1 := froz_of hb 1
 have HBB := Lib.hid hb
 clear hb
 go_wp2_with fail
 have k1 := heap_setCell HBB.out 0 (.int .i64 (101 + (k : Int)))
 have k2 := heap_setCell k1 1 (.slice none 0 0)
 refine bodyPost_ret (v := .agg #[.int .i64 (101 + (k : Int)), .slice none 0 0]) ?_ rfl ⟨rfl, (hu.setCell (Or.inr (Nat.le_refl _)) _).setCell (Or.inr (Nat.le_refl _)) _⟩
 have d0 := cell_of k2 0
 have d1 := cell_of k2 1
 simp at d0 d1
 simp [results, Tryd.results58, go_sem, d0, d1]

set_option maxRecDepth 100000 in
set_option maxHeartbeats 400000 in
theorem Fault_at (E : Nat → Addr) (k : Nat) (hk : k < 14) (w : World) (h : SentAll w E) :
  Calls Tryd.prog 48 #[sErr E k] w fun e w' => e = .returned (.agg #[.int .i64 (101 + k), .slice none 0 0]) ∧ Upd [] w w' := by
 have H := Lib.hid (h.upd ((Upd.refl [] w).alloc (.cells #[.int .i64 0, .slice none 0 0] 31)))
 have HU := Lib.hid ((Upd.refl [] w).alloc (.cells #[.int .i64 0, .slice none 0 0] 31))
 clear h
 unfold sErr
 go_enter Tryd.func48, Tryd.ntmps48
 go_wp2_with fail
 have h2 := fault_at E k hk 9 (by omega) _ H.out
 unfold sErr at h2
 refine h2.mono ?_
 clear h2
 rintro e w2 ⟨rfl, hu1⟩
 have hu : Upd [] w w2 := HU.out.trans hu1
 have hb : w2.heap[w.heap.size]? = some (.cells #[.int .i64 0, .slice none 0 0] 31) := hu1.heap (heap_alloc_new w (.cells #[.int .i64 0, .slice none 0 0] 31)) (by simp)
 clear hu1
 have c0 : w2.cell? ⟨w.heap.size, 0, none⟩ = some (.int .i64 0) := by rw [cell_of hb]; rfl
 have c1 : w2.cell? ⟨w.heap.size, 1, none⟩ = some (.slice none 0 0) := by rw [cell_of hb]; rfl
 have f0 := froz_of hb 0
 have f1 := froz_of hb 1
 have HBB := Lib.hid hb
 clear hb
 go_wp2_with fail
 have k1 := heap_setCell HBB.out 0 (.int .i64 (101 + (k : Int)))
 have k2 := heap_setCell k1 1 (.slice none 0 0)
 refine bodyPost_ret (v := .agg #[.int .i64 (101 + (k : Int)), .slice none 0 0]) ?_ rfl ⟨rfl, (hu.setCell (Or.inr (Nat.le_refl _)) _).setCell (Or.inr (Nat.le_refl _)) _⟩
 have d0 := cell_of k2 0
 have d1 := cell_of k2 1
 simp at d0 d1
 simp [results, Tryd.results48, go_sem, d0, d1]

set_option maxHeartbeats 400000 in
theorem sameInts_nil (w : World) :
  Calls Tryd.prog 24 #[.slice none 0 0, .slice none 0 0] w fun e w' => e = .returned (.bool true) ∧ w = w' := by
 go_enter Tryd.func24, Tryd.ntmps24
 go_wp2_with fail
 refine wp_loop_rounds 1 ?_
 rw [rounds_succ]
 go_wp2_with fail
 go_ret
 exact ⟨rfl, rfl⟩

set_option maxHeartbeats 400000 in
theorem sameFault_nil (a b : Int) (w : World) :
  Calls Tryd.prog 49 #[.agg #[.int .i64 a, .slice none 0 0], .agg #[.int .i64 b, .slice none 0 0]] w fun e w' => e = .returned (.bool (a == b)) ∧ Upd [] w w' := by
 go_enter Tryd.func49, Tryd.ntmps49
 go_wp2_with fail
 refine (sameInts_nil _).mono ?_
 rintro e w' ⟨rfl, rfl⟩
 go_wp2_with fail
 all_goals
  go_ret
  refine ⟨?_, ((Upd.refl _ _).alloc _).alloc _⟩
  simp [*]

set_option maxRecDepth 100000 in
set_option maxHeartbeats 400000 in
theorem same_at (E : Nat → Addr) (k : Nat) (hk : k < 14) (c : Int) (w : World) (h : SentAll w E) :
  Calls Tryd.prog 33 #[sErr E k, .agg #[.int .i64 c, .slice none 0 0]] w fun e w' => e = .returned (.bool ((101 + (k : Int)) == c)) ∧ Upd [] w w' := by
 have HU := Lib.hid ((Upd.refl [] w).alloc (.cells #[.int .i64 c, .slice none 0 0] 31))
 have H := Lib.hid (h.upd HU.out)
 clear h
 unfold sErr
 go_enter Tryd.func33, Tryd.ntmps33
 go_wp2_with fail
 have h2 := Fault_at E k hk _ H.out
 unfold sErr at h2
 refine h2.mono ?_
 clear h2
 rintro e w2 ⟨rfl, hu1⟩
 have hu : Upd [] w w2 := HU.out.trans hu1
 have hb : w2.heap[w.heap.size]? = some (.cells #[.int .i64 c, .slice none 0 0] 31) := hu1.heap (heap_alloc_new w (.cells #[.int .i64 c, .slice none 0 0] 31)) (by simp)
 have hlt : w.heap.size < w2.heap.size := by have := hu1.size; simp at this; omega
 clear hu1
 have c0 : (w2.alloc (.cells #[.int .i64 (101 + (k : Int)), .slice none 0 0] 31)).cell? ⟨w.heap.size, 0, none⟩ = some (.int .i64 c) := by rw [World.cell?_alloc_lt _ _ _ hlt, cell_of hb]; rfl
 have c1 : (w2.alloc (.cells #[.int .i64 (101 + (k : Int)), .slice none 0 0] 31)).cell? ⟨w.heap.size, 1, none⟩ = some (.slice none 0 0) := by rw [World.cell?_alloc_lt _ _ _ hlt, cell_of hb]; rfl
 clear hb
 go_wp2_with fail
 refine (sameFault_nil _ _ _).mono ?_
 rintro e w3 ⟨rfl, hu3⟩
 go_wp2_with fail
 go_ret
 exact ⟨rfl, (hu.alloc _).trans hu3⟩

end Go.Proofs.YtbcoejmiihgfoaaDoor
