/- Contracts of package overdrivesee: an error that is one of api's, or none. -/
import Derived.Test.YtlddnpcpioligaaDoorRows
import Derived.Test.YtlddnpcpioligaaDoorLib
import Derived.LaidEql
import Derived.LaidLaws
import Derived.Stop.LaidErr
import Derived.Deep.QuietTactic
import Derived.BigQuiet
namespace Go.Proofs.YtlddnpcpioligaaDoor
open Go.RowKit Go.ChangeShapes

/-- api's errors, in the order of their numbers: the variables' numbers, their texts. -/
def sGlob : List Nat := [1, 2, 3, 4, 5, 6, 7, 8, 9, 10, 0, 11, 12, 13]
def sText : List (List UInt8) := [[116, 111, 111, 32, 109, 97, 110, 121], [110, 111, 32, 115, 117, 99, 104, 32, 107, 105, 110, 100], [110, 111, 32, 115, 117, 99, 104, 32, 116, 104, 105, 110, 103], [110, 111, 32, 112, 108, 97, 99, 101, 32, 116, 111, 32, 106, 117, 109, 112, 32, 116, 111], [110, 111, 116, 32, 116, 104, 101, 32, 115, 104, 97, 112, 101, 32, 116, 104, 97, 116, 32, 105, 116, 32, 104, 97, 115, 32, 116, 111, 32, 104, 97, 118, 101], [105, 116, 32, 101, 110, 100, 115, 32, 116, 111, 111, 32, 101, 97, 114, 108, 121], [97, 32, 98, 121, 116, 101, 32, 116, 104, 97, 116, 32, 100, 111, 101, 115, 32, 110, 111, 116, 32, 102, 105, 116], [116, 111, 111, 32, 108, 105, 116, 116, 108, 101, 32, 111, 114, 32, 116, 111, 111, 32, 109, 117, 99, 104, 32, 111, 110, 32, 116, 104, 101, 32, 115, 116, 97, 99, 107], [116, 119, 111, 32, 119, 97, 121, 115, 32, 116, 104, 97, 116, 32, 100, 111, 32, 110, 111, 116, 32, 97, 103, 114, 101, 101], [105, 116, 32, 102, 97, 108, 108, 115, 32, 111, 102, 102, 32, 116, 104, 101, 32, 101, 110, 100], [110, 111, 32, 115, 117, 99, 104, 32, 108, 105, 109, 105, 116], [97, 32, 110, 111, 100, 101, 32, 116, 104, 97, 116, 32, 109, 97, 121, 32, 110, 111, 116, 32, 98, 101], [97, 32, 115, 116, 97, 116, 101, 32, 116, 104, 97, 116, 32, 109, 97, 121, 32, 110, 111, 116, 32, 98, 101], [110, 111, 32, 114, 111, 111, 109]]

/-- One of api's errors lies at that address. -/
def SentOne (w : World) (g : Nat) (text : List UInt8) (a : Addr) : Prop :=
  w.cell? ⟨g, 0, none⟩ = some (.iface 77 (.pointer (some a))) ∧ (∃ c t, w.heap[a.block]? = some (.cells c t (0, 0))) ∧ ∃ s, w.cell? a = some (.string s) ∧ s.data.toList = text

theorem SentOne.upd {w w' : World} {g : Nat} {text : List UInt8} {a : Addr} (h : SentOne w g text a) (hu : Upd [] w w') : SentOne w' g text a := by
  obtain ⟨h1, ⟨c, t, h2⟩, s, h3, h4⟩ := h
  exact ⟨hu.cell h1 (by simp), ⟨c, t, hu.heap h2 (by simp)⟩, s, hu.cell h3 (by simp), h4⟩

/-- api's errors lie where E says. -/
def SentAt (w : World) (E : Nat → Addr) : Prop := ∀ i, i < 14 → SentOne w (sGlob.getD i 0) (sText.getD i []) (E i)

theorem SentAt.upd {w w' : World} {E : Nat → Addr} (h : SentAt w E) (hu : Upd [] w w') : SentAt w' E := fun i hi => (h i hi).upd hu

theorem sText_inj : ∀ i, i < 14 → ∀ j, j < 14 → sText.getD i [] = sText.getD j [] → i = j := by decide

theorem SentAt.inj {w : World} {E : Nat → Addr} (h : SentAt w E) {i j : Nat} (hi : i < 14) (hj : j < 14) (he : E i = E j) : i = j := by
  obtain ⟨_, _, s, h1, h2⟩ := h i hi
  obtain ⟨_, _, s', h3, h4⟩ := h j hj
  rw [he, h3] at h1
  have hs : s' = s := by simpa using h1
  subst hs
  exact sText_inj i hi j hj (h2.symm.trans h4)

/-- The error of that number. -/
def sErr (E : Nat → Addr) (i : Nat) : Value := .iface 77 (.pointer (some (E i)))

theorem laid_one {n nm : String} {text : List UInt8} {r : List (String × DataW Unit)} {P : Program} {W : World} {g : Nat} {ti tp te ts : TypeId} {ms : Array (String × TypeId)} {f : Field}
    (h : laidMet P ((n, .iface nm (.ptr (.agg [.lit (.string text)]))) :: r) W)
    (hg : P.globalNamed n = some g) (ht : (P.globals[g]?).map (·.type) = some ti) (hi : P.underlying ti = some (.interface ms)) (hrow : ∀ u, P.typeName? 3 u = some nm → u = tp)
    (hp : P.underlying tp = some (.pointer te)) (he : P.underlying te = some (.struct #[f])) (hft : f.type = ts) (hfo : f.offset = 0) (hs : P.underlying ts = some .string) (hc : P.cellsOf te = 1) (hcs : P.cellsOf ts = 1) :
    ∃ a : Addr, W.cell? ⟨g, 0, none⟩ = some (.iface tp (.pointer (some a))) ∧ (∃ c t, W.heap[a.block]? = some (.cells c t (0, 0))) ∧ ∃ s : ByteArray, W.cell? a = some (.string s) ∧ s.data.toList = text := by
  obtain ⟨ps, ⟨g0, t0, cs0, f0, p0, q0, hg0, ht0, hv0, hd0, hq0, e0⟩, _, hrows⟩ := h
  obtain rfl := Option.some.inj (hg.symm.trans hg0)
  obtain rfl := Option.some.inj (ht.symm.trans ht0)
  subst e0
  obtain ⟨l0⟩ := cs0
  have ok0 : ∀ u v, l0 = [.iface u v] → Value.okWide P W .any 0 u v := fun u v e => by
    subst e
    exact (hrows g 0 (by simp [MemPlace.row])).2 u v (by simpa using World.var?_cell hg0 hv0 0)
  obtain ⟨a0, s0, rfl, hc0, hs0, hz0, rfl⟩ := errorString_of_trod hi hrow hp he hft hfo hs hc hcs hd0 ok0
  obtain ⟨c0, t0, hb0⟩ := (hrows a0.block a0.off (by simp [MemPlace.row])).1
  exact ⟨a0, by simpa using World.var?_cell hg0 hv0 0, ⟨c0, t0, hb0⟩, s0, hc0, hs0⟩

theorem Tryd.starE : "*" ++ "errors.errorString" = "*errors.errorString" := by decide
theorem Tryd.rowE (u : TypeId) (h : Tryd.prog.typeName? 3 u = some "*errors.errorString") : u = 77 :=
  typeName_ptr_named (nm := "errors.errorString") (by rw [Tryd.starE]; kernel_rfl) (by kernel_rfl) (by decide) u (by rw [Tryd.starE]; exact h)
theorem Tryd.cellsE1 : Tryd.prog.cellsOf 94 = 1 := by kernel_rfl
theorem Tryd.cellsS1 : Tryd.prog.cellsOf 9 = 1 := by kernel_rfl

theorem Tryd.compE : (Tryd.prog.info? 77).map (·.comparable) = some true := by kernel_rfl
theorem Tryd.sizeE : (Tryd.prog.info? 94).map (·.size) = some 1 := by kernel_rfl

set_option maxHeartbeats 400000 in
theorem alike_same (a : Addr) (w : World) :
    Calls Tryd.prog 32 #[.iface 77 (.pointer (some a)), .iface 77 (.pointer (some a))] w fun e w' => e = .returned (.bool true) ∧ w = w' := by
  obtain ⟨i, hi, hc⟩ := Option.map_eq_some_iff.1 Tryd.compE
  obtain ⟨j, hj, _⟩ := Option.map_eq_some_iff.1 Tryd.sizeE
  have heq := run_eql_iface_ptr_same (P := Tryd.prog) w a Tryd.underlying34 Tryd.underlying77 hi hc hj
  clear hi hc hj
  go_enter Tryd.func32, Tryd.ntmps32
  go_wp2_with fail
  go_ret
  exact ⟨rfl, rfl⟩

set_option maxHeartbeats 400000 in
theorem alike_other (a b : Addr) (w : World) (hne : a ≠ b) (ha : ∃ c t, w.heap[a.block]? = some (.cells c t (0, 0))) (hb : ∃ c t, w.heap[b.block]? = some (.cells c t (0, 0))) :
    Calls Tryd.prog 32 #[.iface 77 (.pointer (some a)), .iface 77 (.pointer (some b))] w fun e w' => e = .returned (.bool false) ∧ w = w' := by
  obtain ⟨i, hi, hc⟩ := Option.map_eq_some_iff.1 Tryd.compE
  obtain ⟨j, hj, hsz⟩ := Option.map_eq_some_iff.1 Tryd.sizeE
  obtain ⟨c1, t1, h1⟩ := ha
  obtain ⟨c2, t2, h2⟩ := hb
  have heq := run_eql_iface_ptr_other (P := Tryd.prog) w Tryd.underlying34 Tryd.underlying77 hi hc hj (by omega) hne h1 h2
  clear hi hc hj hsz h1 h2 hne
  go_enter Tryd.func32, Tryd.ntmps32
  go_wp2_with fail
  go_ret
  exact ⟨rfl, rfl⟩

theorem SentAt.g {w : World} {E : Nat → Addr} (h : SentAt w E) (i : Nat) (hi : i < 14) : w.cell? ⟨sGlob.getD i 0, 0, none⟩ = some (sErr E i) := (h i hi).1

/-- The block that 'sentinels' makes. -/
def sCells (E : Nat → Addr) : Array Value := ((List.range 14).map (sErr E)).toArray

set_option maxRecDepth 100000 in
set_option maxHeartbeats 400000 in
theorem sentinels_any (E : Nat → Addr) (w : World) (h : SentAt w E) :
    Calls Tryd.prog 31 #[] w fun e w' => e = .returned (.slice (some ⟨w.heap.size, 0, none⟩) 14 14) ∧ w' = w.alloc (.cells (sCells E) 34) := by
  have g0 := h.g 0 (by omega)
  have g1 := h.g 1 (by omega)
  have g2 := h.g 2 (by omega)
  have g3 := h.g 3 (by omega)
  have g4 := h.g 4 (by omega)
  have g5 := h.g 5 (by omega)
  have g6 := h.g 6 (by omega)
  have g7 := h.g 7 (by omega)
  have g8 := h.g 8 (by omega)
  have g9 := h.g 9 (by omega)
  have g10 := h.g 10 (by omega)
  have g11 := h.g 11 (by omega)
  have g12 := h.g 12 (by omega)
  have g13 := h.g 13 (by omega)
  simp only [sGlob, List.getD_cons_zero, List.getD_cons_succ, sErr] at g0 g1 g2 g3 g4 g5 g6 g7 g8 g9 g10 g11 g12 g13
  go_enter Tryd.func31, Tryd.ntmps31
  go_wp2_with fail
  go_ret
  exact ⟨rfl, rfl⟩

set_option maxRecDepth 100000 in
set_option maxHeartbeats 800000 in
theorem sentinel_at (E : Nat → Addr) (k : Nat) (hk : k < 14) (w : World) (h : SentAt w E) :
    Calls Tryd.prog 30 #[sErr E k] w fun e w' => e = .returned (.int .i64 (101 + k)) ∧ Upd [] w w' := by
  have hU0 : Upd [] w (w.alloc (.cells (sCells E) 34)) := (Upd.refl _ _).alloc _
  have hc : Hid (∀ i, i < 14 → (w.alloc (.cells (sCells E) 34)).cell? ⟨w.heap.size, i, none⟩ = some (.iface 77 (.pointer (some (E i))))) := by
    intro i hi
    simp [sCells, sErr, hi]
  unfold sErr
  go_enter Tryd.func30, Tryd.ntmps30
  go_wp2_with fail
  refine (sentinels_any E _ h).mono ?_
  rintro e w1 ⟨rfl, rfl⟩
  generalize w.alloc (.cells (sCells E) 34) = w1 at *
  go_wp2_with fail
  go_loop [4] (fun i => ∃ j : Nat, j ≤ k ∧ i = .int .i64 j) (fun i => 14 - (intOf i).toNat)
  case atStart => exact ⟨0, by omega, rfl⟩
  case round =>
    obtain ⟨j, hj, rfl⟩ := hrel
    have hcj := hc.out j (by omega)
    by_cases hjk : j = k
    · subst hjk
      go_wp2_with fail
      refine (alike_same _ _).mono ?_
      rintro e w' ⟨rfl, rfl⟩
      go_wp2_with fail
      go_ret
      exact ⟨rfl, hU0⟩
    · have hs := h.upd hU0
      have hne : E k ≠ E j := fun e => hjk (hs.inj hk (by omega) e).symm
      have H1 := Lib.hid (alike_other (E k) (E j) w1 hne (hs k hk).2.1 (hs j (by omega)).2.1)
      clear hs hne
      go_wp2_with fail
      refine H1.out.mono ?_
      rintro e w' ⟨rfl, rfl⟩
      go_wp2_with fail
      go_round
      case rel => exact ⟨j + 1, by omega, by go_num⟩
      case measure => simp [intOf]; omega

set_option maxHeartbeats 400000 in
theorem bare_any (c : Int) (w : World) :
    Calls Tryd.prog 24 #[.int .i64 c] w fun e w' => e = .returned (.agg #[.int .i64 c, .slice none 0 0]) ∧ Upd [] w w' := by
  go_enter Tryd.func24, Tryd.ntmps24
  go_wp2_with fail
  exact bodyPost_ret (v := .agg #[.int .i64 c, .slice none 0 0]) (by simp [results, Tryd.results24, go_sem]) rfl ⟨rfl, (Upd.refl _ _).alloc _⟩

set_option maxHeartbeats 400000 in
theorem none_any (w : World) :
    Calls Tryd.prog 27 #[] w fun e w' => e = .returned (.agg #[.int .i64 0, .slice none 0 0]) ∧ Upd [] w w' := by
  go_enter Tryd.func27, Tryd.ntmps27
  go_wp2_with fail
  exact bodyPost_ret (v := .agg #[.int .i64 0, .slice none 0 0]) (by simp [results, Tryd.results27, go_sem]) rfl ⟨rfl, (Upd.refl _ _).alloc _⟩

theorem assertAt_no (v : Value) (w : World) : (Instr.typeAssert (.iface 77 v) 34 67 true).run Tryd.prog w = .ok (.tuple #[.pointer none, .bool false]) w := by kernel_rfl
theorem assertWhere_no (v : Value) (w : World) : (Instr.typeAssert (.iface 77 v) 34 70 true).run Tryd.prog w = .ok (.tuple #[.pointer none, .bool false]) w := by kernel_rfl

set_option maxRecDepth 100000 in
set_option maxHeartbeats 400000 in
theorem fault_at (E : Nat → Addr) (k : Nat) (hk : k < 14) (left : Int) (hl : 0 < left) (w : World) (h : SentAt w E) :
    Calls Tryd.prog 28 #[sErr E k, .int .i64 left] w fun e w' => e = .returned (.agg #[.int .i64 (101 + k), .slice none 0 0]) ∧ Upd [] w w' := by
  have hl0 : (left == 0) = false := by rw [beq_eq_false_iff_ne]; omega
  have ha1 := assertAt_no
  have ha2 := assertWhere_no
  have H := Lib.hid (h.upd ((Upd.refl [] w).alloc (.cells #[.int .i64 0, .slice none 0 0] 59)))
  have HU := Lib.hid ((Upd.refl [] w).alloc (.cells #[.int .i64 0, .slice none 0 0] 59))
  clear h
  unfold sErr
  go_enter Tryd.func28, Tryd.ntmps28
  go_wp2_with fail
  have h2 := sentinel_at E k hk _ H.out
  unfold sErr at h2
  refine h2.mono ?_
  clear h2
  rintro e w1 ⟨rfl, hu1⟩
  go_wp2_with fail
  refine (bare_any _ _).mono ?_
  rintro e w2 ⟨rfl, hu2⟩
  have hu : Upd [] w w2 := (HU.out.trans hu1).trans hu2
  have hb : w2.heap[w.heap.size]? = some (.cells #[.int .i64 0, .slice none 0 0] 59) := by
    have h0 := heap_alloc_new w (.cells #[.int .i64 0, .slice none 0 0] 59)
    exact (hu1.trans hu2).heap h0 (by simp)
  clear hu1 hu2
  have c0 : w2.cell? ⟨w.heap.size, 0, none⟩ = some (.int .i64 0) := by rw [cell_of hb]; rfl
  have c1 : w2.cell? ⟨w.heap.size, 1, none⟩ = some (.slice none 0 0) := by rw [cell_of hb]; rfl
  have f0 := froz_of hb 0
  have f1 := froz_of hb 1
  have HBB := Lib.hid hb
  clear hb
  go_wp2_with fail
  have k1 := heap_setCell HBB.out 0 (.int .i64 (101 + (k : Int)))
  have k2 := heap_setCell k1 1 (.slice none 0 0)
  refine bodyPost_ret (v := .agg #[.int .i64 (101 + (k : Int)), .slice none 0 0]) ?_ rfl ⟨rfl, (hu.setCell (Or.inr (Nat.le_refl _)) _).setCell (Or.inr (Nat.le_refl _)) _⟩
  have d0 := cell_of k2 0
  have d1 := cell_of k2 1
  simp at d0 d1
  simp [results, Tryd.results28, go_sem, d0, d1]

set_option maxRecDepth 100000 in
set_option maxHeartbeats 400000 in
theorem Fault_at (E : Nat → Addr) (k : Nat) (hk : k < 14) (w : World) (h : SentAt w E) :
    Calls Tryd.prog 25 #[sErr E k] w fun e w' => e = .returned (.agg #[.int .i64 (101 + k), .slice none 0 0]) ∧ Upd [] w w' := by
  have H := Lib.hid (h.upd ((Upd.refl [] w).alloc (.cells #[.int .i64 0, .slice none 0 0] 59)))
  have HU := Lib.hid ((Upd.refl [] w).alloc (.cells #[.int .i64 0, .slice none 0 0] 59))
  clear h
  unfold sErr
  go_enter Tryd.func25, Tryd.ntmps25
  go_wp2_with fail
  have h2 := fault_at E k hk 9 (by omega) _ H.out
  unfold sErr at h2
  refine h2.mono ?_
  clear h2
  rintro e w2 ⟨rfl, hu1⟩
  have hu : Upd [] w w2 := HU.out.trans hu1
  have hb : w2.heap[w.heap.size]? = some (.cells #[.int .i64 0, .slice none 0 0] 59) := hu1.heap (heap_alloc_new w (.cells #[.int .i64 0, .slice none 0 0] 59)) (by simp)
  clear hu1
  have c0 : w2.cell? ⟨w.heap.size, 0, none⟩ = some (.int .i64 0) := by rw [cell_of hb]; rfl
  have c1 : w2.cell? ⟨w.heap.size, 1, none⟩ = some (.slice none 0 0) := by rw [cell_of hb]; rfl
  have f0 := froz_of hb 0
  have f1 := froz_of hb 1
  have HBB := Lib.hid hb
  clear hb
  go_wp2_with fail
  have k1 := heap_setCell HBB.out 0 (.int .i64 (101 + (k : Int)))
  have k2 := heap_setCell k1 1 (.slice none 0 0)
  refine bodyPost_ret (v := .agg #[.int .i64 (101 + (k : Int)), .slice none 0 0]) ?_ rfl ⟨rfl, (hu.setCell (Or.inr (Nat.le_refl _)) _).setCell (Or.inr (Nat.le_refl _)) _⟩
  have d0 := cell_of k2 0
  have d1 := cell_of k2 1
  simp at d0 d1
  simp [results, Tryd.results25, go_sem, d0, d1]

set_option maxHeartbeats 400000 in
theorem sameInts_nil (w : World) :
    Calls Tryd.prog 29 #[.slice none 0 0, .slice none 0 0] w fun e w' => e = .returned (.bool true) ∧ w = w' := by
  go_enter Tryd.func29, Tryd.ntmps29
  go_wp2_with fail
  refine wp_loop_rounds 1 ?_
  rw [rounds_succ]
  go_wp2_with fail
  go_ret
  exact ⟨rfl, rfl⟩

set_option maxHeartbeats 400000 in
theorem sameFault_nil (a b : Int) (w : World) :
    Calls Tryd.prog 26 #[.agg #[.int .i64 a, .slice none 0 0], .agg #[.int .i64 b, .slice none 0 0]] w fun e w' => e = .returned (.bool (a == b)) ∧ Upd [] w w' := by
  go_enter Tryd.func26, Tryd.ntmps26
  go_wp2_with fail
  refine (sameInts_nil _).mono ?_
  rintro e w' ⟨rfl, rfl⟩
  go_wp2_with fail
  all_goals
    go_ret
    refine ⟨?_, ((Upd.refl _ _).alloc _).alloc _⟩
    simp [*]

set_option maxRecDepth 100000 in
set_option maxHeartbeats 400000 in
theorem same_at (E : Nat → Addr) (k : Nat) (hk : k < 14) (c : Int) (w : World) (h : SentAt w E) :
    Calls Tryd.prog 23 #[sErr E k, .agg #[.int .i64 c, .slice none 0 0]] w fun e w' => e = .returned (.bool ((101 + (k : Int)) == c)) ∧ Upd [] w w' := by
  have HU := Lib.hid ((Upd.refl [] w).alloc (.cells #[.int .i64 c, .slice none 0 0] 59))
  have H := Lib.hid (h.upd HU.out)
  clear h
  unfold sErr
  go_enter Tryd.func23, Tryd.ntmps23
  go_wp2_with fail
  have h2 := Fault_at E k hk _ H.out
  unfold sErr at h2
  refine h2.mono ?_
  clear h2
  rintro e w2 ⟨rfl, hu1⟩
  have hu : Upd [] w w2 := HU.out.trans hu1
  have hb : w2.heap[w.heap.size]? = some (.cells #[.int .i64 c, .slice none 0 0] 59) := hu1.heap (heap_alloc_new w (.cells #[.int .i64 c, .slice none 0 0] 59)) (by simp)
  have hlt : w.heap.size < w2.heap.size := by have := hu1.size; simp at this; omega
  clear hu1
  have c0 : (w2.alloc (.cells #[.int .i64 (101 + (k : Int)), .slice none 0 0] 59)).cell? ⟨w.heap.size, 0, none⟩ = some (.int .i64 c) := by rw [World.cell?_alloc_lt _ _ _ hlt, cell_of hb]; rfl
  have c1 : (w2.alloc (.cells #[.int .i64 (101 + (k : Int)), .slice none 0 0] 59)).cell? ⟨w.heap.size, 1, none⟩ = some (.slice none 0 0) := by rw [World.cell?_alloc_lt _ _ _ hlt, cell_of hb]; rfl
  clear hb
  go_wp2_with fail
  refine (sameFault_nil _ _ _).mono ?_
  rintro e w3 ⟨rfl, hu3⟩
  go_wp2_with fail
  go_ret
  exact ⟨rfl, (hu.alloc _).trans hu3⟩

set_option maxRecDepth 100000 in
set_option maxHeartbeats 400000 in
theorem is_at (E : Nat → Addr) (k : Nat) (hk : k < 14) (c : Int) (w : World) (h : SentAt w E) :
    Calls Tryd.prog 17 #[sErr E k, .int .i64 c] w fun e w' => e = .returned (.bool ((101 + (k : Int)) == c)) ∧ Upd [] w w' := by
  have H := Lib.hid h
  clear h
  unfold sErr
  go_enter Tryd.func17, Tryd.ntmps17
  go_wp2_with fail
  refine (bare_any _ _).mono ?_
  rintro e w1 ⟨rfl, hu1⟩
  have H1 := Lib.hid (H.out.upd hu1)
  go_wp2_with fail
  have h2 := same_at E k hk c _ H1.out
  unfold sErr at h2
  refine h2.mono ?_
  clear h2
  rintro e w2 ⟨rfl, hu2⟩
  go_wp2_with fail
  go_ret
  exact ⟨rfl, hu1.trans hu2⟩

theorem Tryd.gErrMany : Tryd.prog.globalNamed "overdrive/api.ErrMany" = some 1 := by kernel_rfl
theorem Tryd.tErrMany : (Tryd.prog.globals[1]?).map (·.type) = some 34 := by kernel_rfl
theorem Tryd.gErrKind : Tryd.prog.globalNamed "overdrive/api.ErrKind" = some 2 := by kernel_rfl
theorem Tryd.tErrKind : (Tryd.prog.globals[2]?).map (·.type) = some 34 := by kernel_rfl
theorem Tryd.gErrIndex : Tryd.prog.globalNamed "overdrive/api.ErrIndex" = some 3 := by kernel_rfl
theorem Tryd.tErrIndex : (Tryd.prog.globals[3]?).map (·.type) = some 34 := by kernel_rfl
theorem Tryd.gErrTarget : Tryd.prog.globalNamed "overdrive/api.ErrTarget" = some 4 := by kernel_rfl
theorem Tryd.tErrTarget : (Tryd.prog.globals[4]?).map (·.type) = some 34 := by kernel_rfl
theorem Tryd.gErrShape : Tryd.prog.globalNamed "overdrive/api.ErrShape" = some 5 := by kernel_rfl
theorem Tryd.tErrShape : (Tryd.prog.globals[5]?).map (·.type) = some 34 := by kernel_rfl
theorem Tryd.gErrEnd : Tryd.prog.globalNamed "overdrive/api.ErrEnd" = some 6 := by kernel_rfl
theorem Tryd.tErrEnd : (Tryd.prog.globals[6]?).map (·.type) = some 34 := by kernel_rfl
theorem Tryd.gErrByte : Tryd.prog.globalNamed "overdrive/api.ErrByte" = some 7 := by kernel_rfl
theorem Tryd.tErrByte : (Tryd.prog.globals[7]?).map (·.type) = some 34 := by kernel_rfl
theorem Tryd.gErrStack : Tryd.prog.globalNamed "overdrive/api.ErrStack" = some 8 := by kernel_rfl
theorem Tryd.tErrStack : (Tryd.prog.globals[8]?).map (·.type) = some 34 := by kernel_rfl
theorem Tryd.gErrMerge : Tryd.prog.globalNamed "overdrive/api.ErrMerge" = some 9 := by kernel_rfl
theorem Tryd.tErrMerge : (Tryd.prog.globals[9]?).map (·.type) = some 34 := by kernel_rfl
theorem Tryd.gErrFall : Tryd.prog.globalNamed "overdrive/api.ErrFall" = some 10 := by kernel_rfl
theorem Tryd.tErrFall : (Tryd.prog.globals[10]?).map (·.type) = some 34 := by kernel_rfl
theorem Tryd.gErrLimit : Tryd.prog.globalNamed "overdrive/api.ErrLimit" = some 0 := by kernel_rfl
theorem Tryd.tErrLimit : (Tryd.prog.globals[0]?).map (·.type) = some 34 := by kernel_rfl
theorem Tryd.gErrNode : Tryd.prog.globalNamed "overdrive/api.ErrNode" = some 11 := by kernel_rfl
theorem Tryd.tErrNode : (Tryd.prog.globals[11]?).map (·.type) = some 34 := by kernel_rfl
theorem Tryd.gErrState : Tryd.prog.globalNamed "overdrive/api.ErrState" = some 12 := by kernel_rfl
theorem Tryd.tErrState : (Tryd.prog.globals[12]?).map (·.type) = some 34 := by kernel_rfl
theorem Tryd.gErrRoom : Tryd.prog.globalNamed "overdrive/api.ErrRoom" = some 13 := by kernel_rfl
theorem Tryd.tErrRoom : (Tryd.prog.globals[13]?).map (·.type) = some 34 := by kernel_rfl

/-- What a row's list gives: api's errors lie somewhere. -/
theorem sentAt_of_laid {W : World} {r : List (String × DataW Unit)} (h0 : laidMet Tryd.prog ([("overdrive/api.ErrMany", Rows.laid_overdrive_api_ErrMany), ("overdrive/api.ErrKind", Rows.laid_overdrive_api_ErrKind), ("overdrive/api.ErrIndex", Rows.laid_overdrive_api_ErrIndex), ("overdrive/api.ErrTarget", Rows.laid_overdrive_api_ErrTarget), ("overdrive/api.ErrShape", Rows.laid_overdrive_api_ErrShape), ("overdrive/api.ErrEnd", Rows.laid_overdrive_api_ErrEnd), ("overdrive/api.ErrByte", Rows.laid_overdrive_api_ErrByte), ("overdrive/api.ErrStack", Rows.laid_overdrive_api_ErrStack), ("overdrive/api.ErrMerge", Rows.laid_overdrive_api_ErrMerge), ("overdrive/api.ErrFall", Rows.laid_overdrive_api_ErrFall), ("overdrive/api.ErrLimit", Rows.laid_overdrive_api_ErrLimit), ("overdrive/api.ErrNode", Rows.laid_overdrive_api_ErrNode), ("overdrive/api.ErrState", Rows.laid_overdrive_api_ErrState), ("overdrive/api.ErrRoom", Rows.laid_overdrive_api_ErrRoom)] ++ r) W) : ∃ E, SentAt W E := by
  obtain ⟨a0, x0⟩ := laid_one h0 Tryd.gErrMany Tryd.tErrMany Tryd.underlying34 Tryd.rowE Tryd.underlying77 Tryd.underlying94 rfl rfl Tryd.underlying9 Tryd.cellsE1 Tryd.cellsS1
  have h1 := h0.tail
  obtain ⟨a1, x1⟩ := laid_one h1 Tryd.gErrKind Tryd.tErrKind Tryd.underlying34 Tryd.rowE Tryd.underlying77 Tryd.underlying94 rfl rfl Tryd.underlying9 Tryd.cellsE1 Tryd.cellsS1
  have h2 := h1.tail
  obtain ⟨a2, x2⟩ := laid_one h2 Tryd.gErrIndex Tryd.tErrIndex Tryd.underlying34 Tryd.rowE Tryd.underlying77 Tryd.underlying94 rfl rfl Tryd.underlying9 Tryd.cellsE1 Tryd.cellsS1
  have h3 := h2.tail
  obtain ⟨a3, x3⟩ := laid_one h3 Tryd.gErrTarget Tryd.tErrTarget Tryd.underlying34 Tryd.rowE Tryd.underlying77 Tryd.underlying94 rfl rfl Tryd.underlying9 Tryd.cellsE1 Tryd.cellsS1
  have h4 := h3.tail
  obtain ⟨a4, x4⟩ := laid_one h4 Tryd.gErrShape Tryd.tErrShape Tryd.underlying34 Tryd.rowE Tryd.underlying77 Tryd.underlying94 rfl rfl Tryd.underlying9 Tryd.cellsE1 Tryd.cellsS1
  have h5 := h4.tail
  obtain ⟨a5, x5⟩ := laid_one h5 Tryd.gErrEnd Tryd.tErrEnd Tryd.underlying34 Tryd.rowE Tryd.underlying77 Tryd.underlying94 rfl rfl Tryd.underlying9 Tryd.cellsE1 Tryd.cellsS1
  have h6 := h5.tail
  obtain ⟨a6, x6⟩ := laid_one h6 Tryd.gErrByte Tryd.tErrByte Tryd.underlying34 Tryd.rowE Tryd.underlying77 Tryd.underlying94 rfl rfl Tryd.underlying9 Tryd.cellsE1 Tryd.cellsS1
  have h7 := h6.tail
  obtain ⟨a7, x7⟩ := laid_one h7 Tryd.gErrStack Tryd.tErrStack Tryd.underlying34 Tryd.rowE Tryd.underlying77 Tryd.underlying94 rfl rfl Tryd.underlying9 Tryd.cellsE1 Tryd.cellsS1
  have h8 := h7.tail
  obtain ⟨a8, x8⟩ := laid_one h8 Tryd.gErrMerge Tryd.tErrMerge Tryd.underlying34 Tryd.rowE Tryd.underlying77 Tryd.underlying94 rfl rfl Tryd.underlying9 Tryd.cellsE1 Tryd.cellsS1
  have h9 := h8.tail
  obtain ⟨a9, x9⟩ := laid_one h9 Tryd.gErrFall Tryd.tErrFall Tryd.underlying34 Tryd.rowE Tryd.underlying77 Tryd.underlying94 rfl rfl Tryd.underlying9 Tryd.cellsE1 Tryd.cellsS1
  have h10 := h9.tail
  obtain ⟨a10, x10⟩ := laid_one h10 Tryd.gErrLimit Tryd.tErrLimit Tryd.underlying34 Tryd.rowE Tryd.underlying77 Tryd.underlying94 rfl rfl Tryd.underlying9 Tryd.cellsE1 Tryd.cellsS1
  have h11 := h10.tail
  obtain ⟨a11, x11⟩ := laid_one h11 Tryd.gErrNode Tryd.tErrNode Tryd.underlying34 Tryd.rowE Tryd.underlying77 Tryd.underlying94 rfl rfl Tryd.underlying9 Tryd.cellsE1 Tryd.cellsS1
  have h12 := h11.tail
  obtain ⟨a12, x12⟩ := laid_one h12 Tryd.gErrState Tryd.tErrState Tryd.underlying34 Tryd.rowE Tryd.underlying77 Tryd.underlying94 rfl rfl Tryd.underlying9 Tryd.cellsE1 Tryd.cellsS1
  have h13 := h12.tail
  obtain ⟨a13, x13⟩ := laid_one h13 Tryd.gErrRoom Tryd.tErrRoom Tryd.underlying34 Tryd.rowE Tryd.underlying77 Tryd.underlying94 rfl rfl Tryd.underlying9 Tryd.cellsE1 Tryd.cellsS1
  refine ⟨fun i => [a0, a1, a2, a3, a4, a5, a6, a7, a8, a9, a10, a11, a12, a13].getD i a0, fun i hi => ?_⟩
  have hi' : i = 0 ∨ i = 1 ∨ i = 2 ∨ i = 3 ∨ i = 4 ∨ i = 5 ∨ i = 6 ∨ i = 7 ∨ i = 8 ∨ i = 9 ∨ i = 10 ∨ i = 11 ∨ i = 12 ∨ i = 13 := by omega
  rcases hi' with rfl | rfl | rfl | rfl | rfl | rfl | rfl | rfl | rfl | rfl | rfl | rfl | rfl | rfl
  · exact x0
  · exact x1
  · exact x2
  · exact x3
  · exact x4
  · exact x5
  · exact x6
  · exact x7
  · exact x8
  · exact x9
  · exact x10
  · exact x11
  · exact x12
  · exact x13

end Go.Proofs.YtlddnpcpioligaaDoor
