/- Contracts of package bits: a set of numbers below a bound. -/
import Derived.Test.YtbcoejmiihgfoaaDoorRows
import Derived.Test.YtbcoejmiihgfoaaDoorLib
import Derived.Deep.QuietTactic
import Derived.BigQuiet
import Derived.StillTailTactics
namespace Go.Proofs.YtbcoejmiihgfoaaDoor
open Go.RowKit

/-- Words of 64 places as cells. -/
def ucells (ws : List Nat) : Array Value := (ws.map fun (x : Nat) => Value.int .u64 (x : Int)).toArray
theorem ucells_get (ws : List Nat) (i : Nat) (h : i < ws.length) : (ucells ws)[i]? = some (.int .u64 ((ws.getD i 0 : Nat) : Int)) := by
 simp [ucells, h]
theorem ucells_set (ws : List Nat) (i : Nat) (v : Nat) : (ucells ws).setIfInBounds i (.int .u64 (v : Int)) = ucells (ws.set i v) := by
 simp [ucells, List.map_set]

/-- Is a number among those of the words? -/
def bhas (ws : List Nat) (i : Nat) : Bool := (ws.getD (i / 64) 0).testBit (i % 64)

/-- The set at block b has bound n; its words ws lie in block g. -/
def SetAt (w : World) (b g n : Nat) (ws : List Nat) : Prop :=
 w.heap[b]? = some (.cells #[.int .i64 n, .slice (some ⟨g, 0, none⟩) ws.length ws.length] 105) ∧ w.heap[g]? = some (.cells (ucells ws) 112) ∧ n ≤ 1048576 ∧ ws.length = (n + 63) / 64 ∧
  (∀ i, i < ws.length → ws.getD i 0 < 2 ^ 64) ∧ (∀ i, bhas ws i = true → i < n)

theorem SetAt.upd {w w' : World} {b g n : Nat} {ws : List Nat} {S : List Nat} (h : SetAt w b g n ws) (hu : Upd S w w') (hb : b ∉ S) (hg : g ∉ S) : SetAt w' b g n ws :=
 ⟨hu.heap h.1 hb, hu.heap h.2.1 hg, h.2.2⟩
theorem SetAt.c0 {w : World} {b g n : Nat} {ws : List Nat} (h : SetAt w b g n ws) : w.cell? ⟨b, 0, none⟩ = some (.int .i64 n) := by rw [cell_of h.1]; rfl
theorem SetAt.c1 {w : World} {b g n : Nat} {ws : List Nat} (h : SetAt w b g n ws) : w.cell? ⟨b, 1, none⟩ = some (.slice (some ⟨g, 0, none⟩) ws.length ws.length) := by rw [cell_of h.1]; rfl
theorem SetAt.word {w : World} {b g n : Nat} {ws : List Nat} (h : SetAt w b g n ws) (i : Nat) (hi : i < ws.length) : w.cell? ⟨g, i, none⟩ = some (.int .u64 ((ws.getD i 0 : Nat) : Int)) := by rw [cell_of h.2.1]; exact ucells_get ws i hi
theorem SetAt.free {w : World} {b g n : Nat} {ws : List Nat} (h : SetAt w b g n ws) (i : Nat) : w.frozen? ⟨g, i, none⟩ = false := froz_of h.2.1 i

/-- A number put in. -/
def badd (ws : List Nat) (i : Nat) : List Nat := ws.set (i / 64) (ws.getD (i / 64) 0 ||| 2 ^ (i % 64))

theorem badd_get (ws : List Nat) (i j : Nat) (hi : i / 64 < ws.length) : bhas (badd ws i) j = (bhas ws j || decide (i = j)) := by
 unfold bhas badd
 simp only [List.getD_eq_getElem?_getD, List.getElem?_set]
 by_cases h : i / 64 = j / 64
 ·rw [if_pos h, if_pos hi, h]
  simp only [Option.getD_some, Nat.testBit_or, Nat.testBit_two_pow]
  congr 1
  rw [decide_eq_decide]
  omega
 ·rw [if_neg h]
  have : ¬ i = j := fun e => h (by rw [e])
  simp [this]

theorem SetAt.set {w : World} {b g n : Nat} {ws : List Nat} (h : SetAt w b g n ws) (i : Nat) (hi : i < n) :
  SetAt (w.setCell ⟨g, i / 64, none⟩ (.int .u64 ((ws.getD (i / 64) 0 ||| 2 ^ (i % 64) : Nat) : Int))) b g n (badd ws i) := by
 have hne : b ≠ g := by
  rintro rfl
  have := h.1.symm.trans h.2.1
  simp at this
 have hl := h.2.2.2.1
 have hlen : (badd ws i).length = ws.length := by simp [badd]
 refine ⟨?_, ?_, h.2.2.1, by rw [hlen]; exact hl, ?_, ?_⟩
 ·rw [Below.heap_setCell _ _ _ _ hne, hlen]; exact h.1
 ·rw [heap_setCell h.2.1, ucells_set]; rfl
 ·intro j hj
  rw [hlen] at hj
  unfold badd
  simp only [List.getD_eq_getElem?_getD, List.getElem?_set]
  by_cases c : i / 64 = j
  ·rw [if_pos c, if_pos (by omega)]
   simp only [Option.getD_some]
   exact Nat.or_lt_two_pow (by have := h.2.2.2.2.1 (i / 64) (by omega); simpa [List.getD_eq_getElem?_getD] using this) (Nat.pow_lt_pow_right (by omega) (Nat.mod_lt _ (by omega)))
  ·rw [if_neg c]
   have := h.2.2.2.2.1 j hj
   simpa [List.getD_eq_getElem?_getD] using this
 ·intro j hj
  rw [badd_get _ _ _ (by omega)] at hj
  simp at hj
  rcases hj with hj | rfl
  ·exact h.2.2.2.2.2 j hj
  ·exact hi

set_option maxHeartbeats 400000 in
theorem may_yes (b g n : Nat) (ws : List Nat) (i : Int) (w : World) (h : SetAt w b g n ws) (h0 : 0 ≤ i) (h1 : i < n) :
  Calls Tryd.prog 55 #[.pointer (some ⟨b, 0, none⟩), .int .i64 i] w fun e w' => e = .returned (.bool true) ∧ w = w' := by
 have hc := h.c0
 have d0 : decide (0 ≤ i) = true := by simpa using h0
 have d1 : decide (i < (n : Int)) = true := by simpa using h1
 go_enter Tryd.func55, Tryd.ntmps55
 go_wp2_with fail
 go_ret
 exact ⟨rfl, rfl⟩

set_option maxHeartbeats 400000 in
theorem may_no (b g n : Nat) (ws : List Nat) (i : Int) (w : World) (h : SetAt w b g n ws) (h0 : i < 0 ∨ n ≤ i) :
  Calls Tryd.prog 55 #[.pointer (some ⟨b, 0, none⟩), .int .i64 i] w fun e w' => e = .returned (.bool false) ∧ w = w' := by
 have hc := h.c0
 by_cases c : 0 ≤ i
 ·have d0 : decide (0 ≤ i) = true := by simpa using c
  have d1 : decide (i < (n : Int)) = false := by simp; omega
  go_enter Tryd.func55, Tryd.ntmps55
  go_wp2_with fail
  go_ret
  exact ⟨rfl, rfl⟩
 ·have d0 : decide (0 ≤ i) = false := by simpa using c
  go_enter Tryd.func55, Tryd.ntmps55
  go_wp2_with fail
  go_ret
  exact ⟨rfl, rfl⟩

theorem bit_and_one (x k : Nat) (h : x < 2 ^ 64) : (bits BinOp.and IntKind.u64 ((x : Int) / 2 ^ k) 1 == 1) = x.testBit k := by
 have e1 : ((x : Int) / 2 ^ k) = ((x / 2 ^ k : Nat) : Int) := by simp
 have e2 : x / 2 ^ k < 18446744073709551616 := Nat.lt_of_le_of_lt (Nat.div_le_self _ _) (by simpa using h)
 rw [e1, show (1 : Int) = ((1 : Nat) : Int) from rfl, u64_and_nat _ _ e2 (by decide), nat_mask1, Nat.testBit_eq_decide_div_mod_eq]
 rw [Bool.eq_iff_iff]
 simp
 omega

theorem or_bit (x k : Nat) (h : x < 2 ^ 64) (hk : k < 64) : bits BinOp.or IntKind.u64 (x : Int) (IntKind.u64.wrap (2 ^ k)) = ((x ||| 2 ^ k : Nat) : Int) := by
 have h2 : 2 ^ k < 18446744073709551616 := by
  have := Nat.pow_lt_pow_right (a := 2) (by omega) hk
  simpa using this
 have e1 : IntKind.u64.wrap (2 ^ k) = ((2 ^ k : Nat) : Int) := by
  rw [show ((2 : Int) ^ k) = ((2 ^ k : Nat) : Int) by simp]
  rw [IntKind.wrap_u64]
  generalize 2 ^ k = y at h2 ⊢
  omega
 rw [e1, u64_or_nat _ _ (by simpa using h) h2]

set_option maxHeartbeats 400000 in
theorem has_in (b g n i : Nat) (ws : List Nat) (w : World) (h : SetAt w b g n ws) (h1 : i < n) :
  Calls Tryd.prog 39 #[.pointer (some ⟨b, 0, none⟩), .int .i64 i] w fun e w' => e = .returned (.bool (bhas ws i)) ∧ w = w' := by
 have hc := h.c1
 have hl := h.2.2.2.1
 have hn := h.2.2.1
 have hx := h.word (i / 64) (by omega)
 have hx64 := h.2.2.2.2.1 (i / 64) (by omega)
 have HL := Lib.hid hl
 clear hl
 have hll : i / 64 < ws.length := by have := HL.out; omega
 have hb := Lib.hid (show bhas ws i = (ws.getD (i / 64) 0).testBit (i % 64) from rfl)
 generalize ws.getD (i / 64) 0 = x at hx hx64 hb
 have hq : i % 64 < 64 := Nat.mod_lt _ (by omega)
 go_enter Tryd.func39, Tryd.ntmps39
 go_wp2_with fail
 refine (may_yes _ _ _ _ _ _ h (by omega) (by omega)).mono ?_
 rintro e w' ⟨rfl, rfl⟩
 go_wp2_with fail
 go_ret
 refine ⟨?_, rfl⟩
 rw [hb.out]
 show Ending.returned (.bool (bits BinOp.and IntKind.u64 ((x : Int) / 2 ^ (i % 64)) 1 == 1)) = _
 rw [bit_and_one x (i % 64) hx64]

set_option maxHeartbeats 400000 in
theorem has_out (b g n : Nat) (i : Int) (ws : List Nat) (w : World) (h : SetAt w b g n ws) (h1 : i < 0 ∨ n ≤ i) :
  Calls Tryd.prog 39 #[.pointer (some ⟨b, 0, none⟩), .int .i64 i] w fun e w' => e = .returned (.bool false) ∧ w = w' := by
 go_enter Tryd.func39, Tryd.ntmps39
 go_wp2_with fail
 refine (may_no _ _ _ _ _ _ h h1).mono ?_
 rintro e w' ⟨rfl, rfl⟩
 go_wp2_with fail
 go_ret
 exact ⟨rfl, rfl⟩

set_option maxHeartbeats 400000 in
theorem add_new (b g n i : Nat) (ws : List Nat) (w : World) (h : SetAt w b g n ws) (h1 : i < n) (hno : bhas ws i = false) :
  Calls Tryd.prog 37 #[.pointer (some ⟨b, 0, none⟩), .int .i64 i] w fun e w' => e = .returned (.bool true) ∧ SetAt w' b g n (badd ws i) ∧ Upd [g] w w' := by
 have hc := h.c1
 have hl := h.2.2.2.1
 have hn := h.2.2.1
 have hx := h.word (i / 64) (by omega)
 have hf := h.free (i / 64)
 have HX64 := Lib.hid (h.2.2.2.2.1 (i / 64) (by omega))
 have HL := Lib.hid hl
 clear hl
 have hll : i / 64 < ws.length := by have := HL.out; omega
 have HB := Lib.hid (show badd ws i = ws.set (i / 64) (ws.getD (i / 64) 0 ||| 2 ^ (i % 64)) from rfl)
 have HS := Lib.hid (h.set i h1)
 have hq : i % 64 < 64 := Nat.mod_lt _ (by omega)
 generalize hxx : ws.getD (i / 64) 0 = x at hx HX64 HB
 have HXX := Lib.hid hxx
 clear hxx
 have H := Lib.hid h
 have HNO := Lib.hid hno
 clear h hno
 go_enter Tryd.func37, Tryd.ntmps37
 go_wp2_with fail
 refine (may_yes _ _ _ _ _ _ H.out (by omega) (by omega)).mono ?_
 rintro e w' ⟨rfl, rfl⟩
 go_wp2_with fail
 refine (has_in _ _ _ _ _ _ H.out (by omega)).mono ?_
 rintro e w' ⟨rfl, rfl⟩
 rw [HNO.out]
 go_wp2_with fail
 go_region
 rw [or_bit x (i % 64) HX64.out hq]
 have HS2 : Hid (SetAt (w.setCell ⟨g, i / 64, none⟩ (.int .u64 ((x ||| 2 ^ (i % 64) : Nat) : Int))).drew b g n (badd ws i)) := by
  have := HS.out
  rw [HXX.out] at this
  exact this
 have HU2 : Hid (Upd [g] w (w.setCell ⟨g, i / 64, none⟩ (.int .u64 ((x ||| 2 ^ (i % 64) : Nat) : Int))).drew) := ((Upd.refl _ _).setCell (by simp) _).drew
 generalize (w.setCell ⟨g, i / 64, none⟩ (.int .u64 ((x ||| 2 ^ (i % 64) : Nat) : Int))).drew = w2 at *
 go_wp2_with fail
 go_ret
 exact ⟨rfl, HS2.out, HU2.out⟩

set_option maxHeartbeats 400000 in
theorem add_old (b g n i : Nat) (ws : List Nat) (w : World) (h : SetAt w b g n ws) (h1 : i < n) (hyes : bhas ws i = true) :
  Calls Tryd.prog 37 #[.pointer (some ⟨b, 0, none⟩), .int .i64 i] w fun e w' => e = .returned (.bool false) ∧ w = w' := by
 have HY := Lib.hid hyes
 clear hyes
 go_enter Tryd.func37, Tryd.ntmps37
 go_wp2_with fail
 refine (may_yes _ _ _ _ _ _ h (by omega) (by omega)).mono ?_
 rintro e w' ⟨rfl, rfl⟩
 go_wp2_with fail
 refine (has_in _ _ _ _ _ _ h (by omega)).mono ?_
 rintro e w' ⟨rfl, rfl⟩
 rw [HY.out]
 go_wp2_with fail
 go_ret
 exact ⟨rfl, rfl⟩

set_option maxHeartbeats 400000 in
theorem add_out (b g n : Nat) (i : Int) (ws : List Nat) (w : World) (h : SetAt w b g n ws) (h1 : i < 0 ∨ n ≤ i) :
  Calls Tryd.prog 37 #[.pointer (some ⟨b, 0, none⟩), .int .i64 i] w fun e w' => e = .returned (.bool false) ∧ w = w' := by
 go_enter Tryd.func37, Tryd.ntmps37
 go_wp2_with fail
 refine (may_no _ _ _ _ _ _ h h1).mono ?_
 rintro e w' ⟨rfl, rfl⟩
 go_wp2_with fail
 go_ret
 exact ⟨rfl, rfl⟩

theorem Tryd.infoU : (Tryd.prog.info? 112).map (fun i => (i.zero, i.size, i.bytes)) = some (some (.int .u64 0), 1, 8) := by kernel_rfl

theorem madeCells_zerou (n : Nat) : madeCells (Value.int .u64 0).cells n = ucells (List.replicate n 0) := by
 unfold madeCells ucells
 apply Array.ext_getElem?
 intro i
 simp only [List.map_replicate]
 by_cases h : i < n
 ·simp [h, Value.cells, Nat.mod_one]
 ·simp [h]

theorem bhas_zero (m i : Nat) : bhas (List.replicate m 0) i = false := by
 unfold bhas
 simp only [List.getD_eq_getElem?_getD, List.getElem?_replicate]
 split <;> simp

set_option maxHeartbeats 400000 in
theorem bnew (n : Nat) (w : World) (hn : n ≤ 1048576) :
  Calls Tryd.prog 31 #[.int .i64 n] w fun e w' => e = .returned (.pointer (some ⟨w.heap.size + 1, 0, none⟩)) ∧ SetAt w' (w.heap.size + 1) w.heap.size n (List.replicate ((n + 63) / 64) 0) ∧ Upd [] w w' ∧ w'.heap.size = w.heap.size + 2 := by
 obtain ⟨i0, hi, hz0, hz1, hz2⟩ := info_parts Tryd.infoU
 have hmk := fun w => run_make (P := Tryd.prog) w 103 112 i0 (.int .u64 0) Tryd.underlying103 hi hz0 .i64 .i64 (((n : Int) + 63) / 64) (((n : Int) + 63) / 64) (by omega) (by omega) (by rw [hz2]; omega) (by omega)
 rw [hz1, Nat.mul_one] at hmk
 simp only [madeCells_zerou] at hmk
 rw [show (((n : Int) + 63) / 64).toNat = (n + 63) / 64 by omega] at hmk
 clear hz0 hz1 hz2 hi
 go_enter Tryd.func31, Tryd.ntmps31
 go_wp2_with fail
 go_ret
 refine ⟨rfl, ⟨?_, ?_, hn, by simp, ?_, ?_⟩, ?_, by simp⟩
 ·have := heap_alloc_new (w.alloc (.cells (ucells (List.replicate ((n + 63) / 64) 0)) 112)) (.cells #[.int .i64 n, .slice (some ⟨w.heap.size, 0, none⟩) ((n + 63) / 64) ((n + 63) / 64)] 105)
  simpa using this
 ·have h1 := heap_alloc_new w (.cells (ucells (List.replicate ((n + 63) / 64) 0)) 112)
  rw [Below.heap_alloc _ _ _ (by simp)]
  simpa using h1
 ·intro i hi
  simp only [List.getD_eq_getElem?_getD, List.getElem?_replicate]
  split <;> simp
 ·intro i hi
  rw [bhas_zero] at hi
  cases hi
 ·exact ((Upd.refl _ _).alloc _).alloc _

end Go.Proofs.YtbcoejmiihgfoaaDoor
