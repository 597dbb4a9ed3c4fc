/- prog.letters, uses; strings.Trim and slices.Contains as they are asked there. prog.uses. prog.instr. prog.instr at Get and Put; prog.instr whole. -/
import Derived.Test.YtojobkhidlfeoaaDoorShelf
import Derived.Test.YtojobkhidlfeoaaDoorVerL
import Derived.Shelf.Strings.SlTrimAscii
import Derived.Test.YtojobkhidlfeoaaDoorEff
import Derived.Test.YtojobkhidlfeoaaDoorStepL
import Derived.Test.YtojobkhidlfeoaaDoorSent
/-! prog.letters, uses; strings.Trim and slices.Contains as they are asked there. prog.uses. -/
/-! prog.letters, uses; strings.Trim and slices.Contains as they are asked there. -/
namespace Go.Proofs.YtojobkhidlfeoaaDoor
open Go.RowKit

theorem trim_any (s : ByteArray) (w : World) (hs : s.size ≤ 1000000000000000) :
  Calls Tryd.prog 36 #[.string s, .string ⟨#[73, 82]⟩] w fun e w' => e = .returned (.string (bs (Lib.trimS s.data.toList [73, 82]))) ∧ Upd [] w w' :=
 (Any.strings_Trim_laid Tryd.lays160 (by kernel_rfl) s ⟨#[73, 82]⟩ w (by omega) (by decide) (ascii_of_all (by decide))).mono fun _ _ ⟨h1, h2⟩ => ⟨h1, Upd.of_below h2⟩

set_option maxRecDepth 100000 in
set_option maxHeartbeats 1000000 in
theorem pletters_any (s : ByteArray) (w : World) (hs : s.size ≤ 1000000000000000) :
  Calls Tryd.prog 22 #[.string s] w fun e w' => e = .returned (.bool (lettersB s)) ∧ Upd [] w w' := by
 have he : ((bs (Lib.trimS s.data.toList [73, 82])).toList == []) = lettersB s := by
  rw [bs_list, Bool.eq_iff_iff, ← letters_trim, beq_iff_eq]
 have HE := Lib.hid he
 clear he
 go_enter Tryd.func22, Tryd.ntmps22
 go_wp2_with fail
 refine (trim_any s _ hs).mono ?_
 rintro e w' ⟨rfl, hu⟩
 generalize bs (Lib.trimS s.data.toList [73, 82]) = t at HE ⊢
 go_wp2_with fail
 go_ret
 exact ⟨by rw [← HE.out]; cases t.toList <;> rfl, hu⟩
end Go.Proofs.YtojobkhidlfeoaaDoor

/-! prog.uses. -/
namespace Go.Proofs.YtojobkhidlfeoaaDoor
open Go.RowKit

theorem ua_contains (op : Int) : ([3, 4, 22, 23, 24, 25, 26, 27, 28, 29, 30, 32] : List Int).contains op = decide (UA op) := by
 rw [Bool.eq_iff_iff, List.contains_iff_mem, decide_eq_true_eq]
 simp only [List.mem_cons, List.not_mem_nil, or_false]
 rfl

set_option maxRecDepth 100000 in
set_option maxHeartbeats 1000000 in
theorem uses_any (op : Int) (w : World) :
  Calls Tryd.prog 38 #[.int .i64 op] w fun e w' => e = .returned (.tuple #[.bool (decide (UA op)), .bool (decide (UB op)), .bool (decide (op = 1))]) ∧ Upd [] w w' := by
 have HU := Lib.hid ((Upd.refl [] w).alloc (.cells (icells [3, 4, 22, 23, 24, 25, 26, 27, 28, 29, 30, 32]) 3))
 have hC := Tryd.slices_Contains_int w.heap.size 0 12 12 [3, 4, 22, 23, 24, 25, 26, 27, 28, 29, 30, 32] op (w.alloc (.cells (icells [3, 4, 22, 23, 24, 25, 26, 27, 28, 29, 30, 32]) 3)) (by decide) (by decide) (fun j hj => by
  rw [Nat.zero_add, cell_of (heap_alloc_new w _), icells_get _ _ hj])
 rw [show (([3, 4, 22, 23, 24, 25, 26, 27, 28, 29, 30, 32] : List Int).take 12) = [3, 4, 22, 23, 24, 25, 26, 27, 28, 29, 30, 32] from rfl, ua_contains] at hC
 have HC := Lib.hid hC
 clear hC
 go_enter Tryd.func38, Tryd.ntmps38
 go_wp2_with fail
 refine HC.out.mono ?_
 rintro e w' ⟨rfl, hw⟩
 rw [hw]
 clear hw
 generalize (w.alloc (.cells (icells [3, 4, 22, 23, 24, 25, 26, 27, 28, 29, 30, 32]) 3)) = w1 at HU ⊢
 clear HC
 go_wp2_with fail
 all_goals
  go_ret3
  refine ⟨?_, HU.out⟩
  first
   | (rename_i h25
      subst h25
      show Ending.returned (.tuple #[.bool (decide (UA 25)), .bool true, .bool false]) = _
      rw [show decide (UB 25) = true by decide, show decide ((25 : Int) = 1) = false by decide])
   | (show Ending.returned (.tuple #[.bool (decide (UA op)), .bool (op == 25 || op == 26), .bool (op == 1)]) = _
      rw [show decide (UB op) = (op == 25 || op == 26) from by rw [Bool.eq_iff_iff, decide_eq_true_iff]; simp [UB], show decide (op = 1) = (op == 1) from by rw [Bool.eq_iff_iff]; simp])
end Go.Proofs.YtojobkhidlfeoaaDoor

/-! prog.instr. -/
namespace Go.Proofs.YtojobkhidlfeoaaDoor
open Go.RowKit

theorem pin_is (i n : Int) (t : Bool) (h : decide (0 ≤ i ∧ i < n) = t) (w : World) : Calls Tryd.prog 37 #[.int .i64 i, .int .i64 n] w fun e w' => e = .returned (.bool t) ∧ w = w' := by
 have := pin_any i n w
 rwa [h] at this
theorem pin_q (i n : Int) (k : Nat) (w : World) : Calls Tryd.prog 37 #[.int .i64 i, .int .i64 n] (w.drewN k) fun e w'' => e = .returned (.bool (decide (0 ≤ i ∧ i < n))) ∧ ∃ m, w'' = w.drewN m :=
 (pin_any i n (w.drewN k)).mono fun _ _ ⟨he, hm⟩ => ⟨he, k, hm.symm⟩

/-- The boxes that instr makes, and what it reads, in a world. -/
structure IB (w : World) (B : Nat) (E : Nat → Addr) (cv mv kv : Value) (m : Meth) (op a b n : Int) : Prop where
 p0 : w.cell? ⟨B, 0, none⟩ = some cv
 p1 : w.cell? ⟨B, 1, none⟩ = some mv
 m0 : w.cell? ⟨B + 1, 0, none⟩ = some (.string m.params)
 m1 : w.cell? ⟨B + 1, 1, none⟩ = some (.string m.locals)
 m2 : w.cell? ⟨B + 1, 2, none⟩ = some (.string m.ret)
 m3 : w.cell? ⟨B + 1, 3, none⟩ = some kv
 i0 : w.cell? ⟨B + 2, 0, none⟩ = some (.int .i64 op)
 i1 : w.cell? ⟨B + 2, 1, none⟩ = some (.int .i64 a)
 i2 : w.cell? ⟨B + 2, 2, none⟩ = some (.int .i64 b)
 i3 : w.cell? ⟨B + 2, 3, none⟩ = some (.int .i64 n)
 g1 : w.cell? ⟨2, 0, none⟩ = some (.iface 175 (.pointer (some (E 1))))
 g4 : w.cell? ⟨5, 0, none⟩ = some (.iface 175 (.pointer (some (E 3))))
 g5 : w.cell? ⟨6, 0, none⟩ = some (.iface 175 (.pointer (some (E 2))))
theorem IB.upd {w w' : World} {B : Nat} {E : Nat → Addr} {cv mv kv : Value} {m : Meth} {op a b n : Int} (h : IB w B E cv mv kv m op a b n) (hu : Upd [] w w') : IB w' B E cv mv kv m op a b n :=
 ⟨hu.cell h.p0 (by simp), hu.cell h.p1 (by simp), hu.cell h.m0 (by simp), hu.cell h.m1 (by simp), hu.cell h.m2 (by simp), hu.cell h.m3 (by simp), hu.cell h.i0 (by simp), hu.cell h.i1 (by simp), hu.cell h.i2 (by simp), hu.cell h.i3 (by simp), hu.cell h.g1 (by simp), hu.cell h.g4 (by simp), hu.cell h.g5 (by simp)⟩
theorem IB.start (w : World) (E : Nat → Addr) (cv mv kv : Value) (m : Meth) (op a b n : Int) (hS : SentAt w E) :
  IB (((w.alloc (.cells #[cv, mv] 36)).alloc (.cells #[.string m.params, .string m.locals, .string m.ret, kv] 32)).alloc (.cells #[.int .i64 op, .int .i64 a, .int .i64 b, .int .i64 n] 29)) w.heap.size E cv mv kv m op a b n := by
 have s1 : (w.alloc (.cells #[cv, mv] 36)).heap.size = w.heap.size + 1 := by simp
 have s2 : ((w.alloc (.cells #[cv, mv] 36)).alloc (.cells #[.string m.params, .string m.locals, .string m.ret, kv] 32)).heap.size = w.heap.size + 2 := by simp
 have h1 := ((((Upd.refl [] _).alloc (.cells #[.string m.params, .string m.locals, .string m.ret, kv] 32)).alloc (.cells #[.int .i64 op, .int .i64 a, .int .i64 b, .int .i64 n] 29))).heap (heap_alloc_new w (.cells #[cv, mv] 36)) (by simp)
 have h2 := ((Upd.refl [] _).alloc (.cells #[.int .i64 op, .int .i64 a, .int .i64 b, .int .i64 n] 29)).heap (heap_alloc_new (w.alloc (.cells #[cv, mv] 36)) (.cells #[.string m.params, .string m.locals, .string m.ret, kv] 32)) (by simp)
 have h3 := heap_alloc_new ((w.alloc (.cells #[cv, mv] 36)).alloc (.cells #[.string m.params, .string m.locals, .string m.ret, kv] 32)) (.cells #[.int .i64 op, .int .i64 a, .int .i64 b, .int .i64 n] 29)
 rw [s1] at h2
 rw [s2] at h3
 have hS3 := hS.upd ((((Upd.refl [] w).alloc (.cells #[cv, mv] 36)).alloc (.cells #[.string m.params, .string m.locals, .string m.ret, kv] 32)).alloc (.cells #[.int .i64 op, .int .i64 a, .int .i64 b, .int .i64 n] 29))
 refine ⟨?_, ?_, ?_, ?_, ?_, ?_, ?_, ?_, ?_, ?_, hS3.g 1 (by omega), hS3.g 3 (by omega), hS3.g 2 (by omega)⟩
 ·rw [cell_of h1]; rfl
 ·rw [cell_of h1]; rfl
 ·rw [cell_of h2]; rfl
 ·rw [cell_of h2]; rfl
 ·rw [cell_of h2]; rfl
 ·rw [cell_of h2]; rfl
 ·rw [cell_of h3]; rfl
 ·rw [cell_of h3]; rfl
 ·rw [cell_of h3]; rfl
 ·rw [cell_of h3]; rfl

theorem ret_code {E : Nat → Addr} {c : Int} (v : Value) (k : Nat) (hv : v = .iface 175 (.pointer (some (E k)))) (h : c = 101 + (k : Int)) : Ending.returned v = .returned (errC E c) := by rw [hv]; exact ret_err k h
theorem ret_code0 {E : Nat → Addr} {c : Int} (v : Value) (hv : v = .nilIface) (h : c = 0) : Ending.returned v = .returned (errC E c) := by rw [hv]; exact ret_nil h

set_option maxRecDepth 100000 in
set_option maxHeartbeats 4000000 in
theorem pinstr_bad (op a b n : Int) (h : op < 1 ∨ 35 < op) (cs : List ByteArray) (m : Meth) (cp mp kp : Option Addr) (nm cc mc kc : Nat) (E : Nat → Addr) (w : World) (hS : SentAt w E) (_hp : m.params.size ≤ 1000) (_hl : m.locals.size ≤ 1000) (_h1 : cs.length ≤ 1000) (_h2 : nm ≤ 1000) (_h3 : m.code.length ≤ 1000000000) :
  Calls Tryd.prog 24 #[.agg #[.slice cp cs.length cc, .slice mp nm mc], .agg #[.string m.params, .string m.locals, .string m.ret, .slice kp m.code.length kc], .agg #[.int .i64 op, .int .i64 a, .int .i64 b, .int .i64 n]] w fun e w' => e = .returned (errC E (insCode cs nm m ⟨op, a, b, n⟩)) ∧ Upd [] w w' := by
 have hIB := IB.start w E (.slice cp cs.length cc) (.slice mp nm mc) (.slice kp m.code.length kc) m op a b n hS
 have HU := Lib.hid ((((Upd.refl [] w).alloc (.cells #[.slice cp cs.length cc, .slice mp nm mc] 36)).alloc (.cells #[.string m.params, .string m.locals, .string m.ret, .slice kp m.code.length kc] 32)).alloc (.cells #[.int .i64 op, .int .i64 a, .int .i64 b, .int .i64 n] 29))
 clear hS
 have HC : Hid (insCode cs nm m ⟨op, a, b, n⟩ = 102) := by show _ = _; unfold insCode; rw [if_pos h]
 have hd : decide (op < 1) = true ∨ (decide (op < 1) = false ∧ decide (op > 35) = true) := by
  rcases h with h | h
  ·exact .inl (decide_eq_true h)
  ·by_cases h1 : op < 1
   ·exact .inl (decide_eq_true h1)
   ·exact .inr ⟨decide_eq_false h1, decide_eq_true h⟩
 clear h
 go_enter Tryd.func24, Tryd.ntmps24
 go_upto_region 1 with fail
 generalize (((w.alloc (.cells #[.slice cp cs.length cc, .slice mp nm mc] 36)).alloc (.cells #[.string m.params, .string m.locals, .string m.ret, .slice kp m.code.length kc] 32)).alloc (.cells #[.int .i64 op, .int .i64 a, .int .i64 b, .int .i64 n] 29)) = w3 at HU hIB ⊢
 have i0 := hIB.i0
 have i1 := hIB.i1
 have i2 := hIB.i2
 have i3 := hIB.i3
 have p0 := hIB.p0
 have p1 := hIB.p1
 have m0 := hIB.m0
 have m1 := hIB.m1
 have m2 := hIB.m2
 have m3 := hIB.m3
 have g1 := hIB.g1
 have g4 := hIB.g4
 have HIB := Lib.hid hIB
 clear hIB
 rcases hd with d1 | ⟨d1, d2⟩
 ·go_wp2_with fail
  go_ret
  exact ⟨ret_code _ 1 (by rfl) HC.out, HU.out⟩
 ·go_wp2_with fail
  go_ret
  exact ⟨ret_code _ 1 (by rfl) HC.out, HU.out⟩

set_option maxRecDepth 100000 in
set_option maxHeartbeats 4000000 in
theorem pinstr_plain (op a b n : Int) (h1 : 1 ≤ op) (h35 : op ≤ 35) (ha : ¬ UA op) (hb : ¬ UB op) (e3 : (op == 3) = false) (e4 : (op == 4) = false) (e22 : (op == 22) = false) (e23 : (op == 23) = false) (e24 : (op == 24) = false) (e25 : (op == 25) = false) (e26 : (op == 26) = false) (e27 : (op == 27) = false) (e28 : (op == 28) = false) (e29 : (op == 29) = false) (e30 : (op == 30) = false) (e32 : (op == 32) = false) (cs : List ByteArray) (m : Meth) (cp mp kp : Option Addr) (nm cc mc kc : Nat) (E : Nat → Addr) (w : World) (hS : SentAt w E) (_hp : m.params.size ≤ 1000) (_hl : m.locals.size ≤ 1000) (_h1 : cs.length ≤ 1000) (_h2 : nm ≤ 1000) (_h3 : m.code.length ≤ 1000000000) :
  Calls Tryd.prog 24 #[.agg #[.slice cp cs.length cc, .slice mp nm mc], .agg #[.string m.params, .string m.locals, .string m.ret, .slice kp m.code.length kc], .agg #[.int .i64 op, .int .i64 a, .int .i64 b, .int .i64 n]] w fun e w' => e = .returned (errC E (insCode cs nm m ⟨op, a, b, n⟩)) ∧ Upd [] w w' := by
 have hIB := IB.start w E (.slice cp cs.length cc) (.slice mp nm mc) (.slice kp m.code.length kc) m op a b n hS
 have HU := Lib.hid ((((Upd.refl [] w).alloc (.cells #[.slice cp cs.length cc, .slice mp nm mc] 36)).alloc (.cells #[.string m.params, .string m.locals, .string m.ret, .slice kp m.code.length kc] 32)).alloc (.cells #[.int .i64 op, .int .i64 a, .int .i64 b, .int .i64 n] 29))
 clear hS
 have HC : Hid (insCode cs nm m ⟨op, a, b, n⟩ = if a ≠ 0 ∨ b ≠ 0 ∨ op ≠ 1 ∧ n ≠ 0 then 103 else 0) := by
  show _ = _
  clear hIB HU
  simp only [beq_eq_false_iff_ne] at *
  simp [insCode, *]
  omega
 have HUA := Lib.hid (decide_eq_false ha)
 have HUB := Lib.hid (decide_eq_false hb)
 have d1 : decide (op < 1) = false := decide_eq_false (by omega)
 have d2 : decide (op > 35) = false := decide_eq_false (by omega)
 clear ha hb h1 h35
 go_enter Tryd.func24, Tryd.ntmps24
 go_upto_region 1 with fail
 generalize (((w.alloc (.cells #[.slice cp cs.length cc, .slice mp nm mc] 36)).alloc (.cells #[.string m.params, .string m.locals, .string m.ret, .slice kp m.code.length kc] 32)).alloc (.cells #[.int .i64 op, .int .i64 a, .int .i64 b, .int .i64 n] 29)) = w3 at HU hIB ⊢
 have i0 := hIB.i0
 have i1 := hIB.i1
 have i2 := hIB.i2
 have i3 := hIB.i3
 have p0 := hIB.p0
 have p1 := hIB.p1
 have m0 := hIB.m0
 have m1 := hIB.m1
 have m2 := hIB.m2
 have m3 := hIB.m3
 have g1 := hIB.g1
 have g4 := hIB.g4
 have HIB := Lib.hid hIB
 clear hIB
 go_wp2_with fail
 refine (uses_any _ _).mono ?_
 rintro e w4 ⟨rfl, hu4⟩
 have HU4 := Lib.hid ((HU.out).trans hu4)
 have j1 := ((HIB.out).upd hu4).i1
 have j2 := ((HIB.out).upd hu4).i2
 have j3 := ((HIB.out).upd hu4).i3
 have k5 := ((HIB.out).upd hu4).g5
 clear hu4
 rw [HUA.out, HUB.out]
 have hk1 : decide (op = 1) = (op == 1) := by rw [Bool.eq_iff_iff]; simp
 rw [hk1]
 clear hk1
 go_wp2_with fail
 all_goals
  go_ret
  refine ⟨?_, HU4.out⟩
  first
   | refine ret_code _ 2 (by rfl) ?_
   | refine ret_code0 _ (by rfl) ?_
  rw [HC.out]
  simp_all

set_option maxRecDepth 100000 in
set_option maxHeartbeats 4000000 in
theorem pinstr_arr28 (a b n : Int) (cs : List ByteArray) (m : Meth) (cp mp kp : Option Addr) (nm cc mc kc : Nat) (E : Nat → Addr) (w : World) (hS : SentAt w E) (_hp : m.params.size ≤ 1000) (_hl : m.locals.size ≤ 1000) (_h1 : cs.length ≤ 1000) (_h2 : nm ≤ 1000) (_h3 : m.code.length ≤ 1000000000) :
  Calls Tryd.prog 24 #[.agg #[.slice cp cs.length cc, .slice mp nm mc], .agg #[.string m.params, .string m.locals, .string m.ret, .slice kp m.code.length kc], .agg #[.int .i64 28, .int .i64 a, .int .i64 b, .int .i64 n]] w fun e w' => e = .returned (errC E (insCode cs nm m ⟨28, a, b, n⟩)) ∧ Upd [] w w' := by
 have hIB := IB.start w E (.slice cp cs.length cc) (.slice mp nm mc) (.slice kp m.code.length kc) m 28 a b n hS
 have HU := Lib.hid ((((Upd.refl [] w).alloc (.cells #[.slice cp cs.length cc, .slice mp nm mc] 36)).alloc (.cells #[.string m.params, .string m.locals, .string m.ret, .slice kp m.code.length kc] 32)).alloc (.cells #[.int .i64 28, .int .i64 a, .int .i64 b, .int .i64 n] 29))
 clear hS
 have HC : Hid (insCode cs nm m ⟨28, a, b, n⟩ = if ¬ (0 ≤ a ∧ a < 2) then 103 else if b ≠ 0 ∨ n ≠ 0 then 103 else 0) := by
  show _ = _
  clear hIB HU
  simp [insCode, UA, UB]
  by_cases h0 : a = 0
  ·simp [h0]
  ·by_cases h1 : a = 1
   ·simp [h1]
   ·rw [if_pos ⟨h0, h1⟩, if_pos (by omega)]
 go_enter Tryd.func24, Tryd.ntmps24
 go_upto_region 1 with fail
 generalize (((w.alloc (.cells #[.slice cp cs.length cc, .slice mp nm mc] 36)).alloc (.cells #[.string m.params, .string m.locals, .string m.ret, .slice kp m.code.length kc] 32)).alloc (.cells #[.int .i64 28, .int .i64 a, .int .i64 b, .int .i64 n] 29)) = w3 at HU hIB ⊢
 have i0 := hIB.i0
 have i1 := hIB.i1
 have i2 := hIB.i2
 have i3 := hIB.i3
 have p0 := hIB.p0
 have p1 := hIB.p1
 have m0 := hIB.m0
 have m1 := hIB.m1
 have m2 := hIB.m2
 have m3 := hIB.m3
 have g1 := hIB.g1
 have g4 := hIB.g4
 have HIB := Lib.hid hIB
 clear hIB
 by_cases ca : 0 ≤ a ∧ a < 2
 ·have HD := Lib.hid (decide_eq_true ca)
  rw [if_neg (by simpa using ca)] at HC
  clear ca
  go_wp2_with fail
  refine (pin_any a 2 _).mono ?_
  rintro e w' ⟨rfl, rfl⟩
  rw [HD.out]
  go_wp2_with fail
  refine (uses_any _ _).mono ?_
  rintro e w4 ⟨rfl, hu4⟩
  have HU4 := Lib.hid ((HU.out).trans hu4)
  have j1 := ((HIB.out).upd hu4).i1
  have j2 := ((HIB.out).upd hu4).i2
  have j3 := ((HIB.out).upd hu4).i3
  have k5 := ((HIB.out).upd hu4).g5
  clear hu4
  rw [show decide (UA 28) = true by decide, show decide (UB 28) = false by decide, show decide ((28 : Int) = 1) = false by decide]
  go_wp2_with fail
  all_goals
   go_ret
   refine ⟨?_, HU4.out⟩
   first
    | refine ret_code _ 2 (by rfl) ?_
    | refine ret_code0 _ (by rfl) ?_
   rw [HC.out]
   simp_all
 ·have HD := Lib.hid (decide_eq_false ca)
  rw [if_pos ca] at HC
  clear ca
  go_wp2_with fail
  refine (pin_any a 2 _).mono ?_
  rintro e w' ⟨rfl, rfl⟩
  rw [HD.out]
  go_wp2_with fail
  refine (uses_any _ _).mono ?_
  rintro e w4 ⟨rfl, hu4⟩
  have HU4 := Lib.hid ((HU.out).trans hu4)
  have j1 := ((HIB.out).upd hu4).i1
  have j2 := ((HIB.out).upd hu4).i2
  have j3 := ((HIB.out).upd hu4).i3
  have k5 := ((HIB.out).upd hu4).g5
  clear hu4
  rw [show decide (UA 28) = true by decide, show decide (UB 28) = false by decide, show decide ((28 : Int) = 1) = false by decide]
  go_wp2_with fail
  all_goals
   go_ret
   refine ⟨?_, HU4.out⟩
   first
    | refine ret_code _ 2 (by rfl) ?_
    | refine ret_code0 _ (by rfl) ?_
   rw [HC.out]
   simp_all

set_option maxRecDepth 100000 in
set_option maxHeartbeats 4000000 in
theorem pinstr_arr29 (a b n : Int) (cs : List ByteArray) (m : Meth) (cp mp kp : Option Addr) (nm cc mc kc : Nat) (E : Nat → Addr) (w : World) (hS : SentAt w E) (_hp : m.params.size ≤ 1000) (_hl : m.locals.size ≤ 1000) (_h1 : cs.length ≤ 1000) (_h2 : nm ≤ 1000) (_h3 : m.code.length ≤ 1000000000) :
  Calls Tryd.prog 24 #[.agg #[.slice cp cs.length cc, .slice mp nm mc], .agg #[.string m.params, .string m.locals, .string m.ret, .slice kp m.code.length kc], .agg #[.int .i64 29, .int .i64 a, .int .i64 b, .int .i64 n]] w fun e w' => e = .returned (errC E (insCode cs nm m ⟨29, a, b, n⟩)) ∧ Upd [] w w' := by
 have hIB := IB.start w E (.slice cp cs.length cc) (.slice mp nm mc) (.slice kp m.code.length kc) m 29 a b n hS
 have HU := Lib.hid ((((Upd.refl [] w).alloc (.cells #[.slice cp cs.length cc, .slice mp nm mc] 36)).alloc (.cells #[.string m.params, .string m.locals, .string m.ret, .slice kp m.code.length kc] 32)).alloc (.cells #[.int .i64 29, .int .i64 a, .int .i64 b, .int .i64 n] 29))
 clear hS
 have HC : Hid (insCode cs nm m ⟨29, a, b, n⟩ = if ¬ (0 ≤ a ∧ a < 2) then 103 else if b ≠ 0 ∨ n ≠ 0 then 103 else 0) := by
  show _ = _
  clear hIB HU
  simp [insCode, UA, UB]
  by_cases h0 : a = 0
  ·simp [h0]
  ·by_cases h1 : a = 1
   ·simp [h1]
   ·rw [if_pos ⟨h0, h1⟩, if_pos (by omega)]
 go_enter Tryd.func24, Tryd.ntmps24
 go_upto_region 1 with fail
 generalize (((w.alloc (.cells #[.slice cp cs.length cc, .slice mp nm mc] 36)).alloc (.cells #[.string m.params, .string m.locals, .string m.ret, .slice kp m.code.length kc] 32)).alloc (.cells #[.int .i64 29, .int .i64 a, .int .i64 b, .int .i64 n] 29)) = w3 at HU hIB ⊢
 have i0 := hIB.i0
 have i1 := hIB.i1
 have i2 := hIB.i2
 have i3 := hIB.i3
 have p0 := hIB.p0
 have p1 := hIB.p1
 have m0 := hIB.m0
 have m1 := hIB.m1
 have m2 := hIB.m2
 have m3 := hIB.m3
 have g1 := hIB.g1
 have g4 := hIB.g4
 have HIB := Lib.hid hIB
 clear hIB
 by_cases ca : 0 ≤ a ∧ a < 2
 ·have HD := Lib.hid (decide_eq_true ca)
  rw [if_neg (by simpa using ca)] at HC
  clear ca
  go_wp2_with fail
  refine (pin_any a 2 _).mono ?_
  rintro e w' ⟨rfl, rfl⟩
  rw [HD.out]
  go_wp2_with fail
  refine (uses_any _ _).mono ?_
  rintro e w4 ⟨rfl, hu4⟩
  have HU4 := Lib.hid ((HU.out).trans hu4)
  have j1 := ((HIB.out).upd hu4).i1
  have j2 := ((HIB.out).upd hu4).i2
  have j3 := ((HIB.out).upd hu4).i3
  have k5 := ((HIB.out).upd hu4).g5
  clear hu4
  rw [show decide (UA 29) = true by decide, show decide (UB 29) = false by decide, show decide ((29 : Int) = 1) = false by decide]
  go_wp2_with fail
  all_goals
   go_ret
   refine ⟨?_, HU4.out⟩
   first
    | refine ret_code _ 2 (by rfl) ?_
    | refine ret_code0 _ (by rfl) ?_
   rw [HC.out]
   simp_all
 ·have HD := Lib.hid (decide_eq_false ca)
  rw [if_pos ca] at HC
  clear ca
  go_wp2_with fail
  refine (pin_any a 2 _).mono ?_
  rintro e w' ⟨rfl, rfl⟩
  rw [HD.out]
  go_wp2_with fail
  refine (uses_any _ _).mono ?_
  rintro e w4 ⟨rfl, hu4⟩
  have HU4 := Lib.hid ((HU.out).trans hu4)
  have j1 := ((HIB.out).upd hu4).i1
  have j2 := ((HIB.out).upd hu4).i2
  have j3 := ((HIB.out).upd hu4).i3
  have k5 := ((HIB.out).upd hu4).g5
  clear hu4
  rw [show decide (UA 29) = true by decide, show decide (UB 29) = false by decide, show decide ((29 : Int) = 1) = false by decide]
  go_wp2_with fail
  all_goals
   go_ret
   refine ⟨?_, HU4.out⟩
   first
    | refine ret_code _ 2 (by rfl) ?_
    | refine ret_code0 _ (by rfl) ?_
   rw [HC.out]
   simp_all

set_option maxRecDepth 100000 in
set_option maxHeartbeats 4000000 in
theorem pinstr_arr30 (a b n : Int) (cs : List ByteArray) (m : Meth) (cp mp kp : Option Addr) (nm cc mc kc : Nat) (E : Nat → Addr) (w : World) (hS : SentAt w E) (_hp : m.params.size ≤ 1000) (_hl : m.locals.size ≤ 1000) (_h1 : cs.length ≤ 1000) (_h2 : nm ≤ 1000) (_h3 : m.code.length ≤ 1000000000) :
  Calls Tryd.prog 24 #[.agg #[.slice cp cs.length cc, .slice mp nm mc], .agg #[.string m.params, .string m.locals, .string m.ret, .slice kp m.code.length kc], .agg #[.int .i64 30, .int .i64 a, .int .i64 b, .int .i64 n]] w fun e w' => e = .returned (errC E (insCode cs nm m ⟨30, a, b, n⟩)) ∧ Upd [] w w' := by
 have hIB := IB.start w E (.slice cp cs.length cc) (.slice mp nm mc) (.slice kp m.code.length kc) m 30 a b n hS
 have HU := Lib.hid ((((Upd.refl [] w).alloc (.cells #[.slice cp cs.length cc, .slice mp nm mc] 36)).alloc (.cells #[.string m.params, .string m.locals, .string m.ret, .slice kp m.code.length kc] 32)).alloc (.cells #[.int .i64 30, .int .i64 a, .int .i64 b, .int .i64 n] 29))
 clear hS
 have HC : Hid (insCode cs nm m ⟨30, a, b, n⟩ = if ¬ (0 ≤ a ∧ a < 2) then 103 else if b ≠ 0 ∨ n ≠ 0 then 103 else 0) := by
  show _ = _
  clear hIB HU
  simp [insCode, UA, UB]
  by_cases h0 : a = 0
  ·simp [h0]
  ·by_cases h1 : a = 1
   ·simp [h1]
   ·rw [if_pos ⟨h0, h1⟩, if_pos (by omega)]
 go_enter Tryd.func24, Tryd.ntmps24
 go_upto_region 1 with fail
 generalize (((w.alloc (.cells #[.slice cp cs.length cc, .slice mp nm mc] 36)).alloc (.cells #[.string m.params, .string m.locals, .string m.ret, .slice kp m.code.length kc] 32)).alloc (.cells #[.int .i64 30, .int .i64 a, .int .i64 b, .int .i64 n] 29)) = w3 at HU hIB ⊢
 have i0 := hIB.i0
 have i1 := hIB.i1
 have i2 := hIB.i2
 have i3 := hIB.i3
 have p0 := hIB.p0
 have p1 := hIB.p1
 have m0 := hIB.m0
 have m1 := hIB.m1
 have m2 := hIB.m2
 have m3 := hIB.m3
 have g1 := hIB.g1
 have g4 := hIB.g4
 have HIB := Lib.hid hIB
 clear hIB
 by_cases ca : 0 ≤ a ∧ a < 2
 ·have HD := Lib.hid (decide_eq_true ca)
  rw [if_neg (by simpa using ca)] at HC
  clear ca
  go_wp2_with fail
  refine (pin_any a 2 _).mono ?_
  rintro e w' ⟨rfl, rfl⟩
  rw [HD.out]
  go_wp2_with fail
  refine (uses_any _ _).mono ?_
  rintro e w4 ⟨rfl, hu4⟩
  have HU4 := Lib.hid ((HU.out).trans hu4)
  have j1 := ((HIB.out).upd hu4).i1
  have j2 := ((HIB.out).upd hu4).i2
  have j3 := ((HIB.out).upd hu4).i3
  have k5 := ((HIB.out).upd hu4).g5
  clear hu4
  rw [show decide (UA 30) = true by decide, show decide (UB 30) = false by decide, show decide ((30 : Int) = 1) = false by decide]
  go_wp2_with fail
  all_goals
   go_ret
   refine ⟨?_, HU4.out⟩
   first
    | refine ret_code _ 2 (by rfl) ?_
    | refine ret_code0 _ (by rfl) ?_
   rw [HC.out]
   simp_all
 ·have HD := Lib.hid (decide_eq_false ca)
  rw [if_pos ca] at HC
  clear ca
  go_wp2_with fail
  refine (pin_any a 2 _).mono ?_
  rintro e w' ⟨rfl, rfl⟩
  rw [HD.out]
  go_wp2_with fail
  refine (uses_any _ _).mono ?_
  rintro e w4 ⟨rfl, hu4⟩
  have HU4 := Lib.hid ((HU.out).trans hu4)
  have j1 := ((HIB.out).upd hu4).i1
  have j2 := ((HIB.out).upd hu4).i2
  have j3 := ((HIB.out).upd hu4).i3
  have k5 := ((HIB.out).upd hu4).g5
  clear hu4
  rw [show decide (UA 30) = true by decide, show decide (UB 30) = false by decide, show decide ((30 : Int) = 1) = false by decide]
  go_wp2_with fail
  all_goals
   go_ret
   refine ⟨?_, HU4.out⟩
   first
    | refine ret_code _ 2 (by rfl) ?_
    | refine ret_code0 _ (by rfl) ?_
   rw [HC.out]
   simp_all

set_option maxRecDepth 100000 in
set_option maxHeartbeats 4000000 in
theorem pinstr_cls24 (a b n : Int) (cs : List ByteArray) (m : Meth) (cp mp kp : Option Addr) (nm cc mc kc : Nat) (E : Nat → Addr) (w : World) (hS : SentAt w E) (_hp : m.params.size ≤ 1000) (_hl : m.locals.size ≤ 1000) (_h1 : cs.length ≤ 1000) (_h2 : nm ≤ 1000) (_h3 : m.code.length ≤ 1000000000) :
  Calls Tryd.prog 24 #[.agg #[.slice cp cs.length cc, .slice mp nm mc], .agg #[.string m.params, .string m.locals, .string m.ret, .slice kp m.code.length kc], .agg #[.int .i64 24, .int .i64 a, .int .i64 b, .int .i64 n]] w fun e w' => e = .returned (errC E (insCode cs nm m ⟨24, a, b, n⟩)) ∧ Upd [] w w' := by
 have hIB := IB.start w E (.slice cp cs.length cc) (.slice mp nm mc) (.slice kp m.code.length kc) m 24 a b n hS
 have HU := Lib.hid ((((Upd.refl [] w).alloc (.cells #[.slice cp cs.length cc, .slice mp nm mc] 36)).alloc (.cells #[.string m.params, .string m.locals, .string m.ret, .slice kp m.code.length kc] 32)).alloc (.cells #[.int .i64 24, .int .i64 a, .int .i64 b, .int .i64 n] 29))
 clear hS
 have HC : Hid (insCode cs nm m ⟨24, a, b, n⟩ = if ¬ (0 ≤ a ∧ a < (cs.length : Int)) then 103 else if b ≠ 0 ∨ n ≠ 0 then 103 else 0) := by
  show _ = _
  clear hIB HU
  by_cases h0 : 0 ≤ a ∧ a < (cs.length : Int)
  ·have e1 : ¬ a < 0 := by omega
   have e2 : ¬ (cs.length : Int) ≤ a := by omega
   rw [if_neg (fun h => h h0)]
   simp [insCode, UA, UB, e1, e2]
  ·have e1 : a < 0 ∨ (cs.length : Int) ≤ a := by omega
   rw [if_pos h0]
   simp [insCode, UB, e1]
 go_enter Tryd.func24, Tryd.ntmps24
 go_upto_region 1 with fail
 generalize (((w.alloc (.cells #[.slice cp cs.length cc, .slice mp nm mc] 36)).alloc (.cells #[.string m.params, .string m.locals, .string m.ret, .slice kp m.code.length kc] 32)).alloc (.cells #[.int .i64 24, .int .i64 a, .int .i64 b, .int .i64 n] 29)) = w3 at HU hIB ⊢
 have i0 := hIB.i0
 have i1 := hIB.i1
 have i2 := hIB.i2
 have i3 := hIB.i3
 have p0 := hIB.p0
 have p1 := hIB.p1
 have m0 := hIB.m0
 have m1 := hIB.m1
 have m2 := hIB.m2
 have m3 := hIB.m3
 have g1 := hIB.g1
 have g4 := hIB.g4
 have HIB := Lib.hid hIB
 clear hIB
 by_cases ca : 0 ≤ a ∧ a < (cs.length : Int)
 ·have HD := Lib.hid (decide_eq_true ca)
  rw [if_neg (by simpa using ca)] at HC
  clear ca
  go_wp2_with fail
  refine (pin_any a cs.length _).mono ?_
  rintro e w' ⟨rfl, rfl⟩
  rw [HD.out]
  go_wp2_with fail
  refine (uses_any _ _).mono ?_
  rintro e w4 ⟨rfl, hu4⟩
  have HU4 := Lib.hid ((HU.out).trans hu4)
  have j1 := ((HIB.out).upd hu4).i1
  have j2 := ((HIB.out).upd hu4).i2
  have j3 := ((HIB.out).upd hu4).i3
  have k5 := ((HIB.out).upd hu4).g5
  clear hu4
  rw [show decide (UA 24) = true by decide, show decide (UB 24) = false by decide, show decide ((24 : Int) = 1) = false by decide]
  go_wp2_with fail
  all_goals
   go_ret
   refine ⟨?_, HU4.out⟩
   first
    | refine ret_code _ 2 (by rfl) ?_
    | refine ret_code0 _ (by rfl) ?_
   rw [HC.out]
   simp_all
 ·have HD := Lib.hid (decide_eq_false ca)
  rw [if_pos ca] at HC
  clear ca
  go_wp2_with fail
  refine (pin_any a cs.length _).mono ?_
  rintro e w' ⟨rfl, rfl⟩
  rw [HD.out]
  go_wp2_with fail
  refine (uses_any _ _).mono ?_
  rintro e w4 ⟨rfl, hu4⟩
  have HU4 := Lib.hid ((HU.out).trans hu4)
  have j1 := ((HIB.out).upd hu4).i1
  have j2 := ((HIB.out).upd hu4).i2
  have j3 := ((HIB.out).upd hu4).i3
  have k5 := ((HIB.out).upd hu4).g5
  clear hu4
  rw [show decide (UA 24) = true by decide, show decide (UB 24) = false by decide, show decide ((24 : Int) = 1) = false by decide]
  go_wp2_with fail
  all_goals
   go_ret
   refine ⟨?_, HU4.out⟩
   first
    | refine ret_code _ 2 (by rfl) ?_
    | refine ret_code0 _ (by rfl) ?_
   rw [HC.out]
   simp_all

set_option maxRecDepth 100000 in
set_option maxHeartbeats 4000000 in
theorem pinstr_cls27 (a b n : Int) (cs : List ByteArray) (m : Meth) (cp mp kp : Option Addr) (nm cc mc kc : Nat) (E : Nat → Addr) (w : World) (hS : SentAt w E) (_hp : m.params.size ≤ 1000) (_hl : m.locals.size ≤ 1000) (_h1 : cs.length ≤ 1000) (_h2 : nm ≤ 1000) (_h3 : m.code.length ≤ 1000000000) :
  Calls Tryd.prog 24 #[.agg #[.slice cp cs.length cc, .slice mp nm mc], .agg #[.string m.params, .string m.locals, .string m.ret, .slice kp m.code.length kc], .agg #[.int .i64 27, .int .i64 a, .int .i64 b, .int .i64 n]] w fun e w' => e = .returned (errC E (insCode cs nm m ⟨27, a, b, n⟩)) ∧ Upd [] w w' := by
 have hIB := IB.start w E (.slice cp cs.length cc) (.slice mp nm mc) (.slice kp m.code.length kc) m 27 a b n hS
 have HU := Lib.hid ((((Upd.refl [] w).alloc (.cells #[.slice cp cs.length cc, .slice mp nm mc] 36)).alloc (.cells #[.string m.params, .string m.locals, .string m.ret, .slice kp m.code.length kc] 32)).alloc (.cells #[.int .i64 27, .int .i64 a, .int .i64 b, .int .i64 n] 29))
 clear hS
 have HC : Hid (insCode cs nm m ⟨27, a, b, n⟩ = if ¬ (0 ≤ a ∧ a < (cs.length : Int)) then 103 else if b ≠ 0 ∨ n ≠ 0 then 103 else 0) := by
  show _ = _
  clear hIB HU
  by_cases h0 : 0 ≤ a ∧ a < (cs.length : Int)
  ·have e1 : ¬ a < 0 := by omega
   have e2 : ¬ (cs.length : Int) ≤ a := by omega
   rw [if_neg (fun h => h h0)]
   simp [insCode, UA, UB, e1, e2]
  ·have e1 : a < 0 ∨ (cs.length : Int) ≤ a := by omega
   rw [if_pos h0]
   simp [insCode, UB, e1]
 go_enter Tryd.func24, Tryd.ntmps24
 go_upto_region 1 with fail
 generalize (((w.alloc (.cells #[.slice cp cs.length cc, .slice mp nm mc] 36)).alloc (.cells #[.string m.params, .string m.locals, .string m.ret, .slice kp m.code.length kc] 32)).alloc (.cells #[.int .i64 27, .int .i64 a, .int .i64 b, .int .i64 n] 29)) = w3 at HU hIB ⊢
 have i0 := hIB.i0
 have i1 := hIB.i1
 have i2 := hIB.i2
 have i3 := hIB.i3
 have p0 := hIB.p0
 have p1 := hIB.p1
 have m0 := hIB.m0
 have m1 := hIB.m1
 have m2 := hIB.m2
 have m3 := hIB.m3
 have g1 := hIB.g1
 have g4 := hIB.g4
 have HIB := Lib.hid hIB
 clear hIB
 by_cases ca : 0 ≤ a ∧ a < (cs.length : Int)
 ·have HD := Lib.hid (decide_eq_true ca)
  rw [if_neg (by simpa using ca)] at HC
  clear ca
  go_wp2_with fail
  refine (pin_any a cs.length _).mono ?_
  rintro e w' ⟨rfl, rfl⟩
  rw [HD.out]
  go_wp2_with fail
  refine (uses_any _ _).mono ?_
  rintro e w4 ⟨rfl, hu4⟩
  have HU4 := Lib.hid ((HU.out).trans hu4)
  have j1 := ((HIB.out).upd hu4).i1
  have j2 := ((HIB.out).upd hu4).i2
  have j3 := ((HIB.out).upd hu4).i3
  have k5 := ((HIB.out).upd hu4).g5
  clear hu4
  rw [show decide (UA 27) = true by decide, show decide (UB 27) = false by decide, show decide ((27 : Int) = 1) = false by decide]
  go_wp2_with fail
  all_goals
   go_ret
   refine ⟨?_, HU4.out⟩
   first
    | refine ret_code _ 2 (by rfl) ?_
    | refine ret_code0 _ (by rfl) ?_
   rw [HC.out]
   simp_all
 ·have HD := Lib.hid (decide_eq_false ca)
  rw [if_pos ca] at HC
  clear ca
  go_wp2_with fail
  refine (pin_any a cs.length _).mono ?_
  rintro e w' ⟨rfl, rfl⟩
  rw [HD.out]
  go_wp2_with fail
  refine (uses_any _ _).mono ?_
  rintro e w4 ⟨rfl, hu4⟩
  have HU4 := Lib.hid ((HU.out).trans hu4)
  have j1 := ((HIB.out).upd hu4).i1
  have j2 := ((HIB.out).upd hu4).i2
  have j3 := ((HIB.out).upd hu4).i3
  have k5 := ((HIB.out).upd hu4).g5
  clear hu4
  rw [show decide (UA 27) = true by decide, show decide (UB 27) = false by decide, show decide ((27 : Int) = 1) = false by decide]
  go_wp2_with fail
  all_goals
   go_ret
   refine ⟨?_, HU4.out⟩
   first
    | refine ret_code _ 2 (by rfl) ?_
    | refine ret_code0 _ (by rfl) ?_
   rw [HC.out]
   simp_all

set_option maxRecDepth 100000 in
set_option maxHeartbeats 4000000 in
theorem pinstr_call (a b n : Int) (cs : List ByteArray) (m : Meth) (cp mp kp : Option Addr) (nm cc mc kc : Nat) (E : Nat → Addr) (w : World) (hS : SentAt w E) (_hp : m.params.size ≤ 1000) (_hl : m.locals.size ≤ 1000) (_h1 : cs.length ≤ 1000) (_h2 : nm ≤ 1000) (_h3 : m.code.length ≤ 1000000000) :
  Calls Tryd.prog 24 #[.agg #[.slice cp cs.length cc, .slice mp nm mc], .agg #[.string m.params, .string m.locals, .string m.ret, .slice kp m.code.length kc], .agg #[.int .i64 32, .int .i64 a, .int .i64 b, .int .i64 n]] w fun e w' => e = .returned (errC E (insCode cs nm m ⟨32, a, b, n⟩)) ∧ Upd [] w w' := by
 have hIB := IB.start w E (.slice cp cs.length cc) (.slice mp nm mc) (.slice kp m.code.length kc) m 32 a b n hS
 have HU := Lib.hid ((((Upd.refl [] w).alloc (.cells #[.slice cp cs.length cc, .slice mp nm mc] 36)).alloc (.cells #[.string m.params, .string m.locals, .string m.ret, .slice kp m.code.length kc] 32)).alloc (.cells #[.int .i64 32, .int .i64 a, .int .i64 b, .int .i64 n] 29))
 clear hS
 have HC : Hid (insCode cs nm m ⟨32, a, b, n⟩ = if ¬ (0 < a ∧ a < (nm : Int)) then 103 else if b ≠ 0 ∨ n ≠ 0 then 103 else 0) := by
  show _ = _
  clear hIB HU
  by_cases h0 : 0 < a ∧ a < (nm : Int)
  ·have e1 : ¬ a < 1 := by omega
   have e2 : ¬ (nm : Int) ≤ a := by omega
   rw [if_neg (fun h => h h0)]
   simp [insCode, UA, UB, e1, e2]
  ·have e1 : a < 1 ∨ (nm : Int) ≤ a := by omega
   rw [if_pos h0]
   simp [insCode, UB, e1]
 go_enter Tryd.func24, Tryd.ntmps24
 go_upto_region 1 with fail
 generalize (((w.alloc (.cells #[.slice cp cs.length cc, .slice mp nm mc] 36)).alloc (.cells #[.string m.params, .string m.locals, .string m.ret, .slice kp m.code.length kc] 32)).alloc (.cells #[.int .i64 32, .int .i64 a, .int .i64 b, .int .i64 n] 29)) = w3 at HU hIB ⊢
 have i0 := hIB.i0
 have i1 := hIB.i1
 have i2 := hIB.i2
 have i3 := hIB.i3
 have p0 := hIB.p0
 have p1 := hIB.p1
 have m0 := hIB.m0
 have m1 := hIB.m1
 have m2 := hIB.m2
 have m3 := hIB.m3
 have g1 := hIB.g1
 have g4 := hIB.g4
 have HIB := Lib.hid hIB
 clear hIB
 by_cases c0 : 0 < a
 ·have d0 : decide (a > 0) = true := decide_eq_true c0
  by_cases ca : 0 ≤ a ∧ a < (nm : Int)
  ·have HD := Lib.hid (decide_eq_true ca)
   rw [if_neg (by omega)] at HC
   clear ca c0
   go_wp2_with fail
   refine (pin_any a nm _).mono ?_
   rintro e w' ⟨rfl, rfl⟩
   rw [HD.out]
   go_wp2_with fail
   refine (uses_any _ _).mono ?_
   rintro e w4 ⟨rfl, hu4⟩
   have HU4 := Lib.hid ((HU.out).trans hu4)
   have j1 := ((HIB.out).upd hu4).i1
   have j2 := ((HIB.out).upd hu4).i2
   have j3 := ((HIB.out).upd hu4).i3
   have k5 := ((HIB.out).upd hu4).g5
   clear hu4
   rw [show decide (UA 32) = true by decide, show decide (UB 32) = false by decide, show decide ((32 : Int) = 1) = false by decide]
   go_wp2_with fail
   all_goals
    go_ret
    refine ⟨?_, HU4.out⟩
    first
     | refine ret_code _ 2 (by rfl) ?_
     | refine ret_code0 _ (by rfl) ?_
    rw [HC.out]
    simp_all
  ·have HD := Lib.hid (decide_eq_false ca)
   rw [if_pos (by omega)] at HC
   clear ca c0
   go_wp2_with fail
   refine (pin_any a nm _).mono ?_
   rintro e w' ⟨rfl, rfl⟩
   rw [HD.out]
   go_wp2_with fail
   refine (uses_any _ _).mono ?_
   rintro e w4 ⟨rfl, hu4⟩
   have HU4 := Lib.hid ((HU.out).trans hu4)
   have j1 := ((HIB.out).upd hu4).i1
   have j2 := ((HIB.out).upd hu4).i2
   have j3 := ((HIB.out).upd hu4).i3
   have k5 := ((HIB.out).upd hu4).g5
   clear hu4
   rw [show decide (UA 32) = true by decide, show decide (UB 32) = false by decide, show decide ((32 : Int) = 1) = false by decide]
   go_wp2_with fail
   all_goals
    go_ret
    refine ⟨?_, HU4.out⟩
    first
     | refine ret_code _ 2 (by rfl) ?_
     | refine ret_code0 _ (by rfl) ?_
    rw [HC.out]
    simp_all
 ·have d0 : decide (a > 0) = false := decide_eq_false c0
  rw [if_pos (by omega)] at HC
  clear c0
  go_wp2_with fail
  refine (uses_any _ _).mono ?_
  rintro e w4 ⟨rfl, hu4⟩
  have HU4 := Lib.hid ((HU.out).trans hu4)
  have j1 := ((HIB.out).upd hu4).i1
  have j2 := ((HIB.out).upd hu4).i2
  have j3 := ((HIB.out).upd hu4).i3
  have k5 := ((HIB.out).upd hu4).g5
  clear hu4
  rw [show decide (UA 32) = true by decide, show decide (UB 32) = false by decide, show decide ((32 : Int) = 1) = false by decide]
  go_wp2_with fail
  all_goals
   go_ret
   refine ⟨?_, HU4.out⟩
   first
    | refine ret_code _ 2 (by rfl) ?_
    | refine ret_code0 _ (by rfl) ?_
   rw [HC.out]
   simp_all

set_option maxRecDepth 100000 in
set_option maxHeartbeats 4000000 in
theorem pinstr_jump22 (a b n : Int) (cs : List ByteArray) (m : Meth) (cp mp kp : Option Addr) (nm cc mc kc : Nat) (E : Nat → Addr) (w : World) (hS : SentAt w E) (_hp : m.params.size ≤ 1000) (_hl : m.locals.size ≤ 1000) (_h1 : cs.length ≤ 1000) (_h2 : nm ≤ 1000) (_h3 : m.code.length ≤ 1000000000) :
  Calls Tryd.prog 24 #[.agg #[.slice cp cs.length cc, .slice mp nm mc], .agg #[.string m.params, .string m.locals, .string m.ret, .slice kp m.code.length kc], .agg #[.int .i64 22, .int .i64 a, .int .i64 b, .int .i64 n]] w fun e w' => e = .returned (errC E (insCode cs nm m ⟨22, a, b, n⟩)) ∧ Upd [] w w' := by
 have hIB := IB.start w E (.slice cp cs.length cc) (.slice mp nm mc) (.slice kp m.code.length kc) m 22 a b n hS
 have HU := Lib.hid ((((Upd.refl [] w).alloc (.cells #[.slice cp cs.length cc, .slice mp nm mc] 36)).alloc (.cells #[.string m.params, .string m.locals, .string m.ret, .slice kp m.code.length kc] 32)).alloc (.cells #[.int .i64 22, .int .i64 a, .int .i64 b, .int .i64 n] 29))
 clear hS
 have HC : Hid (insCode cs nm m ⟨22, a, b, n⟩ = if ¬ (0 ≤ a ∧ a < (m.code.length : Int)) then 104 else if b ≠ 0 ∨ n ≠ 0 then 103 else 0) := by
  show _ = _
  clear hIB HU
  by_cases h0 : 0 ≤ a ∧ a < (m.code.length : Int)
  ·have e1 : ¬ a < 0 := by omega
   have e2 : ¬ (m.code.length : Int) ≤ a := by omega
   rw [if_neg (fun h => h h0)]
   simp [insCode, UA, UB, e1, e2]
  ·have e1 : a < 0 ∨ (m.code.length : Int) ≤ a := by omega
   rw [if_pos h0]
   simp [insCode, UB, e1]
 go_enter Tryd.func24, Tryd.ntmps24
 go_upto_region 1 with fail
 generalize (((w.alloc (.cells #[.slice cp cs.length cc, .slice mp nm mc] 36)).alloc (.cells #[.string m.params, .string m.locals, .string m.ret, .slice kp m.code.length kc] 32)).alloc (.cells #[.int .i64 22, .int .i64 a, .int .i64 b, .int .i64 n] 29)) = w3 at HU hIB ⊢
 have i0 := hIB.i0
 have i1 := hIB.i1
 have i2 := hIB.i2
 have i3 := hIB.i3
 have p0 := hIB.p0
 have p1 := hIB.p1
 have m0 := hIB.m0
 have m1 := hIB.m1
 have m2 := hIB.m2
 have m3 := hIB.m3
 have g1 := hIB.g1
 have g4 := hIB.g4
 have HIB := Lib.hid hIB
 clear hIB
 by_cases ca : 0 ≤ a ∧ a < (m.code.length : Int)
 ·have HD := Lib.hid (decide_eq_true ca)
  rw [if_neg (by simpa using ca)] at HC
  clear ca
  go_wp2_with fail
  refine (pin_any a m.code.length _).mono ?_
  rintro e w' ⟨rfl, rfl⟩
  rw [HD.out]
  go_wp2_with fail
  refine (uses_any _ _).mono ?_
  rintro e w4 ⟨rfl, hu4⟩
  have HU4 := Lib.hid ((HU.out).trans hu4)
  have j1 := ((HIB.out).upd hu4).i1
  have j2 := ((HIB.out).upd hu4).i2
  have j3 := ((HIB.out).upd hu4).i3
  have k5 := ((HIB.out).upd hu4).g5
  clear hu4
  rw [show decide (UA 22) = true by decide, show decide (UB 22) = false by decide, show decide ((22 : Int) = 1) = false by decide]
  go_wp2_with fail
  all_goals
   go_ret
   refine ⟨?_, HU4.out⟩
   first
    | refine ret_code _ 2 (by rfl) ?_
    | refine ret_code0 _ (by rfl) ?_
   rw [HC.out]
   simp_all
 ·have HD := Lib.hid (decide_eq_false ca)
  rw [if_pos ca] at HC
  clear ca
  go_wp2_with fail
  refine (pin_any a m.code.length _).mono ?_
  rintro e w' ⟨rfl, rfl⟩
  rw [HD.out]
  go_wp2_with fail
  go_ret
  exact ⟨ret_code _ 3 (by rfl) HC.out, HU.out⟩

set_option maxRecDepth 100000 in
set_option maxHeartbeats 4000000 in
theorem pinstr_jump23 (a b n : Int) (cs : List ByteArray) (m : Meth) (cp mp kp : Option Addr) (nm cc mc kc : Nat) (E : Nat → Addr) (w : World) (hS : SentAt w E) (_hp : m.params.size ≤ 1000) (_hl : m.locals.size ≤ 1000) (_h1 : cs.length ≤ 1000) (_h2 : nm ≤ 1000) (_h3 : m.code.length ≤ 1000000000) :
  Calls Tryd.prog 24 #[.agg #[.slice cp cs.length cc, .slice mp nm mc], .agg #[.string m.params, .string m.locals, .string m.ret, .slice kp m.code.length kc], .agg #[.int .i64 23, .int .i64 a, .int .i64 b, .int .i64 n]] w fun e w' => e = .returned (errC E (insCode cs nm m ⟨23, a, b, n⟩)) ∧ Upd [] w w' := by
 have hIB := IB.start w E (.slice cp cs.length cc) (.slice mp nm mc) (.slice kp m.code.length kc) m 23 a b n hS
 have HU := Lib.hid ((((Upd.refl [] w).alloc (.cells #[.slice cp cs.length cc, .slice mp nm mc] 36)).alloc (.cells #[.string m.params, .string m.locals, .string m.ret, .slice kp m.code.length kc] 32)).alloc (.cells #[.int .i64 23, .int .i64 a, .int .i64 b, .int .i64 n] 29))
 clear hS
 have HC : Hid (insCode cs nm m ⟨23, a, b, n⟩ = if ¬ (0 ≤ a ∧ a < (m.code.length : Int)) then 104 else if b ≠ 0 ∨ n ≠ 0 then 103 else 0) := by
  show _ = _
  clear hIB HU
  by_cases h0 : 0 ≤ a ∧ a < (m.code.length : Int)
  ·have e1 : ¬ a < 0 := by omega
   have e2 : ¬ (m.code.length : Int) ≤ a := by omega
   rw [if_neg (fun h => h h0)]
   simp [insCode, UA, UB, e1, e2]
  ·have e1 : a < 0 ∨ (m.code.length : Int) ≤ a := by omega
   rw [if_pos h0]
   simp [insCode, UB, e1]
 go_enter Tryd.func24, Tryd.ntmps24
 go_upto_region 1 with fail
 generalize (((w.alloc (.cells #[.slice cp cs.length cc, .slice mp nm mc] 36)).alloc (.cells #[.string m.params, .string m.locals, .string m.ret, .slice kp m.code.length kc] 32)).alloc (.cells #[.int .i64 23, .int .i64 a, .int .i64 b, .int .i64 n] 29)) = w3 at HU hIB ⊢
 have i0 := hIB.i0
 have i1 := hIB.i1
 have i2 := hIB.i2
 have i3 := hIB.i3
 have p0 := hIB.p0
 have p1 := hIB.p1
 have m0 := hIB.m0
 have m1 := hIB.m1
 have m2 := hIB.m2
 have m3 := hIB.m3
 have g1 := hIB.g1
 have g4 := hIB.g4
 have HIB := Lib.hid hIB
 clear hIB
 by_cases ca : 0 ≤ a ∧ a < (m.code.length : Int)
 ·have HD := Lib.hid (decide_eq_true ca)
  rw [if_neg (by simpa using ca)] at HC
  clear ca
  go_wp2_with fail
  refine (pin_any a m.code.length _).mono ?_
  rintro e w' ⟨rfl, rfl⟩
  rw [HD.out]
  go_wp2_with fail
  refine (uses_any _ _).mono ?_
  rintro e w4 ⟨rfl, hu4⟩
  have HU4 := Lib.hid ((HU.out).trans hu4)
  have j1 := ((HIB.out).upd hu4).i1
  have j2 := ((HIB.out).upd hu4).i2
  have j3 := ((HIB.out).upd hu4).i3
  have k5 := ((HIB.out).upd hu4).g5
  clear hu4
  rw [show decide (UA 23) = true by decide, show decide (UB 23) = false by decide, show decide ((23 : Int) = 1) = false by decide]
  go_wp2_with fail
  all_goals
   go_ret
   refine ⟨?_, HU4.out⟩
   first
    | refine ret_code _ 2 (by rfl) ?_
    | refine ret_code0 _ (by rfl) ?_
   rw [HC.out]
   simp_all
 ·have HD := Lib.hid (decide_eq_false ca)
  rw [if_pos ca] at HC
  clear ca
  go_wp2_with fail
  refine (pin_any a m.code.length _).mono ?_
  rintro e w' ⟨rfl, rfl⟩
  rw [HD.out]
  go_wp2_with fail
  go_ret
  exact ⟨ret_code _ 3 (by rfl) HC.out, HU.out⟩

set_option maxRecDepth 100000 in
set_option maxHeartbeats 4000000 in
theorem pinstr_loc3 (a b n : Int) (cs : List ByteArray) (m : Meth) (cp mp kp : Option Addr) (nm cc mc kc : Nat) (E : Nat → Addr) (w : World) (hS : SentAt w E) (_hp : m.params.size ≤ 1000) (_hl : m.locals.size ≤ 1000) (_h1 : cs.length ≤ 1000) (_h2 : nm ≤ 1000) (_h3 : m.code.length ≤ 1000000000) :
  Calls Tryd.prog 24 #[.agg #[.slice cp cs.length cc, .slice mp nm mc], .agg #[.string m.params, .string m.locals, .string m.ret, .slice kp m.code.length kc], .agg #[.int .i64 3, .int .i64 a, .int .i64 b, .int .i64 n]] w fun e w' => e = .returned (errC E (insCode cs nm m ⟨3, a, b, n⟩)) ∧ Upd [] w w' := by
 have hIB := IB.start w E (.slice cp cs.length cc) (.slice mp nm mc) (.slice kp m.code.length kc) m 3 a b n hS
 have HU := Lib.hid ((((Upd.refl [] w).alloc (.cells #[.slice cp cs.length cc, .slice mp nm mc] 36)).alloc (.cells #[.string m.params, .string m.locals, .string m.ret, .slice kp m.code.length kc] 32)).alloc (.cells #[.int .i64 3, .int .i64 a, .int .i64 b, .int .i64 n] 29))
 clear hS
 have HC : Hid (insCode cs nm m ⟨3, a, b, n⟩ = if ¬ (0 ≤ a ∧ a < ((bs (kindsL m)).size : Int)) then 103 else if b ≠ 0 ∨ n ≠ 0 then 103 else 0) := by
  show _ = _
  clear hIB HU
  have hk : ((bs (kindsL m)).size : Int) = (m.params.size : Int) + m.locals.size := by rw [kinds_size]; omega
  rw [hk]
  by_cases h0 : 0 ≤ a ∧ a < (m.params.size : Int) + m.locals.size
  ·have e1 : ¬ a < 0 := by omega
   have e2 : ¬ (m.params.size : Int) + m.locals.size ≤ a := by omega
   rw [if_neg (fun h => h h0)]
   simp [insCode, UA, UB, e1, e2]
  ·have e1 : a < 0 ∨ (m.params.size : Int) + m.locals.size ≤ a := by omega
   rw [if_pos h0]
   simp [insCode, e1]
 go_enter Tryd.func24, Tryd.ntmps24
 go_upto_region 1 with fail
 generalize (((w.alloc (.cells #[.slice cp cs.length cc, .slice mp nm mc] 36)).alloc (.cells #[.string m.params, .string m.locals, .string m.ret, .slice kp m.code.length kc] 32)).alloc (.cells #[.int .i64 3, .int .i64 a, .int .i64 b, .int .i64 n] 29)) = w3 at HU hIB ⊢
 have i0 := hIB.i0
 have i1 := hIB.i1
 have i2 := hIB.i2
 have i3 := hIB.i3
 have p0 := hIB.p0
 have p1 := hIB.p1
 have m0 := hIB.m0
 have m1 := hIB.m1
 have m2 := hIB.m2
 have m3 := hIB.m3
 have g1 := hIB.g1
 have g4 := hIB.g4
 have HIB := Lib.hid hIB
 clear hIB
 have HK := Lib.hid (kinds_any m (.slice kp m.code.length kc) w3.drew (by omega) (by omega))
 have hi0 : Five w3 (w.heap.size + 2) (w.heap.size + 1) a m kp kc := ⟨i1, m0, m1, m2, m3⟩
 have hi1 : Five w3.drew (w.heap.size + 2) (w.heap.size + 1) a m kp kc := hi0.upd (Upd.refl [] w3).drew
 have hks := kinds_size m
 have hks2 : (bs (kindsL m)).size ≤ 2000 := by omega
 clear hks
 generalize bs (kindsL m) = ks at HC HK hks2
 by_cases ca : 0 ≤ a ∧ a < (ks.size : Int)
 ·have HD := Lib.hid (fun w' => pin_is a ks.size true (decide_eq_true ca) w')
  rw [if_neg (by simpa using ca)] at HC
  clear ca
  go_wp2_with fail
  go_region_held3 (fun w' => Five w' (w.heap.size + 2) (w.heap.size + 1) a m kp kc)
   (first | exact hk0 | exact hi1 | exact hi0)
   ((first
    | (go_at_call 29; refine HK.out.mono ?_; rintro e w6 ⟨rfl, hu6⟩; have hk0 := hi1.upd hu6)
    | (go_at_call 37; refine (HD.out _).mono ?_; rintro e w' ⟨rfl, rfl⟩)))
  have HU6 := Lib.hid ((Upd.refl [] w3).drew.trans hu6)
  clear hu6 hk0
  have i0 := (HIB.out.upd HU6.out).i0
  go_wp2_with fail
  refine (uses_any _ _).mono ?_
  rintro e w4 ⟨rfl, hu4⟩
  have HU4 := Lib.hid ((HU.out.trans HU6.out).trans hu4)
  have j1 := ((HIB.out.upd HU6.out).upd hu4).i1
  have j2 := ((HIB.out.upd HU6.out).upd hu4).i2
  have j3 := ((HIB.out.upd HU6.out).upd hu4).i3
  have k5 := ((HIB.out.upd HU6.out).upd hu4).g5
  clear hu4
  rw [show decide (UA 3) = true by decide, show decide (UB 3) = false by decide, show decide ((3 : Int) = 1) = false by decide]
  go_wp2_with fail
  all_goals
   go_ret
   refine ⟨?_, HU4.out⟩
   first
    | refine ret_code _ 2 (by rfl) ?_
    | refine ret_code0 _ (by rfl) ?_
   rw [HC.out]
   simp_all
 ·have HD := Lib.hid (fun w' => pin_is a ks.size false (decide_eq_false ca) w')
  rw [if_pos ca] at HC
  clear ca
  go_wp2_with fail
  go_region_held3 (fun w' => Five w' (w.heap.size + 2) (w.heap.size + 1) a m kp kc)
   (first | exact hk0 | exact hi1 | exact hi0)
   ((first
    | (go_at_call 29; refine HK.out.mono ?_; rintro e w6 ⟨rfl, hu6⟩; have hk0 := hi1.upd hu6)
    | (go_at_call 37; refine (HD.out _).mono ?_; rintro e w' ⟨rfl, rfl⟩)))
  have HU6 := Lib.hid ((Upd.refl [] w3).drew.trans hu6)
  clear hu6 hk0
  have i0 := (HIB.out.upd HU6.out).i0
  go_wp2_with fail
  refine (uses_any _ _).mono ?_
  rintro e w4 ⟨rfl, hu4⟩
  have HU4 := Lib.hid ((HU.out.trans HU6.out).trans hu4)
  have j1 := ((HIB.out.upd HU6.out).upd hu4).i1
  have j2 := ((HIB.out.upd HU6.out).upd hu4).i2
  have j3 := ((HIB.out.upd HU6.out).upd hu4).i3
  have k5 := ((HIB.out.upd HU6.out).upd hu4).g5
  clear hu4
  rw [show decide (UA 3) = true by decide, show decide (UB 3) = false by decide, show decide ((3 : Int) = 1) = false by decide]
  go_wp2_with fail
  all_goals
   go_ret
   refine ⟨?_, HU4.out⟩
   first
    | refine ret_code _ 2 (by rfl) ?_
    | refine ret_code0 _ (by rfl) ?_
   rw [HC.out]
   simp_all

set_option maxRecDepth 100000 in
set_option maxHeartbeats 4000000 in
theorem pinstr_loc4 (a b n : Int) (cs : List ByteArray) (m : Meth) (cp mp kp : Option Addr) (nm cc mc kc : Nat) (E : Nat → Addr) (w : World) (hS : SentAt w E) (_hp : m.params.size ≤ 1000) (_hl : m.locals.size ≤ 1000) (_h1 : cs.length ≤ 1000) (_h2 : nm ≤ 1000) (_h3 : m.code.length ≤ 1000000000) :
  Calls Tryd.prog 24 #[.agg #[.slice cp cs.length cc, .slice mp nm mc], .agg #[.string m.params, .string m.locals, .string m.ret, .slice kp m.code.length kc], .agg #[.int .i64 4, .int .i64 a, .int .i64 b, .int .i64 n]] w fun e w' => e = .returned (errC E (insCode cs nm m ⟨4, a, b, n⟩)) ∧ Upd [] w w' := by
 have hIB := IB.start w E (.slice cp cs.length cc) (.slice mp nm mc) (.slice kp m.code.length kc) m 4 a b n hS
 have HU := Lib.hid ((((Upd.refl [] w).alloc (.cells #[.slice cp cs.length cc, .slice mp nm mc] 36)).alloc (.cells #[.string m.params, .string m.locals, .string m.ret, .slice kp m.code.length kc] 32)).alloc (.cells #[.int .i64 4, .int .i64 a, .int .i64 b, .int .i64 n] 29))
 clear hS
 have HC : Hid (insCode cs nm m ⟨4, a, b, n⟩ = if ¬ (0 ≤ a ∧ a < ((bs (kindsL m)).size : Int)) then 103 else if b ≠ 0 ∨ n ≠ 0 then 103 else 0) := by
  show _ = _
  clear hIB HU
  have hk : ((bs (kindsL m)).size : Int) = (m.params.size : Int) + m.locals.size := by rw [kinds_size]; omega
  rw [hk]
  by_cases h0 : 0 ≤ a ∧ a < (m.params.size : Int) + m.locals.size
  ·have e1 : ¬ a < 0 := by omega
   have e2 : ¬ (m.params.size : Int) + m.locals.size ≤ a := by omega
   rw [if_neg (fun h => h h0)]
   simp [insCode, UA, UB, e1, e2]
  ·have e1 : a < 0 ∨ (m.params.size : Int) + m.locals.size ≤ a := by omega
   rw [if_pos h0]
   simp [insCode, e1]
 go_enter Tryd.func24, Tryd.ntmps24
 go_upto_region 1 with fail
 generalize (((w.alloc (.cells #[.slice cp cs.length cc, .slice mp nm mc] 36)).alloc (.cells #[.string m.params, .string m.locals, .string m.ret, .slice kp m.code.length kc] 32)).alloc (.cells #[.int .i64 4, .int .i64 a, .int .i64 b, .int .i64 n] 29)) = w3 at HU hIB ⊢
 have i0 := hIB.i0
 have i1 := hIB.i1
 have i2 := hIB.i2
 have i3 := hIB.i3
 have p0 := hIB.p0
 have p1 := hIB.p1
 have m0 := hIB.m0
 have m1 := hIB.m1
 have m2 := hIB.m2
 have m3 := hIB.m3
 have g1 := hIB.g1
 have g4 := hIB.g4
 have HIB := Lib.hid hIB
 clear hIB
 have HK := Lib.hid (kinds_any m (.slice kp m.code.length kc) w3.drew (by omega) (by omega))
 have hi0 : Five w3 (w.heap.size + 2) (w.heap.size + 1) a m kp kc := ⟨i1, m0, m1, m2, m3⟩
 have hi1 : Five w3.drew (w.heap.size + 2) (w.heap.size + 1) a m kp kc := hi0.upd (Upd.refl [] w3).drew
 have hks := kinds_size m
 have hks2 : (bs (kindsL m)).size ≤ 2000 := by omega
 clear hks
 generalize bs (kindsL m) = ks at HC HK hks2
 by_cases ca : 0 ≤ a ∧ a < (ks.size : Int)
 ·have HD := Lib.hid (fun w' => pin_is a ks.size true (decide_eq_true ca) w')
  rw [if_neg (by simpa using ca)] at HC
  clear ca
  go_wp2_with fail
  go_region_held3 (fun w' => Five w' (w.heap.size + 2) (w.heap.size + 1) a m kp kc)
   (first | exact hk0 | exact hi1 | exact hi0)
   ((first
    | (go_at_call 29; refine HK.out.mono ?_; rintro e w6 ⟨rfl, hu6⟩; have hk0 := hi1.upd hu6)
    | (go_at_call 37; refine (HD.out _).mono ?_; rintro e w' ⟨rfl, rfl⟩)))
  have HU6 := Lib.hid ((Upd.refl [] w3).drew.trans hu6)
  clear hu6 hk0
  have i0 := (HIB.out.upd HU6.out).i0
  go_wp2_with fail
  refine (uses_any _ _).mono ?_
  rintro e w4 ⟨rfl, hu4⟩
  have HU4 := Lib.hid ((HU.out.trans HU6.out).trans hu4)
  have j1 := ((HIB.out.upd HU6.out).upd hu4).i1
  have j2 := ((HIB.out.upd HU6.out).upd hu4).i2
  have j3 := ((HIB.out.upd HU6.out).upd hu4).i3
  have k5 := ((HIB.out.upd HU6.out).upd hu4).g5
  clear hu4
  rw [show decide (UA 4) = true by decide, show decide (UB 4) = false by decide, show decide ((4 : Int) = 1) = false by decide]
  go_wp2_with fail
  all_goals
   go_ret
   refine ⟨?_, HU4.out⟩
   first
    | refine ret_code _ 2 (by rfl) ?_
    | refine ret_code0 _ (by rfl) ?_
   rw [HC.out]
   simp_all
 ·have HD := Lib.hid (fun w' => pin_is a ks.size false (decide_eq_false ca) w')
  rw [if_pos ca] at HC
  clear ca
  go_wp2_with fail
  go_region_held3 (fun w' => Five w' (w.heap.size + 2) (w.heap.size + 1) a m kp kc)
   (first | exact hk0 | exact hi1 | exact hi0)
   ((first
    | (go_at_call 29; refine HK.out.mono ?_; rintro e w6 ⟨rfl, hu6⟩; have hk0 := hi1.upd hu6)
    | (go_at_call 37; refine (HD.out _).mono ?_; rintro e w' ⟨rfl, rfl⟩)))
  have HU6 := Lib.hid ((Upd.refl [] w3).drew.trans hu6)
  clear hu6 hk0
  have i0 := (HIB.out.upd HU6.out).i0
  go_wp2_with fail
  refine (uses_any _ _).mono ?_
  rintro e w4 ⟨rfl, hu4⟩
  have HU4 := Lib.hid ((HU.out.trans HU6.out).trans hu4)
  have j1 := ((HIB.out.upd HU6.out).upd hu4).i1
  have j2 := ((HIB.out.upd HU6.out).upd hu4).i2
  have j3 := ((HIB.out.upd HU6.out).upd hu4).i3
  have k5 := ((HIB.out.upd HU6.out).upd hu4).g5
  clear hu4
  rw [show decide (UA 4) = true by decide, show decide (UB 4) = false by decide, show decide ((4 : Int) = 1) = false by decide]
  go_wp2_with fail
  all_goals
   go_ret
   refine ⟨?_, HU4.out⟩
   first
    | refine ret_code _ 2 (by rfl) ?_
    | refine ret_code0 _ (by rfl) ?_
   rw [HC.out]
   simp_all

end Go.Proofs.YtojobkhidlfeoaaDoor

/-! prog.instr at Get and Put; prog.instr whole. -/
namespace Go.Proofs.YtojobkhidlfeoaaDoor
open Go.RowKit

abbrev Four (w : World) (B : Nat) (cv : Value) (a b : Int) (ca : Addr) (fs : ByteArray) : Prop :=
 w.cell? ⟨B, 0, none⟩ = some cv ∧ w.cell? ⟨B + 2, 1, none⟩ = some (.int .i64 a) ∧ w.cell? ⟨B + 2, 2, none⟩ = some (.int .i64 b) ∧ w.cell? ca = some (.string fs)
theorem pin_q2 (i n : Int) (t : Bool) (h : decide (0 ≤ i ∧ i < n) = t) (k : Nat) (w : World) : Calls Tryd.prog 37 #[.int .i64 i, .int .i64 n] (w.drewN k) fun e w'' => e = .returned (.bool t) ∧ ∃ m, w'' = w.drewN m := by
 have := pin_q i n k w
 rwa [h] at this

set_option maxRecDepth 100000 in
set_option maxHeartbeats 4000000 in
theorem pinstr_fld25 (a b n : Int) (cs : List ByteArray) (m : Meth) (cp mp kp : Option Addr) (nm cc mc kc : Nat) (E : Nat → Addr) (w : World) (hS : SentAt w E) (hc : ClassAt w (.slice cp cs.length cc) cs) (hz : ∀ c ∈ cs, c.size ≤ 1000) (_hp : m.params.size ≤ 1000) (_hl : m.locals.size ≤ 1000) (_h1 : cs.length ≤ 1000) (_h2 : nm ≤ 1000) (_h3 : m.code.length ≤ 1000000000) :
  Calls Tryd.prog 24 #[.agg #[.slice cp cs.length cc, .slice mp nm mc], .agg #[.string m.params, .string m.locals, .string m.ret, .slice kp m.code.length kc], .agg #[.int .i64 25, .int .i64 a, .int .i64 b, .int .i64 n]] w fun e w' => e = .returned (errC E (insCode cs nm m ⟨25, a, b, n⟩)) ∧ Upd [] w w' := by
 have hIB := IB.start w E (.slice cp cs.length cc) (.slice mp nm mc) (.slice kp m.code.length kc) m 25 a b n hS
 have HU := Lib.hid ((((Upd.refl [] w).alloc (.cells #[.slice cp cs.length cc, .slice mp nm mc] 36)).alloc (.cells #[.string m.params, .string m.locals, .string m.ret, .slice kp m.code.length kc] 32)).alloc (.cells #[.int .i64 25, .int .i64 a, .int .i64 b, .int .i64 n] 29))
 clear hS
 have HC : Hid (insCode cs nm m ⟨25, a, b, n⟩ = if ¬ (0 ≤ a ∧ a < (cs.length : Int)) then 103 else if ¬ (0 ≤ b ∧ b < ((cs.getD a.toNat ByteArray.empty).size : Int)) then 103 else if n ≠ 0 then 103 else 0) := by
  show _ = _
  clear hIB HU hc hz
  have hz : insCode cs nm m ⟨25, a, b, n⟩ = if a < 0 ∨ (cs.length : Int) ≤ a ∨ b < 0 ∨ ((cs.getD a.toNat ByteArray.empty).size : Int) ≤ b then 103 else if n ≠ 0 then 103 else 0 := by simp [insCode, UA, UB]
  rw [hz]
  clear hz
  generalize (cs.getD a.toNat ByteArray.empty).size = z
  by_cases h0 : 0 ≤ a ∧ a < (cs.length : Int)
  ·by_cases h1 : 0 ≤ b ∧ b < (z : Int)
   ·rw [if_neg (by omega : ¬ (a < 0 ∨ (cs.length : Int) ≤ a ∨ b < 0 ∨ (z : Int) ≤ b)), if_neg (by omega : ¬ ¬ (0 ≤ a ∧ a < (cs.length : Int))), if_neg (by omega : ¬ ¬ (0 ≤ b ∧ b < (z : Int)))]
   ·rw [if_pos (by omega : a < 0 ∨ (cs.length : Int) ≤ a ∨ b < 0 ∨ (z : Int) ≤ b), if_neg (by omega : ¬ ¬ (0 ≤ a ∧ a < (cs.length : Int))), if_pos h1]
  ·rw [if_pos (by omega : a < 0 ∨ (cs.length : Int) ≤ a ∨ b < 0 ∨ (z : Int) ≤ b), if_pos h0]
 go_enter Tryd.func24, Tryd.ntmps24
 go_upto_region 1 with fail
 generalize (((w.alloc (.cells #[.slice cp cs.length cc, .slice mp nm mc] 36)).alloc (.cells #[.string m.params, .string m.locals, .string m.ret, .slice kp m.code.length kc] 32)).alloc (.cells #[.int .i64 25, .int .i64 a, .int .i64 b, .int .i64 n] 29)) = w3 at HU hIB ⊢
 have i0 := hIB.i0
 have i1 := hIB.i1
 have i2 := hIB.i2
 have i3 := hIB.i3
 have p0 := hIB.p0
 have p1 := hIB.p1
 have m0 := hIB.m0
 have m1 := hIB.m1
 have m2 := hIB.m2
 have m3 := hIB.m3
 have g1 := hIB.g1
 have g4 := hIB.g4
 have i0q := fun q => (hIB.upd ((Upd.refl [] w3).drewN q)).i0
 have HIB := Lib.hid hIB
 clear hIB
 by_cases ca : 0 ≤ a ∧ a < (cs.length : Int)
 ·obtain ⟨k, rfl⟩ := Int.eq_ofNat_of_zero_le ca.1
  have hk : k < cs.length := by omega
  rw [if_neg (fun h => h ca), Int.toNat_natCast] at HC
  obtain ⟨x1, x2, hcv, _, _, hccm, hcx⟩ := hc
  obtain ⟨cb, co, hcp, _, hcell⟩ := hcx k hk
  injection hcv with hcv1 _ _
  subst hcv1
  subst hcp
  have hzz := hz (cs.getD k ByteArray.empty) (by rw [List.getD_eq_getElem?_getD, List.getElem?_eq_getElem hk]; exact List.getElem_mem hk)
  have hcl := fun q => (HU.out.drewN q).cell hcell (by simp)
  have hcl0 := HU.out.cell hcell (by simp)
  generalize cs.getD k ByteArray.empty = fs at HC hzz hcl hcl0
  clear ca hcx hcell hz
  have hF0 : Four w3 w.heap.size (.slice (some ⟨cb, co, none⟩) cs.length cc) (k : Int) b ⟨cb, co + k, none⟩ fs := ⟨p0, i1, i2, hcl0⟩
  have hF1 : Four w3.drew w.heap.size (.slice (some ⟨cb, co, none⟩) cs.length cc) (k : Int) b ⟨cb, co + k, none⟩ fs := hF0
  have HDA := Lib.hid (decide_eq_true (show 0 ≤ (k : Int) ∧ (k : Int) < (cs.length : Int) from ⟨Int.natCast_nonneg _, by omega⟩))
  by_cases cb2 : 0 ≤ b ∧ b < (fs.size : Int)
  ·have HDB := Lib.hid (decide_eq_true cb2)
   rw [if_neg (fun h => h cb2)] at HC
   clear cb2
   go_wp2_with fail
   go_region_held3 (fun w' => Four w' w.heap.size (.slice (some ⟨cb, co, none⟩) cs.length cc) (k : Int) b ⟨cb, co + k, none⟩ fs)
    (first | exact hF1 | exact hF0)
    ((go_at_call 37; refine (pin_any _ _ _).mono ?_; rintro e w' ⟨rfl, rfl⟩; first | rw [HDA.out] | rw [HDB.out]))
   go_wp2_with fail
   refine (uses_any _ _).mono ?_
   rintro e w4 ⟨rfl, hu4⟩
   have HU4 := Lib.hid ((HU.out.drew).trans hu4)
   have j1 := ((HIB.out.upd (Upd.refl [] w3).drew).upd hu4).i1
   have j2 := ((HIB.out.upd (Upd.refl [] w3).drew).upd hu4).i2
   have j3 := ((HIB.out.upd (Upd.refl [] w3).drew).upd hu4).i3
   have k5 := ((HIB.out.upd (Upd.refl [] w3).drew).upd hu4).g5
   clear hu4
   rw [show decide (UA 25) = true by decide, show decide (UB 25) = true by decide, show decide ((25 : Int) = 1) = false by decide]
   go_wp2_with fail
   all_goals
    go_ret
    refine ⟨?_, HU4.out⟩
    first
     | refine ret_code _ 2 (by rfl) ?_
     | refine ret_code0 _ (by rfl) ?_
    rw [HC.out]
    simp_all
  ·have HDB := Lib.hid (decide_eq_false cb2)
   rw [if_pos cb2] at HC
   clear cb2
   go_wp2_with fail
   go_region_held3 (fun w' => Four w' w.heap.size (.slice (some ⟨cb, co, none⟩) cs.length cc) (k : Int) b ⟨cb, co + k, none⟩ fs)
    (first | exact hF1 | exact hF0)
    ((go_at_call 37; refine (pin_any _ _ _).mono ?_; rintro e w' ⟨rfl, rfl⟩; first | rw [HDA.out] | rw [HDB.out]))
   go_wp2_with fail
   refine (uses_any _ _).mono ?_
   rintro e w4 ⟨rfl, hu4⟩
   have HU4 := Lib.hid ((HU.out.drew).trans hu4)
   have j1 := ((HIB.out.upd (Upd.refl [] w3).drew).upd hu4).i1
   have j2 := ((HIB.out.upd (Upd.refl [] w3).drew).upd hu4).i2
   have j3 := ((HIB.out.upd (Upd.refl [] w3).drew).upd hu4).i3
   have k5 := ((HIB.out.upd (Upd.refl [] w3).drew).upd hu4).g5
   clear hu4
   rw [show decide (UA 25) = true by decide, show decide (UB 25) = true by decide, show decide ((25 : Int) = 1) = false by decide]
   go_wp2_with fail
   all_goals
    go_ret
    refine ⟨?_, HU4.out⟩
    first
     | refine ret_code _ 2 (by rfl) ?_
     | refine ret_code0 _ (by rfl) ?_
    rw [HC.out]
    simp_all
 ·rw [if_pos ca] at HC
  have HDA := Lib.hid (fun q w' => pin_q2 a cs.length false (decide_eq_false ca) q w')
  clear hc hz ca
  go_wp2_with fail
  go_quiet ((go_at_call 37; exact HDA.out _ _))
  go_wp2_with fail
  refine (uses_any _ _).mono ?_
  rintro e w4 ⟨rfl, hu4⟩
  have HU4 := Lib.hid ((HU.out.drewN _).trans hu4)
  have j1 := ((HIB.out.upd ((Upd.refl [] w3).drewN _)).upd hu4).i1
  have j2 := ((HIB.out.upd ((Upd.refl [] w3).drewN _)).upd hu4).i2
  have j3 := ((HIB.out.upd ((Upd.refl [] w3).drewN _)).upd hu4).i3
  have k5 := ((HIB.out.upd ((Upd.refl [] w3).drewN _)).upd hu4).g5
  clear hu4
  rw [show decide (UA 25) = true by decide, show decide (UB 25) = true by decide, show decide ((25 : Int) = 1) = false by decide]
  go_wp2_with fail
  all_goals
   go_ret
   refine ⟨?_, HU4.out⟩
   first
    | refine ret_code _ 2 (by rfl) ?_
    | refine ret_code0 _ (by rfl) ?_
   rw [HC.out]
   simp_all

set_option maxRecDepth 100000 in
set_option maxHeartbeats 4000000 in
theorem pinstr_fld26 (a b n : Int) (cs : List ByteArray) (m : Meth) (cp mp kp : Option Addr) (nm cc mc kc : Nat) (E : Nat → Addr) (w : World) (hS : SentAt w E) (hc : ClassAt w (.slice cp cs.length cc) cs) (hz : ∀ c ∈ cs, c.size ≤ 1000) (_hp : m.params.size ≤ 1000) (_hl : m.locals.size ≤ 1000) (_h1 : cs.length ≤ 1000) (_h2 : nm ≤ 1000) (_h3 : m.code.length ≤ 1000000000) :
  Calls Tryd.prog 24 #[.agg #[.slice cp cs.length cc, .slice mp nm mc], .agg #[.string m.params, .string m.locals, .string m.ret, .slice kp m.code.length kc], .agg #[.int .i64 26, .int .i64 a, .int .i64 b, .int .i64 n]] w fun e w' => e = .returned (errC E (insCode cs nm m ⟨26, a, b, n⟩)) ∧ Upd [] w w' := by
 have hIB := IB.start w E (.slice cp cs.length cc) (.slice mp nm mc) (.slice kp m.code.length kc) m 26 a b n hS
 have HU := Lib.hid ((((Upd.refl [] w).alloc (.cells #[.slice cp cs.length cc, .slice mp nm mc] 36)).alloc (.cells #[.string m.params, .string m.locals, .string m.ret, .slice kp m.code.length kc] 32)).alloc (.cells #[.int .i64 26, .int .i64 a, .int .i64 b, .int .i64 n] 29))
 clear hS
 have HC : Hid (insCode cs nm m ⟨26, a, b, n⟩ = if ¬ (0 ≤ a ∧ a < (cs.length : Int)) then 103 else if ¬ (0 ≤ b ∧ b < ((cs.getD a.toNat ByteArray.empty).size : Int)) then 103 else if n ≠ 0 then 103 else 0) := by
  show _ = _
  clear hIB HU hc hz
  have hz : insCode cs nm m ⟨26, a, b, n⟩ = if a < 0 ∨ (cs.length : Int) ≤ a ∨ b < 0 ∨ ((cs.getD a.toNat ByteArray.empty).size : Int) ≤ b then 103 else if n ≠ 0 then 103 else 0 := by simp [insCode, UA, UB]
  rw [hz]
  clear hz
  generalize (cs.getD a.toNat ByteArray.empty).size = z
  by_cases h0 : 0 ≤ a ∧ a < (cs.length : Int)
  ·by_cases h1 : 0 ≤ b ∧ b < (z : Int)
   ·rw [if_neg (by omega : ¬ (a < 0 ∨ (cs.length : Int) ≤ a ∨ b < 0 ∨ (z : Int) ≤ b)), if_neg (by omega : ¬ ¬ (0 ≤ a ∧ a < (cs.length : Int))), if_neg (by omega : ¬ ¬ (0 ≤ b ∧ b < (z : Int)))]
   ·rw [if_pos (by omega : a < 0 ∨ (cs.length : Int) ≤ a ∨ b < 0 ∨ (z : Int) ≤ b), if_neg (by omega : ¬ ¬ (0 ≤ a ∧ a < (cs.length : Int))), if_pos h1]
  ·rw [if_pos (by omega : a < 0 ∨ (cs.length : Int) ≤ a ∨ b < 0 ∨ (z : Int) ≤ b), if_pos h0]
 go_enter Tryd.func24, Tryd.ntmps24
 go_upto_region 1 with fail
 generalize (((w.alloc (.cells #[.slice cp cs.length cc, .slice mp nm mc] 36)).alloc (.cells #[.string m.params, .string m.locals, .string m.ret, .slice kp m.code.length kc] 32)).alloc (.cells #[.int .i64 26, .int .i64 a, .int .i64 b, .int .i64 n] 29)) = w3 at HU hIB ⊢
 have i0 := hIB.i0
 have i1 := hIB.i1
 have i2 := hIB.i2
 have i3 := hIB.i3
 have p0 := hIB.p0
 have p1 := hIB.p1
 have m0 := hIB.m0
 have m1 := hIB.m1
 have m2 := hIB.m2
 have m3 := hIB.m3
 have g1 := hIB.g1
 have g4 := hIB.g4
 have i0q := fun q => (hIB.upd ((Upd.refl [] w3).drewN q)).i0
 have HIB := Lib.hid hIB
 clear hIB
 by_cases ca : 0 ≤ a ∧ a < (cs.length : Int)
 ·obtain ⟨k, rfl⟩ := Int.eq_ofNat_of_zero_le ca.1
  have hk : k < cs.length := by omega
  rw [if_neg (fun h => h ca), Int.toNat_natCast] at HC
  obtain ⟨x1, x2, hcv, _, _, hccm, hcx⟩ := hc
  obtain ⟨cb, co, hcp, _, hcell⟩ := hcx k hk
  injection hcv with hcv1 _ _
  subst hcv1
  subst hcp
  have hzz := hz (cs.getD k ByteArray.empty) (by rw [List.getD_eq_getElem?_getD, List.getElem?_eq_getElem hk]; exact List.getElem_mem hk)
  have hcl := fun q => (HU.out.drewN q).cell hcell (by simp)
  have hcl0 := HU.out.cell hcell (by simp)
  generalize cs.getD k ByteArray.empty = fs at HC hzz hcl hcl0
  clear ca hcx hcell hz
  have hF0 : Four w3 w.heap.size (.slice (some ⟨cb, co, none⟩) cs.length cc) (k : Int) b ⟨cb, co + k, none⟩ fs := ⟨p0, i1, i2, hcl0⟩
  have hF1 : Four w3.drew w.heap.size (.slice (some ⟨cb, co, none⟩) cs.length cc) (k : Int) b ⟨cb, co + k, none⟩ fs := hF0
  have HDA := Lib.hid (decide_eq_true (show 0 ≤ (k : Int) ∧ (k : Int) < (cs.length : Int) from ⟨Int.natCast_nonneg _, by omega⟩))
  by_cases cb2 : 0 ≤ b ∧ b < (fs.size : Int)
  ·have HDB := Lib.hid (decide_eq_true cb2)
   rw [if_neg (fun h => h cb2)] at HC
   clear cb2
   go_wp2_with fail
   go_region_held3 (fun w' => Four w' w.heap.size (.slice (some ⟨cb, co, none⟩) cs.length cc) (k : Int) b ⟨cb, co + k, none⟩ fs)
    (first | exact hF1 | exact hF0)
    ((go_at_call 37; refine (pin_any _ _ _).mono ?_; rintro e w' ⟨rfl, rfl⟩; first | rw [HDA.out] | rw [HDB.out]))
   go_wp2_with fail
   refine (uses_any _ _).mono ?_
   rintro e w4 ⟨rfl, hu4⟩
   have HU4 := Lib.hid ((HU.out.drew).trans hu4)
   have j1 := ((HIB.out.upd (Upd.refl [] w3).drew).upd hu4).i1
   have j2 := ((HIB.out.upd (Upd.refl [] w3).drew).upd hu4).i2
   have j3 := ((HIB.out.upd (Upd.refl [] w3).drew).upd hu4).i3
   have k5 := ((HIB.out.upd (Upd.refl [] w3).drew).upd hu4).g5
   clear hu4
   rw [show decide (UA 26) = true by decide, show decide (UB 26) = true by decide, show decide ((26 : Int) = 1) = false by decide]
   go_wp2_with fail
   all_goals
    go_ret
    refine ⟨?_, HU4.out⟩
    first
     | refine ret_code _ 2 (by rfl) ?_
     | refine ret_code0 _ (by rfl) ?_
    rw [HC.out]
    simp_all
  ·have HDB := Lib.hid (decide_eq_false cb2)
   rw [if_pos cb2] at HC
   clear cb2
   go_wp2_with fail
   go_region_held3 (fun w' => Four w' w.heap.size (.slice (some ⟨cb, co, none⟩) cs.length cc) (k : Int) b ⟨cb, co + k, none⟩ fs)
    (first | exact hF1 | exact hF0)
    ((go_at_call 37; refine (pin_any _ _ _).mono ?_; rintro e w' ⟨rfl, rfl⟩; first | rw [HDA.out] | rw [HDB.out]))
   go_wp2_with fail
   refine (uses_any _ _).mono ?_
   rintro e w4 ⟨rfl, hu4⟩
   have HU4 := Lib.hid ((HU.out.drew).trans hu4)
   have j1 := ((HIB.out.upd (Upd.refl [] w3).drew).upd hu4).i1
   have j2 := ((HIB.out.upd (Upd.refl [] w3).drew).upd hu4).i2
   have j3 := ((HIB.out.upd (Upd.refl [] w3).drew).upd hu4).i3
   have k5 := ((HIB.out.upd (Upd.refl [] w3).drew).upd hu4).g5
   clear hu4
   rw [show decide (UA 26) = true by decide, show decide (UB 26) = true by decide, show decide ((26 : Int) = 1) = false by decide]
   go_wp2_with fail
   all_goals
    go_ret
    refine ⟨?_, HU4.out⟩
    first
     | refine ret_code _ 2 (by rfl) ?_
     | refine ret_code0 _ (by rfl) ?_
    rw [HC.out]
    simp_all
 ·rw [if_pos ca] at HC
  have HDA := Lib.hid (fun q w' => pin_q2 a cs.length false (decide_eq_false ca) q w')
  clear hc hz ca
  go_wp2_with fail
  go_quiet ((go_at_call 37; exact HDA.out _ _))
  go_wp2_with fail
  refine (uses_any _ _).mono ?_
  rintro e w4 ⟨rfl, hu4⟩
  have HU4 := Lib.hid ((HU.out.drewN _).trans hu4)
  have j1 := ((HIB.out.upd ((Upd.refl [] w3).drewN _)).upd hu4).i1
  have j2 := ((HIB.out.upd ((Upd.refl [] w3).drewN _)).upd hu4).i2
  have j3 := ((HIB.out.upd ((Upd.refl [] w3).drewN _)).upd hu4).i3
  have k5 := ((HIB.out.upd ((Upd.refl [] w3).drewN _)).upd hu4).g5
  clear hu4
  rw [show decide (UA 26) = true by decide, show decide (UB 26) = true by decide, show decide ((26 : Int) = 1) = false by decide]
  go_wp2_with fail
  all_goals
   go_ret
   refine ⟨?_, HU4.out⟩
   first
    | refine ret_code _ 2 (by rfl) ?_
    | refine ret_code0 _ (by rfl) ?_
   rw [HC.out]
   simp_all

/-- prog.instr, whole. -/
theorem pinstr_any (m : Meth) (x : Ins) (cs : List ByteArray) (cv : Value) (mp kp : Option Addr) (nm mc kc : Nat) (E : Nat → Addr) (w : World) (hS : SentAt w E) (hc : ClassAt w cv cs) (hz : ∀ c ∈ cs, c.size ≤ 1000) (hp : m.params.size ≤ 1000) (hl : m.locals.size ≤ 1000) (h1 : cs.length ≤ 1000) (h2 : nm ≤ 1000) (h3 : m.code.length ≤ 1000000000) :
  Calls Tryd.prog 24 #[.agg #[cv, .slice mp nm mc], .agg #[.string m.params, .string m.locals, .string m.ret, .slice kp m.code.length kc], .agg #[.int .i64 x.op, .int .i64 x.a, .int .i64 x.b, .int .i64 x.n]] w fun e w' => e = .returned (errC E (insCode cs nm m x)) ∧ Upd [] w w' := by
 obtain ⟨op, a, b, n⟩ := x
 obtain ⟨cp, cc, rfl⟩ : ∃ cp cc, cv = .slice cp cs.length cc := by obtain ⟨cp, cc, h, _⟩ := hc; exact ⟨cp, cc, h⟩
 simp only
 by_cases hb : op < 1 ∨ 35 < op
 ·exact pinstr_bad op a b n hb cs m cp mp kp nm cc mc kc E w hS hp hl h1 h2 h3
 have hcase : op = 3 ∨ op = 4 ∨ op = 22 ∨ op = 23 ∨ op = 24 ∨ op = 25 ∨ op = 26 ∨ op = 27 ∨ op = 28 ∨ op = 29 ∨ op = 30 ∨ op = 32 ∨ ¬ UA op := by
  unfold UA
  omega
 rcases hcase with rfl | rfl | rfl | rfl | rfl | rfl | rfl | rfl | rfl | rfl | rfl | rfl | hu
 ·exact pinstr_loc3 a b n cs m cp mp kp nm cc mc kc E w hS hp hl h1 h2 h3
 ·exact pinstr_loc4 a b n cs m cp mp kp nm cc mc kc E w hS hp hl h1 h2 h3
 ·exact pinstr_jump22 a b n cs m cp mp kp nm cc mc kc E w hS hp hl h1 h2 h3
 ·exact pinstr_jump23 a b n cs m cp mp kp nm cc mc kc E w hS hp hl h1 h2 h3
 ·exact pinstr_cls24 a b n cs m cp mp kp nm cc mc kc E w hS hp hl h1 h2 h3
 ·exact pinstr_fld25 a b n cs m cp mp kp nm cc mc kc E w hS hc hz hp hl h1 h2 h3
 ·exact pinstr_fld26 a b n cs m cp mp kp nm cc mc kc E w hS hc hz hp hl h1 h2 h3
 ·exact pinstr_cls27 a b n cs m cp mp kp nm cc mc kc E w hS hp hl h1 h2 h3
 ·exact pinstr_arr28 a b n cs m cp mp kp nm cc mc kc E w hS hp hl h1 h2 h3
 ·exact pinstr_arr29 a b n cs m cp mp kp nm cc mc kc E w hS hp hl h1 h2 h3
 ·exact pinstr_arr30 a b n cs m cp mp kp nm cc mc kc E w hS hp hl h1 h2 h3
 ·exact pinstr_call a b n cs m cp mp kp nm cc mc kc E w hS hp hl h1 h2 h3
 ·have q : ∀ k : Int, (∀ h : op = k, UA op) → (op == k) = false := fun k h => by rw [beq_eq_false_iff_ne]; exact fun e => hu (h e)
  have hub : ¬ UB op := fun h => hu (by unfold UA; unfold UB at h; omega)
  exact pinstr_plain op a b n (by omega) (by omega) hu hub (q 3 (by intro h; subst h; decide)) (q 4 (by intro h; subst h; decide)) (q 22 (by intro h; subst h; decide)) (q 23 (by intro h; subst h; decide)) (q 24 (by intro h; subst h; decide)) (q 25 (by intro h; subst h; decide)) (q 26 (by intro h; subst h; decide)) (q 27 (by intro h; subst h; decide)) (q 28 (by intro h; subst h; decide)) (q 29 (by intro h; subst h; decide)) (q 30 (by intro h; subst h; decide)) (q 32 (by intro h; subst h; decide)) cs m cp mp kp nm cc mc kc E w hS hp hl h1 h2 h3
end Go.Proofs.YtojobkhidlfeoaaDoor
