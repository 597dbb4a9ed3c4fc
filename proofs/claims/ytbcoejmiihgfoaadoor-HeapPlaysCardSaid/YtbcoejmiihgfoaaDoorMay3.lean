/- overdriveref3.May and what it calls: what they compute; their walks. overdriveref3.instr where a class is named. overdriveref3.May: the walk. -/
import Derived.Test.YtbcoejmiihgfoaaDoorVerL
import Derived.Test.YtbcoejmiihgfoaaDoorRows
import Derived.Deep.QuietTactic
import Derived.BigQuiet
import Derived.StillTailTactics
import Derived.Test.YtbcoejmiihgfoaaDoorFaultA
import Derived.Deep.DeepCutAuto
/-! overdriveref3.May and what it calls: what they compute; their walks. -/
namespace Go.Proofs.YtbcoejmiihgfoaaDoor
open Go.RowKit

set_option maxHeartbeats 400000 in
theorem letters_any (s : ByteArray) (w : World) (hs : s.size ≤ 1000000) :
  Calls Tryd.prog 27 #[.string s] w fun e w' => e = .returned (.bool (lettersB s)) ∧ w = w' := by
 go_enter Tryd.func27, Tryd.ntmps27
 go_wp2_with fail
 go_loopw [3] (fun i wr => ∃ k : Nat, k ≤ s.size ∧ i = .int .i64 k ∧ w = wr ∧ Hid (∀ j, j < k → s.get! j = 73 ∨ s.get! j = 82)) (fun i _ => s.size - (intOf i).toNat)
 case atStart => exact ⟨0, by omega, rfl, rfl, (fun j hj => by omega : ∀ j, j < 0 → _)⟩
 case round =>
  obtain ⟨k, hk, rfl, rfl, HK⟩ := hrel
  by_cases hlt : k < s.size
  ·have h1 := byte_ne s k 73 hlt
   have h2 := byte_ne s k 82 hlt
   by_cases c1 : s.get! k = 73
   ·have e1 : ((((s[k]'hlt).toNat : Nat) : Int) != 73) = false := by
     have := h1; simpa [c1] using this
    have C1 := Lib.hid c1
    clear h1 h2 c1
    go_wp2_with fail
    go_roundw
    case rel =>
     refine ⟨k + 1, by omega, by go_num, trivial, (fun j hj => ?_ : ∀ j, j < k + 1 → _)⟩
     by_cases e : j = k
     ·subst e; exact .inl C1.out
     ·exact HK.out j (by omega)
    case measure => simp [intOf]; omega
   ·by_cases c2 : s.get! k = 82
    ·have e1 : ((((s[k]'hlt).toNat : Nat) : Int) != 73) = true := by
      have := h1; simpa [c1] using this
     have e2 : ((((s[k]'hlt).toNat : Nat) : Int) != 82) = false := by
      have := h2; simpa [c2] using this
     have C1 := Lib.hid c2
     clear h1 h2 c1 c2
     go_wp2_with fail
     go_roundw
     case rel =>
      refine ⟨k + 1, by omega, by go_num, trivial, (fun j hj => ?_ : ∀ j, j < k + 1 → _)⟩
      by_cases e : j = k
      ·subst e; exact .inr C1.out
      ·exact HK.out j (by omega)
     case measure => simp [intOf]; omega
    ·have e1 : ((((s[k]'hlt).toNat : Nat) : Int) != 73) = true := by
      have := h1; simpa [c1] using this
     have e2 : ((((s[k]'hlt).toNat : Nat) : Int) != 82) = true := by
      have := h2; simpa [c2] using this
     have C1 := Lib.hid c1
     have C2 := Lib.hid c2
     clear h1 h2 c1 c2
     go_wp2_with fail
     go_ret
     have : lettersB s = false := by
      cases h : lettersB s with
      | false => rfl
      | true =>
       rcases lettersB_true.1 h k hlt with h | h
       ·exact absurd h C1.out
       ·exact absurd h C2.out
     exact ⟨by rw [this]; rfl, rfl⟩
  ·obtain rfl : k = s.size := by omega
   go_wp2_with fail
   go_ret
   exact ⟨by rw [lettersB_true.2 HK.out]; rfl, rfl⟩

set_option maxHeartbeats 400000 in
theorem usesA_any (op : Int) (w : World) : Calls Tryd.prog 47 #[.int .i64 op] w fun e w' => e = .returned (.bool (decide (UA op))) ∧ w = w' := by
 go_enter Tryd.func47, Tryd.ntmps47
 go_wp2_with fail
 all_goals go_ret
 all_goals refine ⟨?_, rfl⟩
 all_goals first | (show Ending.returned (.bool true) = _; rw [decide_eq_true (by unfold UA; simp_all)]) | (show Ending.returned (.bool false) = _; rw [decide_eq_false (by unfold UA; simp_all)])

set_option maxHeartbeats 400000 in
theorem usesB_any (op : Int) (w : World) : Calls Tryd.prog 46 #[.int .i64 op] w fun e w' => e = .returned (.bool (decide (UB op))) ∧ w = w' := by
 go_enter Tryd.func46, Tryd.ntmps46
 go_wp2_with fail
 all_goals go_ret
 all_goals refine ⟨?_, rfl⟩
 all_goals first | (show Ending.returned (.bool true) = _; rw [decide_eq_true (by unfold UB; simp_all)]) | (show Ending.returned (.bool false) = _; rw [decide_eq_false (by unfold UB; simp_all)]) | (show Ending.returned (.bool (op == 25 || op == 26)) = _; congr 2; rw [Bool.eq_iff_iff, decide_eq_true_eq]; simp [UB])

set_option maxHeartbeats 1000000 in
theorem instr_bad (cv mv : Value) (m : Meth) (kv : Value) (x : Ins) (w : World) (h : x.op < 1 ∨ 35 < x.op) (_hp : m.params.size ≤ 1000) (_hl : m.locals.size ≤ 1000) :
  Calls Tryd.prog 28 #[.agg #[cv, mv], .agg #[.string m.params, .string m.locals, .string m.ret, kv], .agg #[.int .i64 x.op, .int .i64 x.a, .int .i64 x.b, .int .i64 x.n]] w fun e w' => e = .returned (.int .i64 102) ∧ Upd [] w w' := by
 by_cases h1 : x.op < 1
 ·go_enter Tryd.func28, Tryd.ntmps28
  go_wp2_with fail
  go_ret
  exact ⟨rfl, (((Upd.refl _ _).alloc _).alloc _).alloc _⟩
 ·have h2 : 35 < x.op := by omega
  go_enter Tryd.func28, Tryd.ntmps28
  go_wp2_with fail
  go_ret
  exact ⟨rfl, (((Upd.refl _ _).alloc _).alloc _).alloc _⟩

set_option maxRecDepth 100000 in
set_option maxHeartbeats 1000000 in
theorem instr_plain (op a b n : Int) (_h1 : 1 ≤ op) (_h35 : op ≤ 35) (ha : ¬ UA op) (hb : ¬ UB op) (e3 : (op == 3) = false) (e4 : (op == 4) = false) (e22 : (op == 22) = false) (e23 : (op == 23) = false) (e24 : (op == 24) = false) (e25 : (op == 25) = false) (e26 : (op == 26) = false) (e27 : (op == 27) = false)
  (e28 : (op == 28) = false) (e29 : (op == 29) = false) (e30 : (op == 30) = false) (e32 : (op == 32) = false) (cv mv : Value) (m : Meth) (kv : Value) (cs : List ByteArray) (nm : Nat) (w : World) (_hp : m.params.size ≤ 1000) (_hl : m.locals.size ≤ 1000) :
  Calls Tryd.prog 28 #[.agg #[cv, mv], .agg #[.string m.params, .string m.locals, .string m.ret, kv], .agg #[.int .i64 op, .int .i64 a, .int .i64 b, .int .i64 n]] w fun e w' => e = .returned (.int .i64 (insCode cs nm m ⟨op, a, b, n⟩)) ∧ Upd [] w w' := by
 have HC : Hid (insCode cs nm m ⟨op, a, b, n⟩ = if a ≠ 0 ∨ b ≠ 0 ∨ op ≠ 1 ∧ n ≠ 0 then 103 else 0) := by
  show _ = _
  simp only [beq_eq_false_iff_ne] at *
  simp [insCode, *]
  omega
 go_enter Tryd.func28, Tryd.ntmps28
 go_wp2_with (first | (go_at_call 47; refine (usesA_any _ _).mono ?_; rintro e w' ⟨rfl, rfl⟩) | (go_at_call 46; refine (usesB_any _ _).mono ?_; rintro e w' ⟨rfl, rfl⟩))
 all_goals go_ret
 all_goals refine ⟨ret_int3 ?_, (((Upd.refl _ _).alloc _).alloc _).alloc _⟩
 all_goals rw [HC.out]
 all_goals simp_all

set_option maxRecDepth 100000 in
set_option maxHeartbeats 1000000 in
theorem instr_local (op a b n : Int) (hop : op = 3 ∨ op = 4) (cv mv : Value) (m : Meth) (kv : Value) (cs : List ByteArray) (nm : Nat) (w : World) (_hp : m.params.size ≤ 1000) (_hl : m.locals.size ≤ 1000) :
  Calls Tryd.prog 28 #[.agg #[cv, mv], .agg #[.string m.params, .string m.locals, .string m.ret, kv], .agg #[.int .i64 op, .int .i64 a, .int .i64 b, .int .i64 n]] w fun e w' => e = .returned (.int .i64 (insCode cs nm m ⟨op, a, b, n⟩)) ∧ Upd [] w w' := by
 have HC : Hid (insCode cs nm m ⟨op, a, b, n⟩ = if a < 0 ∨ (m.params.size : Int) + m.locals.size ≤ a then 103 else if b ≠ 0 ∨ n ≠ 0 then 103 else 0) := by
  show _ = _
  rcases hop with rfl | rfl <;> simp [insCode, UA, UB]
 rcases hop with rfl | rfl
 all_goals
  go_enter Tryd.func28, Tryd.ntmps28
  go_wp2_with (first | (go_at_call 47; refine (usesA_any _ _).mono ?_; rintro e w' ⟨rfl, rfl⟩) | (go_at_call 46; refine (usesB_any _ _).mono ?_; rintro e w' ⟨rfl, rfl⟩))
 all_goals go_ret
 all_goals refine ⟨ret_int3 ?_, (((Upd.refl _ _).alloc _).alloc _).alloc _⟩
 all_goals rw [HC.out]
 all_goals simp_all [UA, UB]
 all_goals omega

set_option maxRecDepth 100000 in
set_option maxHeartbeats 1000000 in
theorem instr_arr (op a b n : Int) (hop : op = 28 ∨ op = 29 ∨ op = 30) (cv mv : Value) (m : Meth) (kv : Value) (cs : List ByteArray) (nm : Nat) (w : World) (_hp : m.params.size ≤ 1000) (_hl : m.locals.size ≤ 1000) :
  Calls Tryd.prog 28 #[.agg #[cv, mv], .agg #[.string m.params, .string m.locals, .string m.ret, kv], .agg #[.int .i64 op, .int .i64 a, .int .i64 b, .int .i64 n]] w fun e w' => e = .returned (.int .i64 (insCode cs nm m ⟨op, a, b, n⟩)) ∧ Upd [] w w' := by
 have HC : Hid (insCode cs nm m ⟨op, a, b, n⟩ = if a ≠ 0 ∧ a ≠ 1 then 103 else if b ≠ 0 ∨ n ≠ 0 then 103 else 0) := by
  show _ = _
  rcases hop with rfl | rfl | rfl <;> simp [insCode, UA, UB]
 rcases hop with rfl | rfl | rfl
 all_goals
  go_enter Tryd.func28, Tryd.ntmps28
  go_wp2_with (first | (go_at_call 47; refine (usesA_any _ _).mono ?_; rintro e w' ⟨rfl, rfl⟩) | (go_at_call 46; refine (usesB_any _ _).mono ?_; rintro e w' ⟨rfl, rfl⟩))
 all_goals go_ret
 all_goals refine ⟨ret_int3 ?_, (((Upd.refl _ _).alloc _).alloc _).alloc _⟩
 all_goals rw [HC.out]
 all_goals simp_all [UA, UB]
 all_goals omega

set_option maxRecDepth 100000 in
set_option maxHeartbeats 1000000 in
theorem instr_call (op a b n : Int) (hop : op = 32) (cv : Value) (m : Meth) (kv : Value) (mp : Option Addr) (mc : Nat) (cs : List ByteArray) (nm : Nat) (w : World) (_hp : m.params.size ≤ 1000) (_hl : m.locals.size ≤ 1000) :
  Calls Tryd.prog 28 #[.agg #[cv, .slice mp nm mc], .agg #[.string m.params, .string m.locals, .string m.ret, kv], .agg #[.int .i64 op, .int .i64 a, .int .i64 b, .int .i64 n]] w fun e w' => e = .returned (.int .i64 (insCode cs nm m ⟨op, a, b, n⟩)) ∧ Upd [] w w' := by
 have HC : Hid (insCode cs nm m ⟨op, a, b, n⟩ = if a < 1 ∨ (nm : Int) ≤ a then 103 else if b ≠ 0 ∨ n ≠ 0 then 103 else 0) := by
  show _ = _
  rcases hop with rfl <;> simp [insCode, UA, UB]
 rcases hop with rfl
 all_goals
  go_enter Tryd.func28, Tryd.ntmps28
  go_wp2_with (first | (go_at_call 47; refine (usesA_any _ _).mono ?_; rintro e w' ⟨rfl, rfl⟩) | (go_at_call 46; refine (usesB_any _ _).mono ?_; rintro e w' ⟨rfl, rfl⟩))
 all_goals go_ret
 all_goals refine ⟨ret_int3 ?_, (((Upd.refl _ _).alloc _).alloc _).alloc _⟩
 all_goals rw [HC.out]
 all_goals simp_all [UA, UB]
 all_goals omega

set_option maxRecDepth 100000 in
set_option maxHeartbeats 1000000 in
theorem instr_jump (op a b n : Int) (hop : op = 22 ∨ op = 23) (cv mv : Value) (m : Meth) (kp : Option Addr) (kc : Nat) (cs : List ByteArray) (nm : Nat) (w : World) (_hp : m.params.size ≤ 1000) (_hl : m.locals.size ≤ 1000) :
  Calls Tryd.prog 28 #[.agg #[cv, mv], .agg #[.string m.params, .string m.locals, .string m.ret, .slice kp m.code.length kc], .agg #[.int .i64 op, .int .i64 a, .int .i64 b, .int .i64 n]] w fun e w' => e = .returned (.int .i64 (insCode cs nm m ⟨op, a, b, n⟩)) ∧ Upd [] w w' := by
 have HC : Hid (insCode cs nm m ⟨op, a, b, n⟩ = if a < 0 ∨ (m.code.length : Int) ≤ a then 104 else if b ≠ 0 ∨ n ≠ 0 then 103 else 0) := by
  show _ = _
  rcases hop with rfl | rfl <;> simp [insCode, UA, UB]
 rcases hop with rfl | rfl
 all_goals
  go_enter Tryd.func28, Tryd.ntmps28
  go_wp2_with (first | (go_at_call 47; refine (usesA_any _ _).mono ?_; rintro e w' ⟨rfl, rfl⟩) | (go_at_call 46; refine (usesB_any _ _).mono ?_; rintro e w' ⟨rfl, rfl⟩))
 all_goals go_ret
 all_goals refine ⟨ret_int3 ?_, (((Upd.refl _ _).alloc _).alloc _).alloc _⟩
 all_goals rw [HC.out]
 all_goals simp_all [UA, UB]
 all_goals omega

end Go.Proofs.YtbcoejmiihgfoaaDoor

/-! overdriveref3.instr where a class is named. -/
namespace Go.Proofs.YtbcoejmiihgfoaaDoor
open Go.RowKit

theorem quiet_same {P : Program} {f : FuncId} {args : Array Value} {w : World} {n : Nat} {v : Value}
  (h : Calls P f args (w.drewN n) fun e w' => e = .returned v ∧ w.drewN n = w') : Calls P f args (w.drewN n) fun e w'' => e = .returned v ∧ ∃ m, w'' = w.drewN m :=
 h.mono fun _ _ ⟨he, hm⟩ => ⟨he, n, hm.symm⟩
theorem ub_no (op : Int) (n : Nat) (h : ¬ UB op) (w : World) : Calls Tryd.prog 46 #[.int .i64 op] (w.drewN n) fun e w'' => e = .returned (.bool false) ∧ ∃ m, w'' = w.drewN m :=
 quiet_same (by have := usesB_any op (w.drewN n); rwa [decide_eq_false h] at this)
theorem ub_yes (op : Int) (n : Nat) (h : UB op) (w : World) : Calls Tryd.prog 46 #[.int .i64 op] (w.drewN n) fun e w'' => e = .returned (.bool true) ∧ ∃ m, w'' = w.drewN m :=
 quiet_same (by have := usesB_any op (w.drewN n); rwa [decide_eq_true h] at this)

set_option maxRecDepth 100000 in
set_option maxHeartbeats 2000000 in
theorem instr_class (op a b n : Int) (hop : op = 24 ∨ op = 27) (mv : Value) (m : Meth) (kv : Value) (cp : Option Addr) (cc : Nat) (cs : List ByteArray) (nm : Nat) (w : World) (_hp : m.params.size ≤ 1000) (_hl : m.locals.size ≤ 1000) :
  Calls Tryd.prog 28 #[.agg #[.slice cp cs.length cc, mv], .agg #[.string m.params, .string m.locals, .string m.ret, kv], .agg #[.int .i64 op, .int .i64 a, .int .i64 b, .int .i64 n]] w fun e w' => e = .returned (.int .i64 (insCode cs nm m ⟨op, a, b, n⟩)) ∧ Upd [] w w' := by
 have HC : Hid (insCode cs nm m ⟨op, a, b, n⟩ = if a < 0 ∨ (cs.length : Int) ≤ a then 103 else if b ≠ 0 ∨ n ≠ 0 then 103 else 0) := by
  show _ = _
  rcases hop with rfl | rfl <;> simp [insCode, UA, UB]
 rcases hop with rfl | rfl
 all_goals
  by_cases ca : a < 0
  ·have d1 : decide (a < 0) = true := by simpa using ca
   go_enter Tryd.func28, Tryd.ntmps28
   go_wp2_with fail
   go_quiet ((go_at_call 46; exact ub_no _ _ (by decide) _))
   all_goals go_wp2_with (first | (go_at_call 47; refine (usesA_any _ _).mono ?_; rintro e w' ⟨rfl, rfl⟩) | (go_at_call 46; refine (usesB_any _ _).mono ?_; rintro e w' ⟨rfl, rfl⟩))
   all_goals go_ret
   all_goals refine ⟨ret_int3 ?_, ((((Upd.refl _ _).alloc _).alloc _).alloc _).drewN _⟩
   all_goals rw [HC.out]
   all_goals simp_all
   all_goals omega
  ·have d1 : decide (a < 0) = false := by simpa using ca
   by_cases cb : (cs.length : Int) ≤ a
   ·have d2 : decide ((cs.length : Int) ≤ a) = true := by simpa using cb
    go_enter Tryd.func28, Tryd.ntmps28
    go_wp2_with fail
    go_quiet ((go_at_call 46; exact ub_no _ _ (by decide) _))
    all_goals go_wp2_with (first | (go_at_call 47; refine (usesA_any _ _).mono ?_; rintro e w' ⟨rfl, rfl⟩) | (go_at_call 46; refine (usesB_any _ _).mono ?_; rintro e w' ⟨rfl, rfl⟩))
    all_goals go_ret
    all_goals refine ⟨ret_int3 ?_, ((((Upd.refl _ _).alloc _).alloc _).alloc _).drewN _⟩
    all_goals rw [HC.out]
    all_goals simp_all
    all_goals omega
   ·have d2 : decide ((cs.length : Int) ≤ a) = false := by simpa using cb
    go_enter Tryd.func28, Tryd.ntmps28
    go_wp2_with fail
    go_quiet ((go_at_call 46; exact ub_no _ _ (by decide) _))
    all_goals go_wp2_with (first | (go_at_call 47; refine (usesA_any _ _).mono ?_; rintro e w' ⟨rfl, rfl⟩) | (go_at_call 46; refine (usesB_any _ _).mono ?_; rintro e w' ⟨rfl, rfl⟩))
    all_goals go_ret
    all_goals refine ⟨ret_int3 ?_, ((((Upd.refl _ _).alloc _).alloc _).alloc _).drewN _⟩
    all_goals rw [HC.out]
    all_goals simp_all
    all_goals omega

set_option maxRecDepth 100000 in
set_option maxHeartbeats 2000000 in
theorem field_out (op a b n : Int) (hop : op = 25 ∨ op = 26) (mv : Value) (m : Meth) (kv : Value) (cp : Option Addr) (cc : Nat) (cs : List ByteArray) (nm : Nat) (w : World) (_hp : m.params.size ≤ 1000) (_hl : m.locals.size ≤ 1000) (ca : a < 0 ∨ (cs.length : Int) ≤ a) :
  Calls Tryd.prog 28 #[.agg #[.slice cp cs.length cc, mv], .agg #[.string m.params, .string m.locals, .string m.ret, kv], .agg #[.int .i64 op, .int .i64 a, .int .i64 b, .int .i64 n]] w fun e w' => e = .returned (.int .i64 (insCode cs nm m ⟨op, a, b, n⟩)) ∧ Upd [] w w' := by
 have HC : Hid (insCode cs nm m ⟨op, a, b, n⟩ = if a < 0 ∨ (cs.length : Int) ≤ a ∨ b < 0 ∨ ((cs.getD a.toNat ByteArray.empty).size : Int) ≤ b then 103 else if n ≠ 0 then 103 else 0) := by
  show _ = _
  rcases hop with rfl | rfl <;> simp [insCode, UA, UB]
 by_cases ca : a < 0
 ·have d1 : decide (a < 0) = true := by simpa using ca
  rcases hop with rfl | rfl
  all_goals
   go_enter Tryd.func28, Tryd.ntmps28
   go_wp2_with fail
   go_quiet ((go_at_call 46; exact ub_yes _ _ (by decide) _))
   all_goals go_wp2_with (first | (go_at_call 47; refine (usesA_any _ _).mono ?_; rintro e w' ⟨rfl, rfl⟩) | (go_at_call 46; refine (usesB_any _ _).mono ?_; rintro e w' ⟨rfl, rfl⟩))
   all_goals go_ret
   all_goals refine ⟨ret_int3 ?_, ((((Upd.refl _ _).alloc _).alloc _).alloc _).drewN _⟩
   all_goals rw [HC.out]
   all_goals simp_all
   all_goals omega
 ·have d1 : decide (a < 0) = false := by simpa using ca
  have cb : (cs.length : Int) ≤ a := by omega
  have d2 : decide ((cs.length : Int) ≤ a) = true := by simpa using cb
  rcases hop with rfl | rfl
  all_goals
   go_enter Tryd.func28, Tryd.ntmps28
   go_wp2_with fail
   go_quiet ((go_at_call 46; exact ub_yes _ _ (by decide) _))
   all_goals go_wp2_with (first | (go_at_call 47; refine (usesA_any _ _).mono ?_; rintro e w' ⟨rfl, rfl⟩) | (go_at_call 46; refine (usesB_any _ _).mono ?_; rintro e w' ⟨rfl, rfl⟩))
   all_goals go_ret
   all_goals refine ⟨ret_int3 ?_, ((((Upd.refl _ _).alloc _).alloc _).alloc _).drewN _⟩
   all_goals rw [HC.out]
   all_goals simp_all
   all_goals omega

set_option maxRecDepth 100000 in
set_option maxHeartbeats 2000000 in
theorem field_low (op b n : Int) (k : Nat) (hop : op = 25 ∨ op = 26) (mv : Value) (m : Meth) (kv : Value) (fs : ByteArray) (cb co cc : Nat) (cs : List ByteArray) (nm : Nat) (w : World) (_hp : m.params.size ≤ 1000) (_hl : m.locals.size ≤ 1000) (hk : k < cs.length) (hcell : w.cell? ⟨cb, co + k, none⟩ = some (.string fs)) (_hcz : fs.size ≤ 1000)
  (HC : Hid (insCode cs nm m ⟨op, k, b, n⟩ = if (k : Int) < 0 ∨ (cs.length : Int) ≤ k ∨ b < 0 ∨ (fs.size : Int) ≤ b then 103 else if n ≠ 0 then 103 else 0)) (c0 : b < 0) :
  Calls Tryd.prog 28 #[.agg #[.slice (some ⟨cb, co, none⟩) cs.length cc, mv], .agg #[.string m.params, .string m.locals, .string m.ret, kv], .agg #[.int .i64 op, .int .i64 k, .int .i64 b, .int .i64 n]] w fun e w' => e = .returned (.int .i64 (insCode cs nm m ⟨op, k, b, n⟩)) ∧ Upd [] w w' := by
 have d1 : decide ((k : Int) < 0) = false := by simp
 have d2 : decide (cs.length ≤ k) = false := by simp; omega
 have hkk : (k : Int) < (cs.length : Int) := by omega
 have hx := fun (o1 o2 o3 : Obj) (n : Nat) => ((((((Upd.refl [] w).alloc o1).alloc o2).alloc o3).drewN n).cell hcell (by simp))
 have hx1 := fun (o1 o2 o3 : Obj) => (((((Upd.refl [] w).alloc o1).alloc o2).alloc o3).cell hcell (by simp))
 clear hcell
 have d3 : decide (b < 0) = true := by simpa using c0
 rcases hop with rfl | rfl
 all_goals
  go_enter Tryd.func28, Tryd.ntmps28
  go_wp2_with fail
  go_quiet ((go_at_call 46; exact ub_yes _ _ (by decide) _))
  all_goals go_wp2_with (first | (go_at_call 47; refine (usesA_any _ _).mono ?_; rintro e w' ⟨rfl, rfl⟩) | (go_at_call 46; refine (usesB_any _ _).mono ?_; rintro e w' ⟨rfl, rfl⟩))
  all_goals go_ret
  all_goals refine ⟨ret_int3 ?_, ((((Upd.refl _ _).alloc _).alloc _).alloc _).drewN _⟩
  all_goals rw [HC.out]
  all_goals simp_all
  all_goals omega

set_option maxRecDepth 100000 in
set_option maxHeartbeats 2000000 in
theorem field_high (op b n : Int) (k : Nat) (hop : op = 25 ∨ op = 26) (mv : Value) (m : Meth) (kv : Value) (fs : ByteArray) (cb co cc : Nat) (cs : List ByteArray) (nm : Nat) (w : World) (_hp : m.params.size ≤ 1000) (_hl : m.locals.size ≤ 1000) (hk : k < cs.length) (hcell : w.cell? ⟨cb, co + k, none⟩ = some (.string fs)) (_hcz : fs.size ≤ 1000)
  (HC : Hid (insCode cs nm m ⟨op, k, b, n⟩ = if (k : Int) < 0 ∨ (cs.length : Int) ≤ k ∨ b < 0 ∨ (fs.size : Int) ≤ b then 103 else if n ≠ 0 then 103 else 0)) (c0 : ¬ b < 0) (c1 : (fs.size : Int) ≤ b) :
  Calls Tryd.prog 28 #[.agg #[.slice (some ⟨cb, co, none⟩) cs.length cc, mv], .agg #[.string m.params, .string m.locals, .string m.ret, kv], .agg #[.int .i64 op, .int .i64 k, .int .i64 b, .int .i64 n]] w fun e w' => e = .returned (.int .i64 (insCode cs nm m ⟨op, k, b, n⟩)) ∧ Upd [] w w' := by
 have d1 : decide ((k : Int) < 0) = false := by simp
 have d2 : decide (cs.length ≤ k) = false := by simp; omega
 have hkk : (k : Int) < (cs.length : Int) := by omega
 have hx := fun (o1 o2 o3 : Obj) (n : Nat) => ((((((Upd.refl [] w).alloc o1).alloc o2).alloc o3).drewN n).cell hcell (by simp))
 have hx1 := fun (o1 o2 o3 : Obj) => (((((Upd.refl [] w).alloc o1).alloc o2).alloc o3).cell hcell (by simp))
 clear hcell
 have d3 : decide (b < 0) = false := by simpa using c0
 have d4 : decide ((fs.size : Int) ≤ b) = true := by simpa using c1
 rcases hop with rfl | rfl
 all_goals
  go_enter Tryd.func28, Tryd.ntmps28
  go_wp2_with fail
  go_quiet ((go_at_call 46; exact ub_yes _ _ (by decide) _))
  all_goals go_wp2_with (first | (go_at_call 47; refine (usesA_any _ _).mono ?_; rintro e w' ⟨rfl, rfl⟩) | (go_at_call 46; refine (usesB_any _ _).mono ?_; rintro e w' ⟨rfl, rfl⟩))
  all_goals go_ret
  all_goals refine ⟨ret_int3 ?_, ((((Upd.refl _ _).alloc _).alloc _).alloc _).drewN _⟩
  all_goals rw [HC.out]
  all_goals simp_all
  all_goals omega

set_option maxRecDepth 100000 in
set_option maxHeartbeats 2000000 in
theorem field_in (op b n : Int) (k : Nat) (hop : op = 25 ∨ op = 26) (mv : Value) (m : Meth) (kv : Value) (fs : ByteArray) (cb co cc : Nat) (cs : List ByteArray) (nm : Nat) (w : World) (_hp : m.params.size ≤ 1000) (_hl : m.locals.size ≤ 1000) (hk : k < cs.length) (hcell : w.cell? ⟨cb, co + k, none⟩ = some (.string fs)) (_hcz : fs.size ≤ 1000)
  (HC : Hid (insCode cs nm m ⟨op, k, b, n⟩ = if (k : Int) < 0 ∨ (cs.length : Int) ≤ k ∨ b < 0 ∨ (fs.size : Int) ≤ b then 103 else if n ≠ 0 then 103 else 0)) (c0 : ¬ b < 0) (c1 : ¬ (fs.size : Int) ≤ b) :
  Calls Tryd.prog 28 #[.agg #[.slice (some ⟨cb, co, none⟩) cs.length cc, mv], .agg #[.string m.params, .string m.locals, .string m.ret, kv], .agg #[.int .i64 op, .int .i64 k, .int .i64 b, .int .i64 n]] w fun e w' => e = .returned (.int .i64 (insCode cs nm m ⟨op, k, b, n⟩)) ∧ Upd [] w w' := by
 have d1 : decide ((k : Int) < 0) = false := by simp
 have d2 : decide (cs.length ≤ k) = false := by simp; omega
 have hkk : (k : Int) < (cs.length : Int) := by omega
 have hx := fun (o1 o2 o3 : Obj) (n : Nat) => ((((((Upd.refl [] w).alloc o1).alloc o2).alloc o3).drewN n).cell hcell (by simp))
 have hx1 := fun (o1 o2 o3 : Obj) => (((((Upd.refl [] w).alloc o1).alloc o2).alloc o3).cell hcell (by simp))
 clear hcell
 have d3 : decide (b < 0) = false := by simpa using c0
 have d4 : decide ((fs.size : Int) ≤ b) = false := by simpa using c1
 rcases hop with rfl | rfl
 all_goals
  go_enter Tryd.func28, Tryd.ntmps28
  go_wp2_with fail
  go_quiet ((go_at_call 46; exact ub_yes _ _ (by decide) _))
  all_goals go_wp2_with (first | (go_at_call 47; refine (usesA_any _ _).mono ?_; rintro e w' ⟨rfl, rfl⟩) | (go_at_call 46; refine (usesB_any _ _).mono ?_; rintro e w' ⟨rfl, rfl⟩))
  all_goals go_ret
  all_goals refine ⟨ret_int3 ?_, ((((Upd.refl _ _).alloc _).alloc _).alloc _).drewN _⟩
  all_goals rw [HC.out]
  all_goals simp_all
  all_goals omega

theorem instr_field (op a b n : Int) (hop : op = 25 ∨ op = 26) (mv : Value) (m : Meth) (kv cv : Value) (cb co : Nat) (cs : List ByteArray) (nm : Nat) (w : World) (_hp : m.params.size ≤ 1000) (_hl : m.locals.size ≤ 1000) (h : ClsAt w cv cb co cs) (_hcs : ∀ c ∈ cs, c.size ≤ 1000) :
  Calls Tryd.prog 28 #[.agg #[cv, mv], .agg #[.string m.params, .string m.locals, .string m.ret, kv], .agg #[.int .i64 op, .int .i64 a, .int .i64 b, .int .i64 n]] w fun e w' => e = .returned (.int .i64 (insCode cs nm m ⟨op, a, b, n⟩)) ∧ Upd [] w w' := by
 have HC : Hid (insCode cs nm m ⟨op, a, b, n⟩ = if a < 0 ∨ (cs.length : Int) ≤ a ∨ b < 0 ∨ ((cs.getD a.toNat ByteArray.empty).size : Int) ≤ b then 103 else if n ≠ 0 then 103 else 0) := by
  show _ = _
  rcases hop with rfl | rfl <;> simp [insCode, UA, UB]
 obtain ⟨cp, cc, hcv⟩ := h.shape
 by_cases ca : a < 0 ∨ (cs.length : Int) ≤ a
 ·subst hcv
  exact field_out op a b n hop mv m kv cp cc cs nm w _hp _hl ca
 ·obtain ⟨k, rfl⟩ := Int.eq_ofNat_of_zero_le (show 0 ≤ a by omega)
  have hk : k < cs.length := by omega
  obtain ⟨rfl, hcell⟩ : cp = some ⟨cb, co, none⟩ ∧ w.cell? ⟨cb, co + k, none⟩ = some (.string (cs.getD k ByteArray.empty)) := by
   obtain ⟨hv, hc⟩ := h
   refine ⟨?_, hc k hk⟩
   rcases hv with ⟨_, ha⟩ | ⟨x, cap, hv, ha | rfl⟩
   ·rw [ha] at hk; simp at hk
   ·rw [ha] at hk; simp at hk
   ·rw [hcv] at hv; injection hv
  subst hcv
  have hcz := _hcs (cs.getD k ByteArray.empty) (by rw [List.getD_eq_getElem?_getD, List.getElem?_eq_getElem hk]; exact List.getElem_mem hk)
  rw [Int.toNat_natCast] at HC
  by_cases c0 : b < 0
  ·exact field_low op b n k hop mv m kv _ cb co cc cs nm w _hp _hl hk hcell hcz HC c0
  ·by_cases c1 : ((cs.getD k ByteArray.empty).size : Int) ≤ b
   ·exact field_high op b n k hop mv m kv _ cb co cc cs nm w _hp _hl hk hcell hcz HC c0 c1
   ·exact field_in op b n k hop mv m kv _ cb co cc cs nm w _hp _hl hk hcell hcz HC c0 c1

end Go.Proofs.YtbcoejmiihgfoaaDoor

/-! overdriveref3.May: the walk. -/
namespace Go.Proofs.YtbcoejmiihgfoaaDoor
open Go.RowKit

theorem instr_any (p : Prg) (m : Meth) (x : Ins) (cv : Value) (mp kp : Option Addr) (mc kc : Nat) (w : World) (hc : ClassAt w cv p.cs) (hcz : ∀ c ∈ p.cs, c.size ≤ 1000) (hp : m.params.size ≤ 1000) (hl : m.locals.size ≤ 1000) :
  Calls Tryd.prog 28 #[.agg #[cv, .slice mp p.ms.length mc], .agg #[.string m.params, .string m.locals, .string m.ret, .slice kp m.code.length kc], .agg #[.int .i64 x.op, .int .i64 x.a, .int .i64 x.b, .int .i64 x.n]] w fun e w' => e = .returned (.int .i64 (insCode p.cs p.ms.length m x)) ∧ Upd [] w w' := by
 obtain ⟨op, a, b, n⟩ := x
 obtain ⟨cb, co, hcls⟩ := hc.cls
 obtain ⟨cp, cc, hcv⟩ := hcls.shape
 by_cases h0 : op < 1 ∨ 35 < op
 ·have e : insCode p.cs p.ms.length m ⟨op, a, b, n⟩ = 102 := by unfold insCode; rw [if_pos h0]
  rw [e]
  exact instr_bad cv _ m _ ⟨op, a, b, n⟩ w h0 hp hl
 ·by_cases h1 : op = 3 ∨ op = 4
  ·exact instr_local op a b n h1 _ _ m _ p.cs _ w hp hl
  ·by_cases h2 : op = 24 ∨ op = 27
   ·rw [hcv]; exact instr_class op a b n h2 _ m _ cp cc p.cs _ w hp hl
   ·by_cases h3 : op = 25 ∨ op = 26
    ·exact instr_field op a b n h3 _ m _ cv cb co p.cs _ w hp hl hcls hcz
    ·by_cases h4 : op = 28 ∨ op = 29 ∨ op = 30
     ·exact instr_arr op a b n h4 _ _ m _ p.cs _ w hp hl
     ·by_cases h5 : op = 32
      ·exact instr_call op a b n h5 _ m _ _ _ p.cs _ w hp hl
      ·by_cases h6 : op = 22 ∨ op = 23
       ·exact instr_jump op a b n h6 _ _ m _ _ p.cs _ w hp hl
       ·refine instr_plain op a b n (by omega) (by omega) (by unfold UA; omega) (by unfold UB; omega) ?_ ?_ ?_ ?_ ?_ ?_ ?_ ?_ ?_ ?_ ?_ ?_ _ _ m _ p.cs _ w hp hl
        all_goals (rw [beq_eq_false_iff_ne]; omega)


/-- The box of the program, and of the answer, in the midst of May. -/
def MB (w wr : World) (cv mv : Value) : Prop :=
 wr.heap[w.heap.size]? = some (.cells #[cv, mv] 25) ∧ wr.heap[w.heap.size + 1]? = some (.cells #[.int .i64 0, .slice none 0 0] 31) ∧ Upd [] w wr

theorem MB.upd {w wr w1 : World} {cv mv : Value} (h : MB w wr cv mv) (hu : Upd [] wr w1) : MB w w1 cv mv := ⟨hu.heap h.1 (by simp), hu.heap h.2.1 (by simp), h.2.2.trans hu⟩
theorem MB.start (w : World) (cv mv : Value) : MB w ((w.alloc (.cells #[cv, mv] 25)).alloc (.cells #[.int .i64 0, .slice none 0 0] 31)) cv mv := by
 refine ⟨((Upd.refl [] _).alloc _).heap (heap_alloc_new w _) (by simp), ?_, ((Upd.refl _ _).alloc _).alloc _⟩
 have := heap_alloc_new (w.alloc (.cells #[cv, mv] 25)) (.cells #[.int .i64 0, .slice none 0 0] 31)
 rwa [World.size_alloc] at this

theorem may_end {p : Prg} {w w1 : World} {c x y : Int} {b : Nat} (hu : Upd [] w w1) (hb : w.heap.size + 2 ≤ b) (hi : IntsV w1 (.slice (some ⟨b, 0, none⟩) 2 2) b [x, y]) (hm : MayIs p c [x, y]) :
  ∃ c' s b' at_, Ending.returned (.agg #[.int .i64 c, .slice (some ⟨b, 0, none⟩) 2 2]) = .returned (.agg #[.int .i64 c', s]) ∧
   IntsV ((w1.setCell ⟨w.heap.size + 1, 0, none⟩ (.int .i64 c)).setCell ⟨w.heap.size + 1, 1, none⟩ (.slice (some ⟨b, 0, none⟩) 2 2)) s b' at_ ∧ MayIs p c' at_ ∧
   Upd [] w ((w1.setCell ⟨w.heap.size + 1, 0, none⟩ (.int .i64 c)).setCell ⟨w.heap.size + 1, 1, none⟩ (.slice (some ⟨b, 0, none⟩) 2 2)) := by
 refine ⟨c, _, b, _, rfl, hi.upd (T := [w.heap.size + 1]) (((Upd.refl _ _).setCell (Or.inl (by simp)) _).setCell (Or.inl (by simp)) _) (.inr (by simp; omega)), hm, (hu.setCell (Or.inr (by simp)) _).setCell (Or.inr (by simp)) _⟩

set_option maxRecDepth 100000 in
set_option maxHeartbeats 2000000 in
theorem may_any (p : Prg) (cv mv : Value) (w : World) (hc : ClassAt w cv p.cs) (hm : MethsAt w mv p.ms) :
  Calls Tryd.prog 6 #[.agg #[cv, mv]] w fun e w' => ∃ c s b at_, e = .returned (.agg #[.int .i64 c, s]) ∧ IntsV w' s b at_ ∧ MayIs p c at_ ∧ Upd [] w w' := by
 have HCA := Lib.hid hc
 obtain ⟨ca, cc, rfl, hca, hcl, hcm, hcx⟩ := hc
 obtain ⟨ma, mc, rfl, hml, hmm, hmx⟩ := hm
 have HCX := Lib.hid hcx
 have HMX := Lib.hid hmx
 clear hcx hmx hca
 unfold maxLen at hcm hmm
 by_cases hbad : 12 < p.cs.length ∨ p.ms.length < 1 ∨ 12 < p.ms.length
 ·have HBAD := Lib.hid hbad
  by_cases h1 : 12 < p.cs.length
  ·have d1 : decide ((12 : Int) < (p.cs.length : Int)) = true := by simp; omega
   clear hbad
   go_enter Tryd.func6, Tryd.ntmps6
   go_wp2_with fail
   refine (bare_any _ _).mono ?_
   rintro e w1 ⟨rfl, hu⟩
   have hr := hu.heap (heap_alloc_new (w.alloc (.cells #[.slice ca p.cs.length cc, .slice ma p.ms.length mc] 25)) (.cells #[.int .i64 0, .slice none 0 0] 31)) (by simp)
   rw [World.size_alloc] at hr
   have hr0 := cell_of hr 0
   have hr1 := cell_of hr 1
   have hf0 := froz_of hr 0
   have hf1 := froz_of hr 1
   go_wp2_with fail
   refine bodyPost_ret (v := .agg #[.int .i64 101, .slice none 0 0]) (by simp [results, Tryd.results6, go_sem, hr0, hr1]) rfl ?_
   exact ⟨101, _, 0, [], rfl, ⟨.inl ⟨rfl, rfl⟩, by simp⟩, .inl ⟨HBAD.out, rfl, rfl⟩, ((((((Upd.refl [] w).alloc _).alloc _).trans hu)).setCell (Or.inr (by simp)) _).setCell (Or.inr (by simp)) _⟩
  ·have d1 : decide ((12 : Int) < (p.cs.length : Int)) = false := by simp; omega
   by_cases h2 : p.ms.length < 1
   ·have d2 : decide ((p.ms.length : Int) < 1) = true := by simp; omega
    clear hbad
    go_enter Tryd.func6, Tryd.ntmps6
    go_wp2_with fail
    refine (bare_any _ _).mono ?_
    rintro e w1 ⟨rfl, hu⟩
    have hr := hu.heap (heap_alloc_new (w.alloc (.cells #[.slice ca p.cs.length cc, .slice ma p.ms.length mc] 25)) (.cells #[.int .i64 0, .slice none 0 0] 31)) (by simp)
    rw [World.size_alloc] at hr
    have hr0 := cell_of hr 0
    have hr1 := cell_of hr 1
    have hf0 := froz_of hr 0
    have hf1 := froz_of hr 1
    go_wp2_with fail
    refine bodyPost_ret (v := .agg #[.int .i64 101, .slice none 0 0]) (by simp [results, Tryd.results6, go_sem, hr0, hr1]) rfl ?_
    exact ⟨101, _, 0, [], rfl, ⟨.inl ⟨rfl, rfl⟩, by simp⟩, .inl ⟨HBAD.out, rfl, rfl⟩, ((((((Upd.refl [] w).alloc _).alloc _).trans hu)).setCell (Or.inr (by simp)) _).setCell (Or.inr (by simp)) _⟩
   ·have d2 : decide ((p.ms.length : Int) < 1) = false := by simp; omega
    have d3 : decide ((12 : Int) < (p.ms.length : Int)) = true := by simp; omega
    clear hbad
    go_enter Tryd.func6, Tryd.ntmps6
    go_wp2_with fail
    refine (bare_any _ _).mono ?_
    rintro e w1 ⟨rfl, hu⟩
    have hr := hu.heap (heap_alloc_new (w.alloc (.cells #[.slice ca p.cs.length cc, .slice ma p.ms.length mc] 25)) (.cells #[.int .i64 0, .slice none 0 0] 31)) (by simp)
    rw [World.size_alloc] at hr
    have hr0 := cell_of hr 0
    have hr1 := cell_of hr 1
    have hf0 := froz_of hr 0
    have hf1 := froz_of hr 1
    go_wp2_with fail
    refine bodyPost_ret (v := .agg #[.int .i64 101, .slice none 0 0]) (by simp [results, Tryd.results6, go_sem, hr0, hr1]) rfl ?_
    exact ⟨101, _, 0, [], rfl, ⟨.inl ⟨rfl, rfl⟩, by simp⟩, .inl ⟨HBAD.out, rfl, rfl⟩, ((((((Upd.refl [] w).alloc _).alloc _).trans hu)).setCell (Or.inr (by simp)) _).setCell (Or.inr (by simp)) _⟩
 ·have d1 : decide ((12 : Int) < (p.cs.length : Int)) = false := by simp; omega
  have d2 : decide ((p.ms.length : Int) < 1) = false := by simp; omega
  have d3 : decide ((12 : Int) < (p.ms.length : Int)) = false := by simp; omega
  go_enter Tryd.func6, Tryd.ntmps6
  go_wp2_with fail
  go_loopw [3] (fun i wr => ∃ k : Nat, k ≤ p.cs.length ∧ i = .int .i64 k ∧ MB w wr (.slice ca p.cs.length cc) (.slice ma p.ms.length mc) ∧ Hid (∀ j, j < k → clsCode (p.cs.getD j ByteArray.empty) = 0)) (fun i _ => p.cs.length - (intOf i).toNat)
  case atStart => exact ⟨0, by omega, rfl, MB.start w _ _, (fun j hj => by omega : ∀ j, j < 0 → _)⟩
  case round =>
   obtain ⟨k, hk, rfl, hMB, HK⟩ := hrel
   have hb0 := cell_of hMB.1 0
   have hb1 := cell_of hMB.1 1
   by_cases hlt : k < p.cs.length
   ·obtain ⟨b, o, rfl, hsz, hcell⟩ := HCX.out k hlt
    have hx := hMB.2.2.cell hcell (by simp)
    have HCC := Lib.hid (show clsCode (p.cs.getD k ByteArray.empty) = if 10 < (p.cs.getD k ByteArray.empty).size then 101 else if lettersB (p.cs.getD k ByteArray.empty) then 0 else 102 from rfl)
    generalize hcc : p.cs.getD k ByteArray.empty = s at hx hsz HCC
    have HS := Lib.hid hcc
    clear hcc hcell
    unfold maxLen at hsz
    obtain ⟨wo, rfl⟩ : ∃ wo : World, wo = wr := ⟨_, rfl⟩
    by_cases c1 : 10 < s.size
    ·have d4 : decide ((10 : Int) < (s.size : Int)) = true := by simp; omega
     go_wp2_with fail
     refine (there_fault _ _ _ _).mono ?_
     rintro e w1 ⟨b, rfl, hi, hu, hlb⟩
     have hMB1 := hMB.upd hu
     have hr0 := cell_of hMB1.2.1 0
     have hr1 := cell_of hMB1.2.1 1
     have hf0 := froz_of hMB1.2.1 0
     have hf1 := froz_of hMB1.2.1 1
     have hs1 := lt_of_heap hMB.2.1
     go_wp2_with fail
     refine bodyPost_ret (v := .agg #[.int .i64 101, .slice (some ⟨b, 0, none⟩) 2 2]) (by simp [results, Tryd.results6, go_sem, hr0, hr1]) rfl ?_
     refine may_end hMB1.2.2 (by omega) hi (.inr ⟨by omega, .inl ⟨k, hlt, HK.out, ?_, by omega, rfl⟩⟩)
     rw [HS.out, HCC.out, if_pos c1]
    ·have d4 : decide ((10 : Int) < (s.size : Int)) = false := by simp; omega
     cases hl : lettersB s with
     | false =>
      have HL := Lib.hid (fun w => letters_any s w (by omega))
      rw [hl] at HL
      have HLL := Lib.hid hl
      clear hl
      go_wp2_with fail
      refine (HL.out _).mono ?_
      rintro e w' ⟨rfl, rfl⟩
      go_wp2_with fail
      refine (there_fault _ _ _ _).mono ?_
      rintro e w1 ⟨b, rfl, hi, hu, hlb⟩
      have hMB1 := hMB.upd hu
      have hr0 := cell_of hMB1.2.1 0
      have hr1 := cell_of hMB1.2.1 1
      have hf0 := froz_of hMB1.2.1 0
      have hf1 := froz_of hMB1.2.1 1
      have hs1 := lt_of_heap hMB.2.1
      go_wp2_with fail
      refine bodyPost_ret (v := .agg #[.int .i64 102, .slice (some ⟨b, 0, none⟩) 2 2]) (by simp [results, Tryd.results6, go_sem, hr0, hr1]) rfl ?_
      refine may_end hMB1.2.2 (by omega) hi (.inr ⟨by omega, .inl ⟨k, hlt, HK.out, ?_, by omega, rfl⟩⟩)
      rw [HS.out, HCC.out, if_neg c1, if_neg (by rw [HLL.out]; simp)]
     | true =>
      have HL := Lib.hid (fun w => letters_any s w (by omega))
      rw [hl] at HL
      have HLL := Lib.hid hl
      clear hl
      go_wp2_with fail
      refine (HL.out _).mono ?_
      rintro e w' ⟨rfl, rfl⟩
      go_wp2_with fail
      go_roundw
      case rel =>
       refine ⟨k + 1, by omega, by go_num, hMB, (fun j hj => ?_ : ∀ j, j < k + 1 → _)⟩
       by_cases e : j = k
       ·subst e; rw [HS.out, HCC.out, if_neg c1, if_pos HLL.out]
       ·exact HK.out j (by omega)
      case measure => simp [intOf]; omega
   ·obtain rfl : k = p.cs.length := by omega
    obtain ⟨wo, rfl⟩ : ∃ wo : World, wo = wr := ⟨_, rfl⟩
    go_wp2_with fail
    go_loopw [5] (fun i wr => ∃ k : Nat, k ≤ p.ms.length ∧ i = .int .i64 k ∧ MB w wr (.slice ca p.cs.length cc) (.slice ma p.ms.length mc) ∧ Hid (∀ j, j < k → headCode j (p.ms.getD j default) = 0 ∧ ∀ q, q < (p.ms.getD j default).code.length → insCode p.cs p.ms.length (p.ms.getD j default) ((p.ms.getD j default).code.getD q default) = 0)) (fun i _ => p.ms.length - (intOf i).toNat)
    case atStart => exact ⟨0, by omega, rfl, hMB, (fun j hj => by omega : ∀ j, j < 0 → _)⟩
    case round =>
     clear hb0 hb1 hMB
     obtain ⟨k, hk, rfl, hMB, HM⟩ := hrel
     have hb0 := cell_of hMB.1 0
     have hb1 := cell_of hMB.1 1
     by_cases hlt : k < p.ms.length
     ·obtain ⟨b, o, rfl, hsz, hm0, hm1, hm2, kv, hm3, hcode⟩ := HMX.out k hlt
      have hx0 := hMB.2.2.cell hm0 (by simp)
      have hx1 := hMB.2.2.cell hm1 (by simp)
      have hx2 := hMB.2.2.cell hm2 (by simp)
      have hx3 := hMB.2.2.cell hm3 (by simp)
      have hcd := hcode
      obtain ⟨z0, z1, z2⟩ := hsz
      clear hm0 hm1 hm2 hm3 hcode
      have HCC := Lib.hid (rfl : headCode k (p.ms.getD k default) = headCode k (p.ms.getD k default))
      generalize hmm2 : p.ms.getD k default = m at hx0 hx1 hx2 hx3 z0 z1 z2 hcd HCC
      have HS := Lib.hid hmm2
      clear hmm2
      unfold maxLen at z0 z1 z2
      obtain ⟨ka, kc, rfl, hkl, hkm, hkx⟩ := hcd
      have HKX := Lib.hid hkx
      clear hkx
      unfold maxLen at hkm
      obtain ⟨wo2, rfl⟩ : ∃ wo : World, wo = wr := ⟨_, rfl⟩
      by_cases c1 : 12 < m.params.size ∨ (12 : Int) - m.params.size < m.locals.size ∨ m.code.length < 1 ∨ 120 < m.code.length
      ·have HC1 := Lib.hid c1
       clear c1
       go_upto_region 15 with fail
       go_cut [87] (fun s wx => s = .bool true ∧ MB w wx (.slice ca p.cs.length cc) (.slice (some ⟨b, o, none⟩) p.ms.length mc))
       case first =>
        go_wp2_with fail
        all_goals go_meet
        all_goals refine ⟨?_, hMB.upd ((Upd.refl _ _).alloc _)⟩
        all_goals first | rfl | (congr 1; have := HC1.out; simp only [Bool.or_eq_true, decide_eq_true_eq]; omega)
       case rest =>
        obtain ⟨rfl, hMB2⟩ := hcut
        clear hx0 hx1 hx2 hx3 hMB hb0 hb1
        obtain ⟨w3, rfl⟩ : ∃ w3 : World, w3 = wc := ⟨_, rfl⟩
        go_wp2_with fail
        refine (there_fault _ _ _ _).mono ?_
        rintro e w1 ⟨b', rfl, hi, hu, hlb⟩
        have hMB1 := hMB2.upd hu
        have hr0 := cell_of hMB1.2.1 0
        have hr1 := cell_of hMB1.2.1 1
        have hf0 := froz_of hMB1.2.1 0
        have hf1 := froz_of hMB1.2.1 1
        have hs1 := lt_of_heap hMB2.2.1
        go_wp2_with fail
        refine bodyPost_ret (v := .agg #[.int .i64 101, .slice (some ⟨b', 0, none⟩) 2 2]) (by simp [results, Tryd.results6, go_sem, hr0, hr1]) rfl ?_
        refine may_end hMB1.2.2 (by omega) hi (.inr ⟨by omega, .inr ⟨HK.out, .inl ⟨k, hlt, HM.out, .inl ⟨?_, by omega, rfl⟩⟩⟩⟩)
        rw [HS.out, headCode, if_pos HC1.out]
      ·have hp : m.params.size ≤ 12 := by omega
       have hp2 : (m.locals.size : Int) ≤ 12 - m.params.size := by omega
       have hp3 : 1 ≤ m.code.length := by omega
       have hp4 : m.code.length ≤ 120 := by omega
       have HC1 := Lib.hid c1
       clear c1
       have d4 : decide ((12 : Int) < (m.params.size : Int)) = false := by simp; omega
       have d5 : decide ((12 : Int) - (m.params.size : Int) < (m.locals.size : Int)) = false := by simp; omega
       have d6 : decide ((m.code.length : Int) < 1) = false := by simp; omega
       have d7 : decide ((120 : Int) < (m.code.length : Int)) = false := by simp; omega
       go_upto_region 17 with fail
       go_cut [7] (fun s7 wx => s7 = .bool (decide (retOk m.ret)) ∧ MB w wx (.slice ca p.cs.length cc) (.slice (some ⟨b, o, none⟩) p.ms.length mc) ∧ wx.heap[wo2.heap.size]? = some (.cells #[.string m.params, .string m.locals, .string m.ret, .slice ka m.code.length kc] 69))
       case first =>
        go_wp2_with fail
        all_goals go_meet
        all_goals refine ⟨?_, hMB.upd ((Upd.refl _ _).alloc _), heap_alloc_new _ _⟩
        all_goals (congr 1; rw [Bool.eq_iff_iff, decide_eq_true_eq]; unfold retOk; simp_all)
       case rest =>
        obtain ⟨rfl, hMB2, hmb⟩ := hcut
        clear hx0 hx1 hx2 hx3 hMB hb0 hb1
        have hb0 := cell_of hMB2.1 0
        have hb1 := cell_of hMB2.1 1
        have hm0 := cell_of hmb 0
        have hm1 := cell_of hmb 1
        have hm2 := cell_of hmb 2
        have hm3 := cell_of hmb 3
        obtain ⟨w3, rfl⟩ : ∃ w3 : World, w3 = wc := ⟨_, rfl⟩
        go_upto_region 18 with fail
        go_cut [5, 7, 130] (fun s5 s7 s wx => s5 = .int .i64 k ∧ s7 = .bool (decide (retOk m.ret)) ∧ s = .bool (decide (¬ lettersB m.params = true ∨ ¬ lettersB m.locals = true ∨ ¬ retOk m.ret ∨ k = 0 ∧ (m.params.toList ≠ [] ∨ m.ret.toList = [82]))) ∧ w3 = wx)
        case first =>
         go_wp2_with (go_at_call 27; refine (letters_any _ _ (by omega)).mono ?_; rintro e w' ⟨rfl, rfl⟩)
         all_goals go_meet
         all_goals refine ⟨?_, ?_, ?_, ?_⟩
         all_goals first | rfl | (simp_all; done) | (congr 1; rw [Bool.eq_iff_iff, decide_eq_true_eq]; simp_all; done)
        case rest =>
         obtain ⟨rfl, rfl, rfl, rfl⟩ := hcut
         by_cases hbad2 : ¬ lettersB m.params = true ∨ ¬ lettersB m.locals = true ∨ ¬ retOk m.ret ∨ k = 0 ∧ (m.params.toList ≠ [] ∨ m.ret.toList = [82])
         ·rw [decide_eq_true hbad2]
          have HB2 := Lib.hid hbad2
          clear hbad2
          go_wp2_with fail
          refine (there_fault _ _ _ _).mono ?_
          rintro e w1 ⟨b', rfl, hi, hu, hlb⟩
          have hMB1 := hMB2.upd hu
          have hr0 := cell_of hMB1.2.1 0
          have hr1 := cell_of hMB1.2.1 1
          have hf0 := froz_of hMB1.2.1 0
          have hf1 := froz_of hMB1.2.1 1
          have hs1 := lt_of_heap hMB2.2.1
          go_wp2_with fail
          refine bodyPost_ret (v := .agg #[.int .i64 102, .slice (some ⟨b', 0, none⟩) 2 2]) (by simp [results, Tryd.results6, go_sem, hr0, hr1]) rfl ?_
          refine may_end hMB1.2.2 (by omega) hi (.inr ⟨by omega, .inr ⟨HK.out, .inl ⟨k, hlt, HM.out, .inl ⟨?_, by omega, rfl⟩⟩⟩⟩)
          rw [HS.out, headCode, if_neg HC1.out, if_pos HB2.out]
         ·rw [decide_eq_false hbad2]
          have HH := Lib.hid (show headCode k m = 0 by rw [headCode, if_neg HC1.out, if_neg hbad2])
          clear hbad2
          have hcdd := hMB2
          go_wp2_with fail
          go_loopw [8] (fun i wr => ∃ q : Nat, q ≤ m.code.length ∧ i = .int .i64 q ∧ MB w wr (.slice ca p.cs.length cc) (.slice (some ⟨b, o, none⟩) p.ms.length mc) ∧ wr.heap[wo2.heap.size]? = some (.cells #[.string m.params, .string m.locals, .string m.ret, .slice ka m.code.length kc] 69) ∧ Upd [] w3 wr ∧
           Hid (∀ j, j < q → insCode p.cs p.ms.length m (m.code.getD j default) = 0)) (fun i _ => m.code.length - (intOf i).toNat)
          case atStart => exact ⟨0, by omega, rfl, hMB2, hmb, Upd.refl _ _, (fun j hj => by omega : ∀ j, j < 0 → _)⟩
          case round =>
           obtain ⟨q, hq, rfl, hMB3, hmb3, hu3, HQ⟩ := hrel
           clear hb0 hb1 hm0 hm1 hm2 hm3
           have hb0 := cell_of hMB3.1 0
           have hb1 := cell_of hMB3.1 1
           have hm0 := cell_of hmb3 0
           have hm1 := cell_of hmb3 1
           have hm2 := cell_of hmb3 2
           have hm3 := cell_of hmb3 3
           by_cases hql : q < m.code.length
           ·obtain ⟨bk, ok, rfl, hxb, hxi⟩ := HKX.out q hql
            have HXC := Lib.hid (fun w' hw => instr_any p m (m.code.getD q default) (.slice ca p.cs.length cc) (some ⟨b, o, none⟩) (some ⟨bk, ok, none⟩) mc kc w' hw (fun c hc => by
             obtain ⟨i, hi, rfl⟩ := List.getElem_of_mem hc
             have := HK.out i hi
             rw [List.getD_eq_getElem?_getD, List.getElem?_eq_getElem hi, Option.getD_some] at this
             unfold clsCode at this
             split at this
             ·cases this
             ·omega) (by omega) (by omega))
            have HMX2 := Lib.hid (rfl : insCode p.cs p.ms.length m (m.code.getD q default) = insCode p.cs p.ms.length m (m.code.getD q default))
            generalize hxx : m.code.getD q default = x at HXC hxi HMX2
            have HXX := Lib.hid hxx
            clear hxx
            have hx0 := hMB3.2.2.cell hxi.1 (by simp)
            have hx1 := hMB3.2.2.cell hxi.2.1 (by simp)
            have hx2 := hMB3.2.2.cell hxi.2.2.1 (by simp)
            have hx3 := hMB3.2.2.cell hxi.2.2.2 (by simp)
            obtain ⟨w4, rfl⟩ : ∃ w4 : World, w4 = wr := ⟨_, rfl⟩
            go_wp2_with fail
            go_still_tail 7, (by kernel_rfl)
            change wpList _ _ _ _ _ w4.drew
            have hMB5 := hMB3.upd ((Upd.refl [] w4).drew)
            have hmb5 : w4.drew.heap[wo2.heap.size]? = _ := hmb3
            have hu5 := hu3.drew
            clear hMB3 hmb3 hu3 hx0 hx1 hx2 hx3 hb0 hb1 hm0 hm1 hm2 hm3
            generalize w4.drew = w5 at hMB5 hmb5 hu5 ⊢
            go_wp2_with fail
            refine (HXC.out _ (HCA.out.upd hMB5.2.2)).mono ?_
            rintro e w6 ⟨rfl, hu6⟩
            have hMB6 := hMB5.upd hu6
            have hmb6 := hu6.heap hmb5 (by simp)
            have hb0 := cell_of hMB6.1 0
            have hb1 := cell_of hMB6.1 1
            generalize hic : insCode p.cs p.ms.length m x = ic at HMX2 ⊢
            have HIC := Lib.hid hic
            clear hic hMB5 hmb5
            by_cases hz : ic = 0
            ·have hzb : (ic != 0) = false := by rw [hz]; rfl
             have HZ := Lib.hid hz
             clear hz
             go_wp2_with fail
             go_roundw
             case rel =>
              refine ⟨q + 1, by omega, by go_num, hMB6, hmb6, hu5.trans hu6, (fun j hj => ?_ : ∀ j, j < q + 1 → _)⟩
              by_cases e : j = q
              ·subst e; rw [HXX.out, HIC.out]; exact HZ.out
              ·exact HQ.out j (by omega)
             case measure => simp [intOf]; omega
            ·have hzb : (ic != 0) = true := by rw [bne_iff_ne]; exact hz
             have HZ := Lib.hid hz
             clear hz
             go_wp2_with fail
             refine (there_fault _ _ _ _).mono ?_
             rintro e w1 ⟨b', rfl, hi, hu, hlb⟩
             have hMB1 := hMB6.upd hu
             have hr0 := cell_of hMB1.2.1 0
             have hr1 := cell_of hMB1.2.1 1
             have hf0 := froz_of hMB1.2.1 0
             have hf1 := froz_of hMB1.2.1 1
             have hs1 := lt_of_heap hMB6.2.1
             go_wp2_with fail
             refine bodyPost_ret (v := .agg #[.int .i64 ic, .slice (some ⟨b', 0, none⟩) 2 2]) (by simp [results, Tryd.results6, go_sem, hr0, hr1]) rfl ?_
             refine may_end hMB1.2.2 (by omega) hi (.inr ⟨by omega, .inr ⟨HK.out, .inl ⟨k, hlt, HM.out, .inr ⟨?_, q, ?_, ?_, ?_, HZ.out, rfl⟩⟩⟩⟩)
             ·rw [HS.out]; exact HH.out
             ·rw [HS.out]; exact hql
             ·rw [HS.out]; exact HQ.out
             ·rw [HS.out, HXX.out]; exact HIC.out
           ·obtain rfl : q = m.code.length := by omega
            go_wp2_with fail
            go_roundw
            case rel =>
             refine ⟨k + 1, by omega, by go_num, hMB3, (fun j hj => ?_ : ∀ j, j < k + 1 → _)⟩
             by_cases e : j = k
             ·subst e; rw [HS.out]; exact ⟨HH.out, HQ.out⟩
             ·exact HM.out j (by omega)
            case measure => simp [intOf]; omega
     ·obtain rfl : k = p.ms.length := by omega
      go_wp2_with fail
      refine (none_any _).mono ?_
      rintro e w1 ⟨rfl, hu⟩
      have hMB1 := hMB.upd hu
      have hr0 := cell_of hMB1.2.1 0
      have hr1 := cell_of hMB1.2.1 1
      have hf0 := froz_of hMB1.2.1 0
      have hf1 := froz_of hMB1.2.1 1
      go_wp2_with fail
      refine bodyPost_ret (v := .agg #[.int .i64 0, .slice none 0 0]) (by simp [results, Tryd.results6, go_sem, hr0, hr1]) rfl ?_
      exact ⟨0, _, 0, [], rfl, ⟨.inl ⟨rfl, rfl⟩, by simp⟩, .inr ⟨by omega, .inr ⟨HK.out, .inr ⟨HM.out, rfl, rfl⟩⟩⟩, (hMB1.2.2.setCell (Or.inr (by simp)) _).setCell (Or.inr (by simp)) _⟩

end Go.Proofs.YtbcoejmiihgfoaaDoor
