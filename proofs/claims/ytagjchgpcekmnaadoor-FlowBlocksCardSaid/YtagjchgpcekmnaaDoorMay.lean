/- overdriveref3.May and what it calls: what they compute; their walks. -/
import Derived.Test.YtagjchgpcekmnaaDoorPrg
import Derived.Test.YtagjchgpcekmnaaDoorRows
import Derived.Deep.QuietTactic
import Derived.BigQuiet
import Derived.StillTailTactics
namespace Go.Proofs.YtagjchgpcekmnaaDoor
open Go.RowKit

/-- The letters of a text are all I or R. -/
def lettersB (s : ByteArray) : Bool := (List.range s.size).all fun i => s.get! i == 73 || s.get! i == 82

theorem lettersB_true {s : ByteArray} : lettersB s = true ↔ ∀ i, i < s.size → s.get! i = 73 ∨ s.get! i = 82 := by
  simp [lettersB]

theorem byte_ne (fs : ByteArray) (j : Nat) (c : UInt8) (h : j < fs.size) : ((((fs[j]'h).toNat : Nat) : Int) != ((c.toNat : Nat) : Int)) = !decide (fs.get! j = c) := by
  rw [← byte_eq fs j c h]; rfl

set_option maxHeartbeats 400000 in
theorem letters_any (s : ByteArray) (w : World) (hs : s.size ≤ 1000000) :
    Calls Tryd.prog 28 #[.string s] w fun e w' => e = .returned (.bool (lettersB s)) ∧ w = w' := by
  go_enter Tryd.func28, Tryd.ntmps28
  go_wp2_with fail
  go_loopw [3] (fun i wr => ∃ k : Nat, k ≤ s.size ∧ i = .int .i64 k ∧ w = wr ∧ Hid (∀ j, j < k → s.get! j = 73 ∨ s.get! j = 82)) (fun i _ => s.size - (intOf i).toNat)
  case atStart => exact ⟨0, by omega, rfl, rfl, (fun j hj => by omega : ∀ j, j < 0 → _)⟩
  case round =>
    obtain ⟨k, hk, rfl, rfl, HK⟩ := hrel
    by_cases hlt : k < s.size
    · have h1 := byte_ne s k 73 hlt
      have h2 := byte_ne s k 82 hlt
      by_cases c1 : s.get! k = 73
      · have e1 : ((((s[k]'hlt).toNat : Nat) : Int) != 73) = false := by
          have := h1; simpa [c1] using this
        have C1 := Lib.hid c1
        clear h1 h2 c1
        go_wp2_with fail
        go_roundw
        case rel => 
          refine ⟨k + 1, by omega, by go_num, trivial, (fun j hj => ?_ : ∀ j, j < k + 1 → _)⟩
          by_cases e : j = k
          · subst e; exact .inl C1.out
          · exact HK.out j (by omega)
        case measure => simp [intOf]; omega
      · by_cases c2 : s.get! k = 82
        · have e1 : ((((s[k]'hlt).toNat : Nat) : Int) != 73) = true := by
            have := h1; simpa [c1] using this
          have e2 : ((((s[k]'hlt).toNat : Nat) : Int) != 82) = false := by
            have := h2; simpa [c2] using this
          have C1 := Lib.hid c2
          clear h1 h2 c1 c2
          go_wp2_with fail
          go_roundw
          case rel => 
            refine ⟨k + 1, by omega, by go_num, trivial, (fun j hj => ?_ : ∀ j, j < k + 1 → _)⟩
            by_cases e : j = k
            · subst e; exact .inr C1.out
            · exact HK.out j (by omega)
          case measure => simp [intOf]; omega
        · have e1 : ((((s[k]'hlt).toNat : Nat) : Int) != 73) = true := by
            have := h1; simpa [c1] using this
          have e2 : ((((s[k]'hlt).toNat : Nat) : Int) != 82) = true := by
            have := h2; simpa [c2] using this
          have C1 := Lib.hid c1
          have C2 := Lib.hid c2
          clear h1 h2 c1 c2
          go_wp2_with fail
          go_ret
          have : lettersB s = false := by
            cases h : lettersB s with
            | false => rfl
            | true =>
              rcases lettersB_true.1 h k hlt with h | h
              · exact absurd h C1.out
              · exact absurd h C2.out
          exact ⟨by rw [this]; rfl, rfl⟩
    · obtain rfl : k = s.size := by omega
      go_wp2_with fail
      go_ret
      exact ⟨by rw [lettersB_true.2 HK.out]; rfl, rfl⟩

def UA (op : Int) : Prop := op = 3 ∨ op = 4 ∨ op = 22 ∨ op = 23 ∨ op = 24 ∨ op = 25 ∨ op = 26 ∨ op = 27 ∨ op = 28 ∨ op = 29 ∨ op = 30 ∨ op = 32
instance (op : Int) : Decidable (UA op) := by unfold UA; infer_instance
def UB (op : Int) : Prop := op = 25 ∨ op = 26
instance (op : Int) : Decidable (UB op) := by unfold UB; infer_instance

set_option maxHeartbeats 400000 in
theorem usesA_any (op : Int) (w : World) : Calls Tryd.prog 42 #[.int .i64 op] w fun e w' => e = .returned (.bool (decide (UA op))) ∧ w = w' := by
  go_enter Tryd.func42, Tryd.ntmps42
  go_wp2_with fail
  all_goals go_ret
  all_goals refine ⟨?_, rfl⟩
  all_goals first | (show Ending.returned (.bool true) = _; rw [decide_eq_true (by unfold UA; simp_all)]) | (show Ending.returned (.bool false) = _; rw [decide_eq_false (by unfold UA; simp_all)])

set_option maxHeartbeats 400000 in
theorem usesB_any (op : Int) (w : World) : Calls Tryd.prog 41 #[.int .i64 op] w fun e w' => e = .returned (.bool (decide (UB op))) ∧ w = w' := by
  go_enter Tryd.func41, Tryd.ntmps41
  go_wp2_with fail
  all_goals go_ret
  all_goals refine ⟨?_, rfl⟩
  all_goals first | (show Ending.returned (.bool true) = _; rw [decide_eq_true (by unfold UB; simp_all)]) | (show Ending.returned (.bool false) = _; rw [decide_eq_false (by unfold UB; simp_all)]) | (show Ending.returned (.bool (op == 25 || op == 26)) = _; congr 2; rw [Bool.eq_iff_iff, decide_eq_true_eq]; simp [UB])

/-- Why an instruction may not be; 0: it may. -/
def insCode (cs : List ByteArray) (nm : Nat) (m : Meth) (x : Ins) : Int :=
  if x.op < 1 ∨ 35 < x.op then 102
  else if (x.op = 3 ∨ x.op = 4) ∧ (x.a < 0 ∨ (m.params.size : Int) + m.locals.size ≤ x.a) then 103
  else if (x.op = 24 ∨ x.op = 25 ∨ x.op = 26 ∨ x.op = 27) ∧ (x.a < 0 ∨ (cs.length : Int) ≤ x.a ∨ UB x.op ∧ (x.b < 0 ∨ ((cs.getD x.a.toNat ByteArray.empty).size : Int) ≤ x.b)) then 103
  else if (x.op = 28 ∨ x.op = 29 ∨ x.op = 30) ∧ x.a ≠ 0 ∧ x.a ≠ 1 then 103
  else if x.op = 32 ∧ (x.a < 1 ∨ (nm : Int) ≤ x.a) then 103
  else if (x.op = 22 ∨ x.op = 23) ∧ (x.a < 0 ∨ (m.code.length : Int) ≤ x.a) then 104
  else if ¬ UA x.op ∧ x.a ≠ 0 ∨ ¬ UB x.op ∧ x.b ≠ 0 ∨ x.op ≠ 1 ∧ x.n ≠ 0 then 103
  else 0

set_option maxHeartbeats 1000000 in
theorem instr_bad (cv mv : Value) (m : Meth) (kv : Value) (x : Ins) (w : World) (h : x.op < 1 ∨ 35 < x.op) (_hp : m.params.size ≤ 1000) (_hl : m.locals.size ≤ 1000) :
    Calls Tryd.prog 29 #[.agg #[cv, mv], .agg #[.string m.params, .string m.locals, .string m.ret, kv], .agg #[.int .i64 x.op, .int .i64 x.a, .int .i64 x.b, .int .i64 x.n]] w fun e w' => e = .returned (.int .i64 102) ∧ Upd [] w w' := by
  by_cases h1 : x.op < 1
  · go_enter Tryd.func29, Tryd.ntmps29
    go_wp2_with fail
    go_ret
    exact ⟨rfl, (((Upd.refl _ _).alloc _).alloc _).alloc _⟩
  · have h2 : 35 < x.op := by omega
    go_enter Tryd.func29, Tryd.ntmps29
    go_wp2_with fail
    go_ret
    exact ⟨rfl, (((Upd.refl _ _).alloc _).alloc _).alloc _⟩

theorem ret_int3 {a b : Int} (h : b = a) : Ending.returned (.int .i64 a) = .returned (.int .i64 b) := by rw [h]

set_option maxRecDepth 100000 in
set_option maxHeartbeats 1000000 in
theorem instr_plain (op a b n : Int) (_h1 : 1 ≤ op) (_h35 : op ≤ 35) (ha : ¬ UA op) (hb : ¬ UB op) (e3 : (op == 3) = false) (e4 : (op == 4) = false) (e22 : (op == 22) = false) (e23 : (op == 23) = false) (e24 : (op == 24) = false) (e25 : (op == 25) = false) (e26 : (op == 26) = false) (e27 : (op == 27) = false)
    (e28 : (op == 28) = false) (e29 : (op == 29) = false) (e30 : (op == 30) = false) (e32 : (op == 32) = false) (cv mv : Value) (m : Meth) (kv : Value) (cs : List ByteArray) (nm : Nat) (w : World) (_hp : m.params.size ≤ 1000) (_hl : m.locals.size ≤ 1000) :
    Calls Tryd.prog 29 #[.agg #[cv, mv], .agg #[.string m.params, .string m.locals, .string m.ret, kv], .agg #[.int .i64 op, .int .i64 a, .int .i64 b, .int .i64 n]] w fun e w' => e = .returned (.int .i64 (insCode cs nm m ⟨op, a, b, n⟩)) ∧ Upd [] w w' := by
  have HC : Hid (insCode cs nm m ⟨op, a, b, n⟩ = if a ≠ 0 ∨ b ≠ 0 ∨ op ≠ 1 ∧ n ≠ 0 then 103 else 0) := by
    show _ = _
    simp only [beq_eq_false_iff_ne] at *
    simp [insCode, *]
    omega
  go_enter Tryd.func29, Tryd.ntmps29
  go_wp2_with (first | (go_at_call 42; refine (usesA_any _ _).mono ?_; rintro e w' ⟨rfl, rfl⟩) | (go_at_call 41; refine (usesB_any _ _).mono ?_; rintro e w' ⟨rfl, rfl⟩))
  all_goals go_ret
  all_goals refine ⟨ret_int3 ?_, (((Upd.refl _ _).alloc _).alloc _).alloc _⟩
  all_goals rw [HC.out]
  all_goals simp_all

set_option maxRecDepth 100000 in
set_option maxHeartbeats 1000000 in
theorem instr_local (op a b n : Int) (hop : op = 3 ∨ op = 4) (cv mv : Value) (m : Meth) (kv : Value) (cs : List ByteArray) (nm : Nat) (w : World) (_hp : m.params.size ≤ 1000) (_hl : m.locals.size ≤ 1000) :
    Calls Tryd.prog 29 #[.agg #[cv, mv], .agg #[.string m.params, .string m.locals, .string m.ret, kv], .agg #[.int .i64 op, .int .i64 a, .int .i64 b, .int .i64 n]] w fun e w' => e = .returned (.int .i64 (insCode cs nm m ⟨op, a, b, n⟩)) ∧ Upd [] w w' := by
  have HC : Hid (insCode cs nm m ⟨op, a, b, n⟩ = if a < 0 ∨ (m.params.size : Int) + m.locals.size ≤ a then 103 else if b ≠ 0 ∨ n ≠ 0 then 103 else 0) := by
    show _ = _
    rcases hop with rfl | rfl <;> simp [insCode, UA, UB]
  rcases hop with rfl | rfl
  all_goals
    go_enter Tryd.func29, Tryd.ntmps29
    go_wp2_with (first | (go_at_call 42; refine (usesA_any _ _).mono ?_; rintro e w' ⟨rfl, rfl⟩) | (go_at_call 41; refine (usesB_any _ _).mono ?_; rintro e w' ⟨rfl, rfl⟩))
  all_goals go_ret
  all_goals refine ⟨ret_int3 ?_, (((Upd.refl _ _).alloc _).alloc _).alloc _⟩
  all_goals rw [HC.out]
  all_goals simp_all [UA, UB]
  all_goals omega

set_option maxRecDepth 100000 in
set_option maxHeartbeats 1000000 in
theorem instr_arr (op a b n : Int) (hop : op = 28 ∨ op = 29 ∨ op = 30) (cv mv : Value) (m : Meth) (kv : Value) (cs : List ByteArray) (nm : Nat) (w : World) (_hp : m.params.size ≤ 1000) (_hl : m.locals.size ≤ 1000) :
    Calls Tryd.prog 29 #[.agg #[cv, mv], .agg #[.string m.params, .string m.locals, .string m.ret, kv], .agg #[.int .i64 op, .int .i64 a, .int .i64 b, .int .i64 n]] w fun e w' => e = .returned (.int .i64 (insCode cs nm m ⟨op, a, b, n⟩)) ∧ Upd [] w w' := by
  have HC : Hid (insCode cs nm m ⟨op, a, b, n⟩ = if a ≠ 0 ∧ a ≠ 1 then 103 else if b ≠ 0 ∨ n ≠ 0 then 103 else 0) := by
    show _ = _
    rcases hop with rfl | rfl | rfl <;> simp [insCode, UA, UB]
  rcases hop with rfl | rfl | rfl
  all_goals
    go_enter Tryd.func29, Tryd.ntmps29
    go_wp2_with (first | (go_at_call 42; refine (usesA_any _ _).mono ?_; rintro e w' ⟨rfl, rfl⟩) | (go_at_call 41; refine (usesB_any _ _).mono ?_; rintro e w' ⟨rfl, rfl⟩))
  all_goals go_ret
  all_goals refine ⟨ret_int3 ?_, (((Upd.refl _ _).alloc _).alloc _).alloc _⟩
  all_goals rw [HC.out]
  all_goals simp_all [UA, UB]
  all_goals omega

set_option maxRecDepth 100000 in
set_option maxHeartbeats 1000000 in
theorem instr_call (op a b n : Int) (hop : op = 32) (cv : Value) (m : Meth) (kv : Value) (mp : Option Addr) (mc : Nat) (cs : List ByteArray) (nm : Nat) (w : World) (_hp : m.params.size ≤ 1000) (_hl : m.locals.size ≤ 1000) :
    Calls Tryd.prog 29 #[.agg #[cv, .slice mp nm mc], .agg #[.string m.params, .string m.locals, .string m.ret, kv], .agg #[.int .i64 op, .int .i64 a, .int .i64 b, .int .i64 n]] w fun e w' => e = .returned (.int .i64 (insCode cs nm m ⟨op, a, b, n⟩)) ∧ Upd [] w w' := by
  have HC : Hid (insCode cs nm m ⟨op, a, b, n⟩ = if a < 1 ∨ (nm : Int) ≤ a then 103 else if b ≠ 0 ∨ n ≠ 0 then 103 else 0) := by
    show _ = _
    rcases hop with rfl <;> simp [insCode, UA, UB]
  rcases hop with rfl
  all_goals
    go_enter Tryd.func29, Tryd.ntmps29
    go_wp2_with (first | (go_at_call 42; refine (usesA_any _ _).mono ?_; rintro e w' ⟨rfl, rfl⟩) | (go_at_call 41; refine (usesB_any _ _).mono ?_; rintro e w' ⟨rfl, rfl⟩))
  all_goals go_ret
  all_goals refine ⟨ret_int3 ?_, (((Upd.refl _ _).alloc _).alloc _).alloc _⟩
  all_goals rw [HC.out]
  all_goals simp_all [UA, UB]
  all_goals omega

set_option maxRecDepth 100000 in
set_option maxHeartbeats 1000000 in
theorem instr_jump (op a b n : Int) (hop : op = 22 ∨ op = 23) (cv mv : Value) (m : Meth) (kp : Option Addr) (kc : Nat) (cs : List ByteArray) (nm : Nat) (w : World) (_hp : m.params.size ≤ 1000) (_hl : m.locals.size ≤ 1000) :
    Calls Tryd.prog 29 #[.agg #[cv, mv], .agg #[.string m.params, .string m.locals, .string m.ret, .slice kp m.code.length kc], .agg #[.int .i64 op, .int .i64 a, .int .i64 b, .int .i64 n]] w fun e w' => e = .returned (.int .i64 (insCode cs nm m ⟨op, a, b, n⟩)) ∧ Upd [] w w' := by
  have HC : Hid (insCode cs nm m ⟨op, a, b, n⟩ = if a < 0 ∨ (m.code.length : Int) ≤ a then 104 else if b ≠ 0 ∨ n ≠ 0 then 103 else 0) := by
    show _ = _
    rcases hop with rfl | rfl <;> simp [insCode, UA, UB]
  rcases hop with rfl | rfl
  all_goals
    go_enter Tryd.func29, Tryd.ntmps29
    go_wp2_with (first | (go_at_call 42; refine (usesA_any _ _).mono ?_; rintro e w' ⟨rfl, rfl⟩) | (go_at_call 41; refine (usesB_any _ _).mono ?_; rintro e w' ⟨rfl, rfl⟩))
  all_goals go_ret
  all_goals refine ⟨ret_int3 ?_, (((Upd.refl _ _).alloc _).alloc _).alloc _⟩
  all_goals rw [HC.out]
  all_goals simp_all [UA, UB]
  all_goals omega

end Go.Proofs.YtagjchgpcekmnaaDoor
