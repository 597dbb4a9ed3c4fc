/- overdriveref3.instr where a class is named. -/
import Derived.Test.YtagjchgpcekmnaaDoorMay
namespace Go.Proofs.YtagjchgpcekmnaaDoor
open Go.RowKit

theorem quiet_same {P : Program} {f : FuncId} {args : Array Value} {w : World} {n : Nat} {v : Value}
    (h : Calls P f args (w.drewN n) fun e w' => e = .returned v ∧ w.drewN n = w') : Calls P f args (w.drewN n) fun e w'' => e = .returned v ∧ ∃ m, w'' = w.drewN m :=
  h.mono fun _ _ ⟨he, hm⟩ => ⟨he, n, hm.symm⟩
theorem ub_no (op : Int) (n : Nat) (h : ¬ UB op) (w : World) : Calls Tryd.prog 41 #[.int .i64 op] (w.drewN n) fun e w'' => e = .returned (.bool false) ∧ ∃ m, w'' = w.drewN m :=
  quiet_same (by have := usesB_any op (w.drewN n); rwa [decide_eq_false h] at this)
theorem ub_yes (op : Int) (n : Nat) (h : UB op) (w : World) : Calls Tryd.prog 41 #[.int .i64 op] (w.drewN n) fun e w'' => e = .returned (.bool true) ∧ ∃ m, w'' = w.drewN m :=
  quiet_same (by have := usesB_any op (w.drewN n); rwa [decide_eq_true h] at this)

set_option maxRecDepth 100000 in
set_option maxHeartbeats 2000000 in
theorem instr_class (op a b n : Int) (hop : op = 24 ∨ op = 27) (mv : Value) (m : Meth) (kv : Value) (cp : Option Addr) (cc : Nat) (cs : List ByteArray) (nm : Nat) (w : World) (_hp : m.params.size ≤ 1000) (_hl : m.locals.size ≤ 1000) :
    Calls Tryd.prog 29 #[.agg #[.slice cp cs.length cc, mv], .agg #[.string m.params, .string m.locals, .string m.ret, kv], .agg #[.int .i64 op, .int .i64 a, .int .i64 b, .int .i64 n]] w fun e w' => e = .returned (.int .i64 (insCode cs nm m ⟨op, a, b, n⟩)) ∧ Upd [] w w' := by
  have HC : Hid (insCode cs nm m ⟨op, a, b, n⟩ = if a < 0 ∨ (cs.length : Int) ≤ a then 103 else if b ≠ 0 ∨ n ≠ 0 then 103 else 0) := by
    show _ = _
    rcases hop with rfl | rfl <;> simp [insCode, UA, UB]
  rcases hop with rfl | rfl
  all_goals
    by_cases ca : a < 0
    · have d1 : decide (a < 0) = true := by simpa using ca
      go_enter Tryd.func29, Tryd.ntmps29
      go_wp2_with fail
      go_quiet ((go_at_call 41; exact ub_no _ _ (by decide) _))
      all_goals go_wp2_with (first | (go_at_call 42; refine (usesA_any _ _).mono ?_; rintro e w' ⟨rfl, rfl⟩) | (go_at_call 41; refine (usesB_any _ _).mono ?_; rintro e w' ⟨rfl, rfl⟩))
      all_goals go_ret
      all_goals refine ⟨ret_int3 ?_, ((((Upd.refl _ _).alloc _).alloc _).alloc _).drewN _⟩
      all_goals rw [HC.out]
      all_goals simp_all
      all_goals omega
    · have d1 : decide (a < 0) = false := by simpa using ca
      by_cases cb : (cs.length : Int) ≤ a
      · have d2 : decide ((cs.length : Int) ≤ a) = true := by simpa using cb
        go_enter Tryd.func29, Tryd.ntmps29
        go_wp2_with fail
        go_quiet ((go_at_call 41; exact ub_no _ _ (by decide) _))
        all_goals go_wp2_with (first | (go_at_call 42; refine (usesA_any _ _).mono ?_; rintro e w' ⟨rfl, rfl⟩) | (go_at_call 41; refine (usesB_any _ _).mono ?_; rintro e w' ⟨rfl, rfl⟩))
        all_goals go_ret
        all_goals refine ⟨ret_int3 ?_, ((((Upd.refl _ _).alloc _).alloc _).alloc _).drewN _⟩
        all_goals rw [HC.out]
        all_goals simp_all
        all_goals omega
      · have d2 : decide ((cs.length : Int) ≤ a) = false := by simpa using cb
        go_enter Tryd.func29, Tryd.ntmps29
        go_wp2_with fail
        go_quiet ((go_at_call 41; exact ub_no _ _ (by decide) _))
        all_goals go_wp2_with (first | (go_at_call 42; refine (usesA_any _ _).mono ?_; rintro e w' ⟨rfl, rfl⟩) | (go_at_call 41; refine (usesB_any _ _).mono ?_; rintro e w' ⟨rfl, rfl⟩))
        all_goals go_ret
        all_goals refine ⟨ret_int3 ?_, ((((Upd.refl _ _).alloc _).alloc _).alloc _).drewN _⟩
        all_goals rw [HC.out]
        all_goals simp_all
        all_goals omega

set_option maxRecDepth 100000 in
set_option maxHeartbeats 2000000 in
theorem field_out (op a b n : Int) (hop : op = 25 ∨ op = 26) (mv : Value) (m : Meth) (kv : Value) (cp : Option Addr) (cc : Nat) (cs : List ByteArray) (nm : Nat) (w : World) (_hp : m.params.size ≤ 1000) (_hl : m.locals.size ≤ 1000) (ca : a < 0 ∨ (cs.length : Int) ≤ a) :
    Calls Tryd.prog 29 #[.agg #[.slice cp cs.length cc, mv], .agg #[.string m.params, .string m.locals, .string m.ret, kv], .agg #[.int .i64 op, .int .i64 a, .int .i64 b, .int .i64 n]] w fun e w' => e = .returned (.int .i64 (insCode cs nm m ⟨op, a, b, n⟩)) ∧ Upd [] w w' := by
  have HC : Hid (insCode cs nm m ⟨op, a, b, n⟩ = if a < 0 ∨ (cs.length : Int) ≤ a ∨ b < 0 ∨ ((cs.getD a.toNat ByteArray.empty).size : Int) ≤ b then 103 else if n ≠ 0 then 103 else 0) := by
    show _ = _
    rcases hop with rfl | rfl <;> simp [insCode, UA, UB]
  by_cases ca : a < 0
  · have d1 : decide (a < 0) = true := by simpa using ca
    rcases hop with rfl | rfl
    all_goals
      go_enter Tryd.func29, Tryd.ntmps29
      go_wp2_with fail
      go_quiet ((go_at_call 41; exact ub_yes _ _ (by decide) _))
      all_goals go_wp2_with (first | (go_at_call 42; refine (usesA_any _ _).mono ?_; rintro e w' ⟨rfl, rfl⟩) | (go_at_call 41; refine (usesB_any _ _).mono ?_; rintro e w' ⟨rfl, rfl⟩))
      all_goals go_ret
      all_goals refine ⟨ret_int3 ?_, ((((Upd.refl _ _).alloc _).alloc _).alloc _).drewN _⟩
      all_goals rw [HC.out]
      all_goals simp_all
      all_goals omega
  · have d1 : decide (a < 0) = false := by simpa using ca
    have cb : (cs.length : Int) ≤ a := by omega
    have d2 : decide ((cs.length : Int) ≤ a) = true := by simpa using cb
    rcases hop with rfl | rfl
    all_goals
      go_enter Tryd.func29, Tryd.ntmps29
      go_wp2_with fail
      go_quiet ((go_at_call 41; exact ub_yes _ _ (by decide) _))
      all_goals go_wp2_with (first | (go_at_call 42; refine (usesA_any _ _).mono ?_; rintro e w' ⟨rfl, rfl⟩) | (go_at_call 41; refine (usesB_any _ _).mono ?_; rintro e w' ⟨rfl, rfl⟩))
      all_goals go_ret
      all_goals refine ⟨ret_int3 ?_, ((((Upd.refl _ _).alloc _).alloc _).alloc _).drewN _⟩
      all_goals rw [HC.out]
      all_goals simp_all
      all_goals omega

set_option maxRecDepth 100000 in
set_option maxHeartbeats 2000000 in
theorem field_low (op b n : Int) (k : Nat) (hop : op = 25 ∨ op = 26) (mv : Value) (m : Meth) (kv : Value) (fs : ByteArray) (cb co cc : Nat) (cs : List ByteArray) (nm : Nat) (w : World) (_hp : m.params.size ≤ 1000) (_hl : m.locals.size ≤ 1000) (hk : k < cs.length) (hcell : w.cell? ⟨cb, co + k, none⟩ = some (.string fs)) (_hcz : fs.size ≤ 1000)
    (HC : Hid (insCode cs nm m ⟨op, k, b, n⟩ = if (k : Int) < 0 ∨ (cs.length : Int) ≤ k ∨ b < 0 ∨ (fs.size : Int) ≤ b then 103 else if n ≠ 0 then 103 else 0)) (c0 : b < 0) :
    Calls Tryd.prog 29 #[.agg #[.slice (some ⟨cb, co, none⟩) cs.length cc, mv], .agg #[.string m.params, .string m.locals, .string m.ret, kv], .agg #[.int .i64 op, .int .i64 k, .int .i64 b, .int .i64 n]] w fun e w' => e = .returned (.int .i64 (insCode cs nm m ⟨op, k, b, n⟩)) ∧ Upd [] w w' := by
  have d1 : decide ((k : Int) < 0) = false := by simp
  have d2 : decide (cs.length ≤ k) = false := by simp; omega
  have hkk : (k : Int) < (cs.length : Int) := by omega
  have hx := fun (o1 o2 o3 : Obj) (n : Nat) => ((((((Upd.refl [] w).alloc o1).alloc o2).alloc o3).drewN n).cell hcell (by simp))
  have hx1 := fun (o1 o2 o3 : Obj) => (((((Upd.refl [] w).alloc o1).alloc o2).alloc o3).cell hcell (by simp))
  clear hcell
  have d3 : decide (b < 0) = true := by simpa using c0
  rcases hop with rfl | rfl
  all_goals
    go_enter Tryd.func29, Tryd.ntmps29
    go_wp2_with fail
    go_quiet ((go_at_call 41; exact ub_yes _ _ (by decide) _))
    all_goals go_wp2_with (first | (go_at_call 42; refine (usesA_any _ _).mono ?_; rintro e w' ⟨rfl, rfl⟩) | (go_at_call 41; refine (usesB_any _ _).mono ?_; rintro e w' ⟨rfl, rfl⟩))
    all_goals go_ret
    all_goals refine ⟨ret_int3 ?_, ((((Upd.refl _ _).alloc _).alloc _).alloc _).drewN _⟩
    all_goals rw [HC.out]
    all_goals simp_all
    all_goals omega

set_option maxRecDepth 100000 in
set_option maxHeartbeats 2000000 in
theorem field_high (op b n : Int) (k : Nat) (hop : op = 25 ∨ op = 26) (mv : Value) (m : Meth) (kv : Value) (fs : ByteArray) (cb co cc : Nat) (cs : List ByteArray) (nm : Nat) (w : World) (_hp : m.params.size ≤ 1000) (_hl : m.locals.size ≤ 1000) (hk : k < cs.length) (hcell : w.cell? ⟨cb, co + k, none⟩ = some (.string fs)) (_hcz : fs.size ≤ 1000)
    (HC : Hid (insCode cs nm m ⟨op, k, b, n⟩ = if (k : Int) < 0 ∨ (cs.length : Int) ≤ k ∨ b < 0 ∨ (fs.size : Int) ≤ b then 103 else if n ≠ 0 then 103 else 0)) (c0 : ¬ b < 0) (c1 : (fs.size : Int) ≤ b) :
    Calls Tryd.prog 29 #[.agg #[.slice (some ⟨cb, co, none⟩) cs.length cc, mv], .agg #[.string m.params, .string m.locals, .string m.ret, kv], .agg #[.int .i64 op, .int .i64 k, .int .i64 b, .int .i64 n]] w fun e w' => e = .returned (.int .i64 (insCode cs nm m ⟨op, k, b, n⟩)) ∧ Upd [] w w' := by
  have d1 : decide ((k : Int) < 0) = false := by simp
  have d2 : decide (cs.length ≤ k) = false := by simp; omega
  have hkk : (k : Int) < (cs.length : Int) := by omega
  have hx := fun (o1 o2 o3 : Obj) (n : Nat) => ((((((Upd.refl [] w).alloc o1).alloc o2).alloc o3).drewN n).cell hcell (by simp))
  have hx1 := fun (o1 o2 o3 : Obj) => (((((Upd.refl [] w).alloc o1).alloc o2).alloc o3).cell hcell (by simp))
  clear hcell
  have d3 : decide (b < 0) = false := by simpa using c0
  have d4 : decide ((fs.size : Int) ≤ b) = true := by simpa using c1
  rcases hop with rfl | rfl
  all_goals
    go_enter Tryd.func29, Tryd.ntmps29
    go_wp2_with fail
    go_quiet ((go_at_call 41; exact ub_yes _ _ (by decide) _))
    all_goals go_wp2_with (first | (go_at_call 42; refine (usesA_any _ _).mono ?_; rintro e w' ⟨rfl, rfl⟩) | (go_at_call 41; refine (usesB_any _ _).mono ?_; rintro e w' ⟨rfl, rfl⟩))
    all_goals go_ret
    all_goals refine ⟨ret_int3 ?_, ((((Upd.refl _ _).alloc _).alloc _).alloc _).drewN _⟩
    all_goals rw [HC.out]
    all_goals simp_all
    all_goals omega

set_option maxRecDepth 100000 in
set_option maxHeartbeats 2000000 in
theorem field_in (op b n : Int) (k : Nat) (hop : op = 25 ∨ op = 26) (mv : Value) (m : Meth) (kv : Value) (fs : ByteArray) (cb co cc : Nat) (cs : List ByteArray) (nm : Nat) (w : World) (_hp : m.params.size ≤ 1000) (_hl : m.locals.size ≤ 1000) (hk : k < cs.length) (hcell : w.cell? ⟨cb, co + k, none⟩ = some (.string fs)) (_hcz : fs.size ≤ 1000)
    (HC : Hid (insCode cs nm m ⟨op, k, b, n⟩ = if (k : Int) < 0 ∨ (cs.length : Int) ≤ k ∨ b < 0 ∨ (fs.size : Int) ≤ b then 103 else if n ≠ 0 then 103 else 0)) (c0 : ¬ b < 0) (c1 : ¬ (fs.size : Int) ≤ b) :
    Calls Tryd.prog 29 #[.agg #[.slice (some ⟨cb, co, none⟩) cs.length cc, mv], .agg #[.string m.params, .string m.locals, .string m.ret, kv], .agg #[.int .i64 op, .int .i64 k, .int .i64 b, .int .i64 n]] w fun e w' => e = .returned (.int .i64 (insCode cs nm m ⟨op, k, b, n⟩)) ∧ Upd [] w w' := by
  have d1 : decide ((k : Int) < 0) = false := by simp
  have d2 : decide (cs.length ≤ k) = false := by simp; omega
  have hkk : (k : Int) < (cs.length : Int) := by omega
  have hx := fun (o1 o2 o3 : Obj) (n : Nat) => ((((((Upd.refl [] w).alloc o1).alloc o2).alloc o3).drewN n).cell hcell (by simp))
  have hx1 := fun (o1 o2 o3 : Obj) => (((((Upd.refl [] w).alloc o1).alloc o2).alloc o3).cell hcell (by simp))
  clear hcell
  have d3 : decide (b < 0) = false := by simpa using c0
  have d4 : decide ((fs.size : Int) ≤ b) = false := by simpa using c1
  rcases hop with rfl | rfl
  all_goals
    go_enter Tryd.func29, Tryd.ntmps29
    go_wp2_with fail
    go_quiet ((go_at_call 41; exact ub_yes _ _ (by decide) _))
    all_goals go_wp2_with (first | (go_at_call 42; refine (usesA_any _ _).mono ?_; rintro e w' ⟨rfl, rfl⟩) | (go_at_call 41; refine (usesB_any _ _).mono ?_; rintro e w' ⟨rfl, rfl⟩))
    all_goals go_ret
    all_goals refine ⟨ret_int3 ?_, ((((Upd.refl _ _).alloc _).alloc _).alloc _).drewN _⟩
    all_goals rw [HC.out]
    all_goals simp_all
    all_goals omega

theorem instr_field (op a b n : Int) (hop : op = 25 ∨ op = 26) (mv : Value) (m : Meth) (kv cv : Value) (cb co : Nat) (cs : List ByteArray) (nm : Nat) (w : World) (_hp : m.params.size ≤ 1000) (_hl : m.locals.size ≤ 1000) (h : ClsAt w cv cb co cs) (_hcs : ∀ c ∈ cs, c.size ≤ 1000) :
    Calls Tryd.prog 29 #[.agg #[cv, mv], .agg #[.string m.params, .string m.locals, .string m.ret, kv], .agg #[.int .i64 op, .int .i64 a, .int .i64 b, .int .i64 n]] w fun e w' => e = .returned (.int .i64 (insCode cs nm m ⟨op, a, b, n⟩)) ∧ Upd [] w w' := by
  have HC : Hid (insCode cs nm m ⟨op, a, b, n⟩ = if a < 0 ∨ (cs.length : Int) ≤ a ∨ b < 0 ∨ ((cs.getD a.toNat ByteArray.empty).size : Int) ≤ b then 103 else if n ≠ 0 then 103 else 0) := by
    show _ = _
    rcases hop with rfl | rfl <;> simp [insCode, UA, UB]
  obtain ⟨cp, cc, hcv⟩ := h.shape
  by_cases ca : a < 0 ∨ (cs.length : Int) ≤ a
  · subst hcv
    exact field_out op a b n hop mv m kv cp cc cs nm w _hp _hl ca
  · obtain ⟨k, rfl⟩ := Int.eq_ofNat_of_zero_le (show 0 ≤ a by omega)
    have hk : k < cs.length := by omega
    obtain ⟨rfl, hcell⟩ : cp = some ⟨cb, co, none⟩ ∧ w.cell? ⟨cb, co + k, none⟩ = some (.string (cs.getD k ByteArray.empty)) := by
      obtain ⟨hv, hc⟩ := h
      refine ⟨?_, hc k hk⟩
      rcases hv with ⟨_, ha⟩ | ⟨x, cap, hv, ha | rfl⟩
      · rw [ha] at hk; simp at hk
      · rw [ha] at hk; simp at hk
      · rw [hcv] at hv; injection hv
    subst hcv
    have hcz := _hcs (cs.getD k ByteArray.empty) (by rw [List.getD_eq_getElem?_getD, List.getElem?_eq_getElem hk]; exact List.getElem_mem hk)
    rw [Int.toNat_natCast] at HC
    by_cases c0 : b < 0
    · exact field_low op b n k hop mv m kv _ cb co cc cs nm w _hp _hl hk hcell hcz HC c0
    · by_cases c1 : ((cs.getD k ByteArray.empty).size : Int) ≤ b
      · exact field_high op b n k hop mv m kv _ cb co cc cs nm w _hp _hl hk hcell hcz HC c0 c1
      · exact field_in op b n k hop mv m kv _ cb co cc cs nm w _hp _hl hk hcell hcz HC c0 c1

end Go.Proofs.YtagjchgpcekmnaaDoor
