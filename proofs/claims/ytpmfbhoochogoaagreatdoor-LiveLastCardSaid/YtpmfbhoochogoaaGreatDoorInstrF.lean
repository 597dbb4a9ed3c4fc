/- prog.instr at Get and Put; prog.instr whole. -/
import Derived.Test.YtpmfbhoochogoaaGreatDoorInstrW
namespace Go.Proofs.YtpmfbhoochogoaaGreatDoor
open Go.RowKit

abbrev Four (w : World) (B : Nat) (cv : Value) (a b : Int) (ca : Addr) (fs : ByteArray) : Prop :=
  w.cell? ⟨B, 0, none⟩ = some cv ∧ w.cell? ⟨B + 2, 1, none⟩ = some (.int .i64 a) ∧ w.cell? ⟨B + 2, 2, none⟩ = some (.int .i64 b) ∧ w.cell? ca = some (.string fs)
theorem pin_q2 (i n : Int) (t : Bool) (h : decide (0 ≤ i ∧ i < n) = t) (k : Nat) (w : World) : Calls Tryz.prog 95 #[.int .i64 i, .int .i64 n] (w.drewN k) fun e w'' => e = .returned (.bool t) ∧ ∃ m, w'' = w.drewN m := by
  have := pin_q i n k w
  rwa [h] at this

set_option maxRecDepth 100000 in
set_option maxHeartbeats 4000000 in
theorem pinstr_fld25 (a b n : Int) (cs : List ByteArray) (m : Meth) (cp mp kp : Option Addr) (nm cc mc kc : Nat) (E : Nat → Addr) (w : World) (hS : SentAt w E) (hc : ClassAt w (.slice cp cs.length cc) cs) (hz : ∀ c ∈ cs, c.size ≤ 1000) (_hp : m.params.size ≤ 1000) (_hl : m.locals.size ≤ 1000) (_h1 : cs.length ≤ 1000) (_h2 : nm ≤ 1000) (_h3 : m.code.length ≤ 1000000000) :
    Calls Tryz.prog 76 #[.agg #[.slice cp cs.length cc, .slice mp nm mc], .agg #[.string m.params, .string m.locals, .string m.ret, .slice kp m.code.length kc], .agg #[.int .i64 25, .int .i64 a, .int .i64 b, .int .i64 n]] w fun e w' => e = .returned (errC E (insCode cs nm m ⟨25, a, b, n⟩)) ∧ Upd [] w w' := by
  have hIB := IB.start w E (.slice cp cs.length cc) (.slice mp nm mc) (.slice kp m.code.length kc) m 25 a b n hS
  have HU := Lib.hid ((((Upd.refl [] w).alloc (.cells #[.slice cp cs.length cc, .slice mp nm mc] 36)).alloc (.cells #[.string m.params, .string m.locals, .string m.ret, .slice kp m.code.length kc] 27)).alloc (.cells #[.int .i64 25, .int .i64 a, .int .i64 b, .int .i64 n] 24))
  clear hS
  have HC : Hid (insCode cs nm m ⟨25, a, b, n⟩ = if ¬ (0 ≤ a ∧ a < (cs.length : Int)) then 103 else if ¬ (0 ≤ b ∧ b < ((cs.getD a.toNat ByteArray.empty).size : Int)) then 103 else if n ≠ 0 then 103 else 0) := by
    show _ = _
    clear hIB HU hc hz
    have hz : insCode cs nm m ⟨25, a, b, n⟩ = if a < 0 ∨ (cs.length : Int) ≤ a ∨ b < 0 ∨ ((cs.getD a.toNat ByteArray.empty).size : Int) ≤ b then 103 else if n ≠ 0 then 103 else 0 := by simp [insCode, UA, UB]
    rw [hz]
    clear hz
    generalize (cs.getD a.toNat ByteArray.empty).size = z
    by_cases h0 : 0 ≤ a ∧ a < (cs.length : Int)
    · by_cases h1 : 0 ≤ b ∧ b < (z : Int)
      · rw [if_neg (by omega : ¬ (a < 0 ∨ (cs.length : Int) ≤ a ∨ b < 0 ∨ (z : Int) ≤ b)), if_neg (by omega : ¬ ¬ (0 ≤ a ∧ a < (cs.length : Int))), if_neg (by omega : ¬ ¬ (0 ≤ b ∧ b < (z : Int)))]
      · rw [if_pos (by omega : a < 0 ∨ (cs.length : Int) ≤ a ∨ b < 0 ∨ (z : Int) ≤ b), if_neg (by omega : ¬ ¬ (0 ≤ a ∧ a < (cs.length : Int))), if_pos h1]
    · rw [if_pos (by omega : a < 0 ∨ (cs.length : Int) ≤ a ∨ b < 0 ∨ (z : Int) ≤ b), if_pos h0]
  go_enter Tryz.func76, Tryz.ntmps76
  go_upto_region 1 with fail
  generalize (((w.alloc (.cells #[.slice cp cs.length cc, .slice mp nm mc] 36)).alloc (.cells #[.string m.params, .string m.locals, .string m.ret, .slice kp m.code.length kc] 27)).alloc (.cells #[.int .i64 25, .int .i64 a, .int .i64 b, .int .i64 n] 24)) = w3 at HU hIB ⊢
  have i0 := hIB.i0
  have i1 := hIB.i1
  have i2 := hIB.i2
  have i3 := hIB.i3
  have p0 := hIB.p0
  have p1 := hIB.p1
  have m0 := hIB.m0
  have m1 := hIB.m1
  have m2 := hIB.m2
  have m3 := hIB.m3
  have g1 := hIB.g1
  have g4 := hIB.g4
  have i0q := fun q => (hIB.upd ((Upd.refl [] w3).drewN q)).i0
  have HIB := Lib.hid hIB
  clear hIB
  by_cases ca : 0 ≤ a ∧ a < (cs.length : Int)
  · obtain ⟨k, rfl⟩ := Int.eq_ofNat_of_zero_le ca.1
    have hk : k < cs.length := by omega
    rw [if_neg (fun h => h ca), Int.toNat_natCast] at HC
    obtain ⟨x1, x2, hcv, _, _, hccm, hcx⟩ := hc
    obtain ⟨cb, co, hcp, _, hcell⟩ := hcx k hk
    injection hcv with hcv1 _ _
    subst hcv1
    subst hcp
    have hzz := hz (cs.getD k ByteArray.empty) (by rw [List.getD_eq_getElem?_getD, List.getElem?_eq_getElem hk]; exact List.getElem_mem hk)
    have hcl := fun q => (HU.out.drewN q).cell hcell (by simp)
    have hcl0 := HU.out.cell hcell (by simp)
    generalize cs.getD k ByteArray.empty = fs at HC hzz hcl hcl0
    clear ca hcx hcell hz
    have hF0 : Four w3 w.heap.size (.slice (some ⟨cb, co, none⟩) cs.length cc) (k : Int) b ⟨cb, co + k, none⟩ fs := ⟨p0, i1, i2, hcl0⟩
    have hF1 : Four w3.drew w.heap.size (.slice (some ⟨cb, co, none⟩) cs.length cc) (k : Int) b ⟨cb, co + k, none⟩ fs := hF0
    have HDA := Lib.hid (decide_eq_true (show 0 ≤ (k : Int) ∧ (k : Int) < (cs.length : Int) from ⟨Int.natCast_nonneg _, by omega⟩))
    by_cases cb2 : 0 ≤ b ∧ b < (fs.size : Int)
    · have HDB := Lib.hid (decide_eq_true cb2)
      rw [if_neg (fun h => h cb2)] at HC
      clear cb2
      go_wp2_with fail
      go_region_held3 (fun w' => Four w' w.heap.size (.slice (some ⟨cb, co, none⟩) cs.length cc) (k : Int) b ⟨cb, co + k, none⟩ fs)
        (first | exact hF1 | exact hF0)
        ((go_at_call 95; refine (pin_any _ _ _).mono ?_; rintro e w' ⟨rfl, rfl⟩; first | rw [HDA.out] | rw [HDB.out]))
      go_wp2_with fail
      refine (uses_any _ _).mono ?_
      rintro e w4 ⟨rfl, hu4⟩
      have HU4 := Lib.hid ((HU.out.drew).trans hu4)
      have j1 := ((HIB.out.upd (Upd.refl [] w3).drew).upd hu4).i1
      have j2 := ((HIB.out.upd (Upd.refl [] w3).drew).upd hu4).i2
      have j3 := ((HIB.out.upd (Upd.refl [] w3).drew).upd hu4).i3
      have k5 := ((HIB.out.upd (Upd.refl [] w3).drew).upd hu4).g5
      clear hu4
      rw [show decide (UA 25) = true by decide, show decide (UB 25) = true by decide, show decide ((25 : Int) = 1) = false by decide]
      go_wp2_with fail
      all_goals
        go_ret
        refine ⟨?_, HU4.out⟩
        first
          | refine ret_code _ 2 (by rfl) ?_
          | refine ret_code0 _ (by rfl) ?_
        rw [HC.out]
        simp_all
    · have HDB := Lib.hid (decide_eq_false cb2)
      rw [if_pos cb2] at HC
      clear cb2
      go_wp2_with fail
      go_region_held3 (fun w' => Four w' w.heap.size (.slice (some ⟨cb, co, none⟩) cs.length cc) (k : Int) b ⟨cb, co + k, none⟩ fs)
        (first | exact hF1 | exact hF0)
        ((go_at_call 95; refine (pin_any _ _ _).mono ?_; rintro e w' ⟨rfl, rfl⟩; first | rw [HDA.out] | rw [HDB.out]))
      go_wp2_with fail
      refine (uses_any _ _).mono ?_
      rintro e w4 ⟨rfl, hu4⟩
      have HU4 := Lib.hid ((HU.out.drew).trans hu4)
      have j1 := ((HIB.out.upd (Upd.refl [] w3).drew).upd hu4).i1
      have j2 := ((HIB.out.upd (Upd.refl [] w3).drew).upd hu4).i2
      have j3 := ((HIB.out.upd (Upd.refl [] w3).drew).upd hu4).i3
      have k5 := ((HIB.out.upd (Upd.refl [] w3).drew).upd hu4).g5
      clear hu4
      rw [show decide (UA 25) = true by decide, show decide (UB 25) = true by decide, show decide ((25 : Int) = 1) = false by decide]
      go_wp2_with fail
      all_goals
        go_ret
        refine ⟨?_, HU4.out⟩
        first
          | refine ret_code _ 2 (by rfl) ?_
          | refine ret_code0 _ (by rfl) ?_
        rw [HC.out]
        simp_all
  · rw [if_pos ca] at HC
    have HDA := Lib.hid (fun q w' => pin_q2 a cs.length false (decide_eq_false ca) q w')
    clear hc hz ca
    go_wp2_with fail
    go_quiet ((go_at_call 95; exact HDA.out _ _))
    go_wp2_with fail
    refine (uses_any _ _).mono ?_
    rintro e w4 ⟨rfl, hu4⟩
    have HU4 := Lib.hid ((HU.out.drewN _).trans hu4)
    have j1 := ((HIB.out.upd ((Upd.refl [] w3).drewN _)).upd hu4).i1
    have j2 := ((HIB.out.upd ((Upd.refl [] w3).drewN _)).upd hu4).i2
    have j3 := ((HIB.out.upd ((Upd.refl [] w3).drewN _)).upd hu4).i3
    have k5 := ((HIB.out.upd ((Upd.refl [] w3).drewN _)).upd hu4).g5
    clear hu4
    rw [show decide (UA 25) = true by decide, show decide (UB 25) = true by decide, show decide ((25 : Int) = 1) = false by decide]
    go_wp2_with fail
    all_goals
      go_ret
      refine ⟨?_, HU4.out⟩
      first
        | refine ret_code _ 2 (by rfl) ?_
        | refine ret_code0 _ (by rfl) ?_
      rw [HC.out]
      simp_all

set_option maxRecDepth 100000 in
set_option maxHeartbeats 4000000 in
theorem pinstr_fld26 (a b n : Int) (cs : List ByteArray) (m : Meth) (cp mp kp : Option Addr) (nm cc mc kc : Nat) (E : Nat → Addr) (w : World) (hS : SentAt w E) (hc : ClassAt w (.slice cp cs.length cc) cs) (hz : ∀ c ∈ cs, c.size ≤ 1000) (_hp : m.params.size ≤ 1000) (_hl : m.locals.size ≤ 1000) (_h1 : cs.length ≤ 1000) (_h2 : nm ≤ 1000) (_h3 : m.code.length ≤ 1000000000) :
    Calls Tryz.prog 76 #[.agg #[.slice cp cs.length cc, .slice mp nm mc], .agg #[.string m.params, .string m.locals, .string m.ret, .slice kp m.code.length kc], .agg #[.int .i64 26, .int .i64 a, .int .i64 b, .int .i64 n]] w fun e w' => e = .returned (errC E (insCode cs nm m ⟨26, a, b, n⟩)) ∧ Upd [] w w' := by
  have hIB := IB.start w E (.slice cp cs.length cc) (.slice mp nm mc) (.slice kp m.code.length kc) m 26 a b n hS
  have HU := Lib.hid ((((Upd.refl [] w).alloc (.cells #[.slice cp cs.length cc, .slice mp nm mc] 36)).alloc (.cells #[.string m.params, .string m.locals, .string m.ret, .slice kp m.code.length kc] 27)).alloc (.cells #[.int .i64 26, .int .i64 a, .int .i64 b, .int .i64 n] 24))
  clear hS
  have HC : Hid (insCode cs nm m ⟨26, a, b, n⟩ = if ¬ (0 ≤ a ∧ a < (cs.length : Int)) then 103 else if ¬ (0 ≤ b ∧ b < ((cs.getD a.toNat ByteArray.empty).size : Int)) then 103 else if n ≠ 0 then 103 else 0) := by
    show _ = _
    clear hIB HU hc hz
    have hz : insCode cs nm m ⟨26, a, b, n⟩ = if a < 0 ∨ (cs.length : Int) ≤ a ∨ b < 0 ∨ ((cs.getD a.toNat ByteArray.empty).size : Int) ≤ b then 103 else if n ≠ 0 then 103 else 0 := by simp [insCode, UA, UB]
    rw [hz]
    clear hz
    generalize (cs.getD a.toNat ByteArray.empty).size = z
    by_cases h0 : 0 ≤ a ∧ a < (cs.length : Int)
    · by_cases h1 : 0 ≤ b ∧ b < (z : Int)
      · rw [if_neg (by omega : ¬ (a < 0 ∨ (cs.length : Int) ≤ a ∨ b < 0 ∨ (z : Int) ≤ b)), if_neg (by omega : ¬ ¬ (0 ≤ a ∧ a < (cs.length : Int))), if_neg (by omega : ¬ ¬ (0 ≤ b ∧ b < (z : Int)))]
      · rw [if_pos (by omega : a < 0 ∨ (cs.length : Int) ≤ a ∨ b < 0 ∨ (z : Int) ≤ b), if_neg (by omega : ¬ ¬ (0 ≤ a ∧ a < (cs.length : Int))), if_pos h1]
    · rw [if_pos (by omega : a < 0 ∨ (cs.length : Int) ≤ a ∨ b < 0 ∨ (z : Int) ≤ b), if_pos h0]
  go_enter Tryz.func76, Tryz.ntmps76
  go_upto_region 1 with fail
  generalize (((w.alloc (.cells #[.slice cp cs.length cc, .slice mp nm mc] 36)).alloc (.cells #[.string m.params, .string m.locals, .string m.ret, .slice kp m.code.length kc] 27)).alloc (.cells #[.int .i64 26, .int .i64 a, .int .i64 b, .int .i64 n] 24)) = w3 at HU hIB ⊢
  have i0 := hIB.i0
  have i1 := hIB.i1
  have i2 := hIB.i2
  have i3 := hIB.i3
  have p0 := hIB.p0
  have p1 := hIB.p1
  have m0 := hIB.m0
  have m1 := hIB.m1
  have m2 := hIB.m2
  have m3 := hIB.m3
  have g1 := hIB.g1
  have g4 := hIB.g4
  have i0q := fun q => (hIB.upd ((Upd.refl [] w3).drewN q)).i0
  have HIB := Lib.hid hIB
  clear hIB
  by_cases ca : 0 ≤ a ∧ a < (cs.length : Int)
  · obtain ⟨k, rfl⟩ := Int.eq_ofNat_of_zero_le ca.1
    have hk : k < cs.length := by omega
    rw [if_neg (fun h => h ca), Int.toNat_natCast] at HC
    obtain ⟨x1, x2, hcv, _, _, hccm, hcx⟩ := hc
    obtain ⟨cb, co, hcp, _, hcell⟩ := hcx k hk
    injection hcv with hcv1 _ _
    subst hcv1
    subst hcp
    have hzz := hz (cs.getD k ByteArray.empty) (by rw [List.getD_eq_getElem?_getD, List.getElem?_eq_getElem hk]; exact List.getElem_mem hk)
    have hcl := fun q => (HU.out.drewN q).cell hcell (by simp)
    have hcl0 := HU.out.cell hcell (by simp)
    generalize cs.getD k ByteArray.empty = fs at HC hzz hcl hcl0
    clear ca hcx hcell hz
    have hF0 : Four w3 w.heap.size (.slice (some ⟨cb, co, none⟩) cs.length cc) (k : Int) b ⟨cb, co + k, none⟩ fs := ⟨p0, i1, i2, hcl0⟩
    have hF1 : Four w3.drew w.heap.size (.slice (some ⟨cb, co, none⟩) cs.length cc) (k : Int) b ⟨cb, co + k, none⟩ fs := hF0
    have HDA := Lib.hid (decide_eq_true (show 0 ≤ (k : Int) ∧ (k : Int) < (cs.length : Int) from ⟨Int.natCast_nonneg _, by omega⟩))
    by_cases cb2 : 0 ≤ b ∧ b < (fs.size : Int)
    · have HDB := Lib.hid (decide_eq_true cb2)
      rw [if_neg (fun h => h cb2)] at HC
      clear cb2
      go_wp2_with fail
      go_region_held3 (fun w' => Four w' w.heap.size (.slice (some ⟨cb, co, none⟩) cs.length cc) (k : Int) b ⟨cb, co + k, none⟩ fs)
        (first | exact hF1 | exact hF0)
        ((go_at_call 95; refine (pin_any _ _ _).mono ?_; rintro e w' ⟨rfl, rfl⟩; first | rw [HDA.out] | rw [HDB.out]))
      go_wp2_with fail
      refine (uses_any _ _).mono ?_
      rintro e w4 ⟨rfl, hu4⟩
      have HU4 := Lib.hid ((HU.out.drew).trans hu4)
      have j1 := ((HIB.out.upd (Upd.refl [] w3).drew).upd hu4).i1
      have j2 := ((HIB.out.upd (Upd.refl [] w3).drew).upd hu4).i2
      have j3 := ((HIB.out.upd (Upd.refl [] w3).drew).upd hu4).i3
      have k5 := ((HIB.out.upd (Upd.refl [] w3).drew).upd hu4).g5
      clear hu4
      rw [show decide (UA 26) = true by decide, show decide (UB 26) = true by decide, show decide ((26 : Int) = 1) = false by decide]
      go_wp2_with fail
      all_goals
        go_ret
        refine ⟨?_, HU4.out⟩
        first
          | refine ret_code _ 2 (by rfl) ?_
          | refine ret_code0 _ (by rfl) ?_
        rw [HC.out]
        simp_all
    · have HDB := Lib.hid (decide_eq_false cb2)
      rw [if_pos cb2] at HC
      clear cb2
      go_wp2_with fail
      go_region_held3 (fun w' => Four w' w.heap.size (.slice (some ⟨cb, co, none⟩) cs.length cc) (k : Int) b ⟨cb, co + k, none⟩ fs)
        (first | exact hF1 | exact hF0)
        ((go_at_call 95; refine (pin_any _ _ _).mono ?_; rintro e w' ⟨rfl, rfl⟩; first | rw [HDA.out] | rw [HDB.out]))
      go_wp2_with fail
      refine (uses_any _ _).mono ?_
      rintro e w4 ⟨rfl, hu4⟩
      have HU4 := Lib.hid ((HU.out.drew).trans hu4)
      have j1 := ((HIB.out.upd (Upd.refl [] w3).drew).upd hu4).i1
      have j2 := ((HIB.out.upd (Upd.refl [] w3).drew).upd hu4).i2
      have j3 := ((HIB.out.upd (Upd.refl [] w3).drew).upd hu4).i3
      have k5 := ((HIB.out.upd (Upd.refl [] w3).drew).upd hu4).g5
      clear hu4
      rw [show decide (UA 26) = true by decide, show decide (UB 26) = true by decide, show decide ((26 : Int) = 1) = false by decide]
      go_wp2_with fail
      all_goals
        go_ret
        refine ⟨?_, HU4.out⟩
        first
          | refine ret_code _ 2 (by rfl) ?_
          | refine ret_code0 _ (by rfl) ?_
        rw [HC.out]
        simp_all
  · rw [if_pos ca] at HC
    have HDA := Lib.hid (fun q w' => pin_q2 a cs.length false (decide_eq_false ca) q w')
    clear hc hz ca
    go_wp2_with fail
    go_quiet ((go_at_call 95; exact HDA.out _ _))
    go_wp2_with fail
    refine (uses_any _ _).mono ?_
    rintro e w4 ⟨rfl, hu4⟩
    have HU4 := Lib.hid ((HU.out.drewN _).trans hu4)
    have j1 := ((HIB.out.upd ((Upd.refl [] w3).drewN _)).upd hu4).i1
    have j2 := ((HIB.out.upd ((Upd.refl [] w3).drewN _)).upd hu4).i2
    have j3 := ((HIB.out.upd ((Upd.refl [] w3).drewN _)).upd hu4).i3
    have k5 := ((HIB.out.upd ((Upd.refl [] w3).drewN _)).upd hu4).g5
    clear hu4
    rw [show decide (UA 26) = true by decide, show decide (UB 26) = true by decide, show decide ((26 : Int) = 1) = false by decide]
    go_wp2_with fail
    all_goals
      go_ret
      refine ⟨?_, HU4.out⟩
      first
        | refine ret_code _ 2 (by rfl) ?_
        | refine ret_code0 _ (by rfl) ?_
      rw [HC.out]
      simp_all

/-- prog.instr, whole. -/
theorem pinstr_any (m : Meth) (x : Ins) (cs : List ByteArray) (cv : Value) (mp kp : Option Addr) (nm mc kc : Nat) (E : Nat → Addr) (w : World) (hS : SentAt w E) (hc : ClassAt w cv cs) (hz : ∀ c ∈ cs, c.size ≤ 1000) (hp : m.params.size ≤ 1000) (hl : m.locals.size ≤ 1000) (h1 : cs.length ≤ 1000) (h2 : nm ≤ 1000) (h3 : m.code.length ≤ 1000000000) :
    Calls Tryz.prog 76 #[.agg #[cv, .slice mp nm mc], .agg #[.string m.params, .string m.locals, .string m.ret, .slice kp m.code.length kc], .agg #[.int .i64 x.op, .int .i64 x.a, .int .i64 x.b, .int .i64 x.n]] w fun e w' => e = .returned (errC E (insCode cs nm m x)) ∧ Upd [] w w' := by
  obtain ⟨op, a, b, n⟩ := x
  obtain ⟨cp, cc, rfl⟩ : ∃ cp cc, cv = .slice cp cs.length cc := by obtain ⟨cp, cc, h, _⟩ := hc; exact ⟨cp, cc, h⟩
  simp only
  by_cases hb : op < 1 ∨ 35 < op
  · exact pinstr_bad op a b n hb cs m cp mp kp nm cc mc kc E w hS hp hl h1 h2 h3
  have hcase : op = 3 ∨ op = 4 ∨ op = 22 ∨ op = 23 ∨ op = 24 ∨ op = 25 ∨ op = 26 ∨ op = 27 ∨ op = 28 ∨ op = 29 ∨ op = 30 ∨ op = 32 ∨ ¬ UA op := by
    unfold UA
    omega
  rcases hcase with rfl | rfl | rfl | rfl | rfl | rfl | rfl | rfl | rfl | rfl | rfl | rfl | hu
  · exact pinstr_loc3 a b n cs m cp mp kp nm cc mc kc E w hS hp hl h1 h2 h3
  · exact pinstr_loc4 a b n cs m cp mp kp nm cc mc kc E w hS hp hl h1 h2 h3
  · exact pinstr_jump22 a b n cs m cp mp kp nm cc mc kc E w hS hp hl h1 h2 h3
  · exact pinstr_jump23 a b n cs m cp mp kp nm cc mc kc E w hS hp hl h1 h2 h3
  · exact pinstr_cls24 a b n cs m cp mp kp nm cc mc kc E w hS hp hl h1 h2 h3
  · exact pinstr_fld25 a b n cs m cp mp kp nm cc mc kc E w hS hc hz hp hl h1 h2 h3
  · exact pinstr_fld26 a b n cs m cp mp kp nm cc mc kc E w hS hc hz hp hl h1 h2 h3
  · exact pinstr_cls27 a b n cs m cp mp kp nm cc mc kc E w hS hp hl h1 h2 h3
  · exact pinstr_arr28 a b n cs m cp mp kp nm cc mc kc E w hS hp hl h1 h2 h3
  · exact pinstr_arr29 a b n cs m cp mp kp nm cc mc kc E w hS hp hl h1 h2 h3
  · exact pinstr_arr30 a b n cs m cp mp kp nm cc mc kc E w hS hp hl h1 h2 h3
  · exact pinstr_call a b n cs m cp mp kp nm cc mc kc E w hS hp hl h1 h2 h3
  · have q : ∀ k : Int, (∀ h : op = k, UA op) → (op == k) = false := fun k h => by rw [beq_eq_false_iff_ne]; exact fun e => hu (h e)
    have hub : ¬ UB op := fun h => hu (by unfold UA; unfold UB at h; omega)
    exact pinstr_plain op a b n (by omega) (by omega) hu hub (q 3 (by intro h; subst h; decide)) (q 4 (by intro h; subst h; decide)) (q 22 (by intro h; subst h; decide)) (q 23 (by intro h; subst h; decide)) (q 24 (by intro h; subst h; decide)) (q 25 (by intro h; subst h; decide)) (q 26 (by intro h; subst h; decide)) (q 27 (by intro h; subst h; decide)) (q 28 (by intro h; subst h; decide)) (q 29 (by intro h; subst h; decide)) (q 30 (by intro h; subst h; decide)) (q 32 (by intro h; subst h; decide)) cs m cp mp kp nm cc mc kc E w hS hp hl h1 h2 h3
end Go.Proofs.YtpmfbhoochogoaaGreatDoor

