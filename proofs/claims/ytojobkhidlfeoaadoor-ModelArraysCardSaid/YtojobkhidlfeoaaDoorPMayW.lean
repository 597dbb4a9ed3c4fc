/- prog.head. prog.May. -/
import Derived.Test.YtojobkhidlfeoaaDoorInstrF
import Derived.Test.YtojobkhidlfeoaaDoorSent
import Derived.Test.YtojobkhidlfeoaaDoorStepL
import Derived.Deep.DeepCutAuto
/-! prog.head. -/
namespace Go.Proofs.YtojobkhidlfeoaaDoor
open Go.RowKit

set_option maxRecDepth 100000 in
set_option maxHeartbeats 4000000 in
theorem phead_one (k : Nat) (m : Meth) (kp : Option Addr) (kc : Nat) (E : Nat → Addr) (w : World) (hS : SentAt w E) (z1 : m.params.size ≤ 9223372036854775807) (z2 : m.locals.size ≤ 9223372036854775807) (z4 : m.code.length ≤ 9223372036854775807) (z0 : 0 < m.code.length) :
  Calls Tryd.prog 23 #[.agg #[.string m.params, .string m.locals, .string m.ret, .slice kp m.code.length kc], .bool (decide (k = 0))] w fun e w' => e = .returned (errC E (headCode k m)) ∧ Upd [] w w' := by
 have HU := Lib.hid ((Upd.refl [] w).alloc (.cells #[.string m.params, .string m.locals, .string m.ret, .slice kp m.code.length kc] 32))
 have hb := heap_alloc_new w (.cells #[.string m.params, .string m.locals, .string m.ret, .slice kp m.code.length kc] 32)
 have hS1 := hS.upd HU.out
 clear hS
 go_enter Tryd.func23, Tryd.ntmps23
 go_upto_region 1 with fail
 generalize w.alloc (.cells #[.string m.params, .string m.locals, .string m.ret, .slice kp m.code.length kc] 32) = w1 at HU hb hS1 ⊢
 have m0 : w1.cell? ⟨w.heap.size, 0, none⟩ = some (.string m.params) := by rw [cell_of hb]; rfl
 have m1 : w1.cell? ⟨w.heap.size, 1, none⟩ = some (.string m.locals) := by rw [cell_of hb]; rfl
 have m2 : w1.cell? ⟨w.heap.size, 2, none⟩ = some (.string m.ret) := by rw [cell_of hb]; rfl
 have m3 : w1.cell? ⟨w.heap.size, 3, none⟩ = some (.slice kp m.code.length kc) := by rw [cell_of hb]; rfl
 have g0 : w1.cell? ⟨1, 0, none⟩ = some (.iface 175 (.pointer (some (E 0)))) := hS1.g 0 (by omega)
 have HS1 := Lib.hid hS1
 have HB := Lib.hid hb
 clear hS1 hb
 go_cut [5] (fun v wx => v = .bool (decide (retOk m.ret)) ∧ w1 = wx)
 case first =>
  go_wp2_with fail
  all_goals go_meet
  all_goals refine ⟨?_, rfl⟩
  all_goals (congr 1; rw [Bool.eq_iff_iff, decide_eq_true_eq]; unfold retOk; simp_all)
 case rest =>
  obtain ⟨rfl, rfl⟩ := hcut
  go_upto_region 2 with fail
  go_cut [19] (fun v wx => v = .bool (decide (12 < m.params.size ∨ (12 : Int) - m.params.size < m.locals.size ∨ m.code.length < 1 ∨ 120 < m.code.length)) ∧ w1 = wx)
  case first =>
   have d0 : ((m.code.length : Int) == 0) = false := by rw [beq_eq_false_iff_ne]; omega
   by_cases c1 : 12 < m.params.size
   ·have d1 : decide ((12 : Int) < (m.params.size : Int)) = true := decide_eq_true (by omega)
    go_wp2_with fail
    all_goals go_meet
    all_goals refine ⟨?_, rfl⟩
    all_goals (rw [decide_eq_true (Or.inl c1)])
   ·have d1 : decide ((12 : Int) < (m.params.size : Int)) = false := decide_eq_false (by omega)
    go_wp2_with fail
    all_goals go_meet
    all_goals refine ⟨?_, rfl⟩
    all_goals (congr 1; rw [Bool.eq_iff_iff, decide_eq_true_eq]; first | (simp only [Bool.or_eq_true, decide_eq_true_eq]; omega) | exact ⟨fun _ => by omega, fun _ => rfl⟩)
  case rest =>
   obtain ⟨rfl, rfl⟩ := hcut
   by_cases c1 : 12 < m.params.size ∨ (12 : Int) - m.params.size < m.locals.size ∨ m.code.length < 1 ∨ 120 < m.code.length
   ·rw [decide_eq_true c1]
    have HC : Hid (headCode k m = 101) := by show _ = _; unfold headCode; rw [if_pos c1]
    clear c1
    go_wp2_with fail
    go_ret
    refine ⟨?_, HU.out⟩
    exact ret_err 0 HC.out
   ·rw [decide_eq_false c1]
    have HC : Hid (headCode k m = if ¬ lettersB m.params = true ∨ ¬ lettersB m.locals = true ∨ ¬ retOk m.ret ∨ k = 0 ∧ (m.params.toList ≠ [] ∨ m.ret.toList = [82]) then 102 else 0) := by show _ = _; unfold headCode; rw [if_neg c1]
    have y1 : m.params.size ≤ 12 := by omega
    have y2 : m.locals.size ≤ 12 := by omega
    clear c1
    generalize hrb : decide (retOk m.ret) = rb
    generalize hkb : decide (k = 0) = kb
    have HRB := Lib.hid hrb
    have HKB := Lib.hid hkb
    clear hrb hkb
    go_upto_region 4 with fail
    go_cut [47] (fun v wx => v = .bool (decide (¬ lettersB m.params = true ∨ ¬ lettersB m.locals = true ∨ ¬ retOk m.ret ∨ k = 0 ∧ (m.params.toList ≠ [] ∨ m.ret.toList = [82]))) ∧ Hid (Upd [] w1 wx))
    case first =>
     have HL1 := Lib.hid (fun w => pletters_any m.params w (by omega))
     have HL2 := Lib.hid (fun w => pletters_any m.locals w (by omega))
     go_wp2_with fail
     refine (HL1.out _).mono ?_
     rintro e w2 ⟨rfl, hu2⟩
     have m0 := hu2.cell m0 (by simp)
     have m1 := hu2.cell m1 (by simp)
     have m2 := hu2.cell m2 (by simp)
     have HU2 := Lib.hid hu2
     clear hu2
     by_cases a1 : lettersB m.params = true
     ·rw [a1]
      go_wp2_with fail
      refine (HL2.out _).mono ?_
      rintro e w3 ⟨rfl, hu3⟩
      have m0 := hu3.cell m0 (by simp)
      have m2 := hu3.cell m2 (by simp)
      have HU3 := Lib.hid (HU2.out.trans hu3)
      clear hu3
      by_cases a3 : lettersB m.locals = true
      ·rw [a3]
       cases rb with
       | true =>
        have HA := Lib.hid (of_decide_eq_true HRB.out)
        cases kb with
        | true =>
         have HK := Lib.hid (of_decide_eq_true HKB.out)
         clear HRB HKB
         go_wp2_with fail
         all_goals go_meet
         all_goals refine ⟨?_, HU3.out⟩
         all_goals (congr 1; rw [Bool.eq_iff_iff, decide_eq_true_eq]; have := HA.out; have := HK.out; simp_all)
        | false =>
         have HK := Lib.hid (of_decide_eq_false HKB.out)
         clear HRB HKB
         go_wp2_with fail
         all_goals go_meet
         all_goals refine ⟨?_, HU3.out⟩
         all_goals (congr 1; rw [Bool.eq_iff_iff, decide_eq_true_eq]; have := HA.out; have := HK.out; simp_all)
       | false =>
        have HA := Lib.hid (of_decide_eq_false HRB.out)
        clear HRB HKB
        go_wp2_with fail
        all_goals go_meet
        all_goals refine ⟨?_, HU3.out⟩
        all_goals (congr 1; rw [Bool.eq_iff_iff, decide_eq_true_eq]; have := HA.out; simp_all)
      ·have a4 : lettersB m.locals = false := by simpa using a3
       rw [a4]
       have HA := Lib.hid a4
       clear a3 a4
       go_wp2_with fail
       all_goals go_meet
       all_goals refine ⟨?_, HU3.out⟩
       all_goals (congr 1; rw [Bool.eq_iff_iff, decide_eq_true_eq]; have := HA.out; simp_all)
     ·have a2 : lettersB m.params = false := by simpa using a1
      rw [a2]
      go_wp2_with fail
      all_goals go_meet
      all_goals refine ⟨?_, HU2.out⟩
      all_goals (congr 1; rw [Bool.eq_iff_iff, decide_eq_true_eq]; simp_all)
    case rest =>
     obtain ⟨rfl, HU2⟩ := hcut
     have g1 : wc.cell? ⟨2, 0, none⟩ = some (.iface 175 (.pointer (some (E 1)))) := (HS1.out.upd HU2.out).g 1 (by omega)
     by_cases c2 : ¬ lettersB m.params = true ∨ ¬ lettersB m.locals = true ∨ ¬ retOk m.ret ∨ k = 0 ∧ (m.params.toList ≠ [] ∨ m.ret.toList = [82])
     ·rw [decide_eq_true c2]
      rw [if_pos c2] at HC
      clear c2
      go_wp2_with fail
      go_ret
      exact ⟨ret_err 1 HC.out, HU.out.trans HU2.out⟩
     ·rw [decide_eq_false c2]
      rw [if_neg c2] at HC
      clear c2
      go_wp2_with fail
      go_ret
      exact ⟨ret_nil HC.out, HU.out.trans HU2.out⟩

set_option maxRecDepth 100000 in
set_option maxHeartbeats 4000000 in
theorem phead_none (k : Nat) (s1 s2 s3 : ByteArray) (kp : Option Addr) (kc : Nat) (E : Nat → Addr) (w : World) (hS : SentAt w E) (z1 : s1.size ≤ 9223372036854775807) (_z2 : s2.size ≤ 9223372036854775807) :
  Calls Tryd.prog 23 #[.agg #[.string s1, .string s2, .string s3, .slice kp 0 kc], .bool (decide (k = 0))] w fun e w' => e = .returned (errC E 101) ∧ Upd [] w w' := by
 have HU := Lib.hid ((Upd.refl [] w).alloc (.cells #[.string s1, .string s2, .string s3, .slice kp 0 kc] 32))
 have hb := heap_alloc_new w (.cells #[.string s1, .string s2, .string s3, .slice kp 0 kc] 32)
 have hS1 := hS.upd HU.out
 clear hS
 go_enter Tryd.func23, Tryd.ntmps23
 go_upto_region 1 with fail
 generalize w.alloc (.cells #[.string s1, .string s2, .string s3, .slice kp 0 kc] 32) = w1 at HU hb hS1 ⊢
 have m0 : w1.cell? ⟨w.heap.size, 0, none⟩ = some (.string s1) := by rw [cell_of hb]; rfl
 have m1 : w1.cell? ⟨w.heap.size, 1, none⟩ = some (.string s2) := by rw [cell_of hb]; rfl
 have m2 : w1.cell? ⟨w.heap.size, 2, none⟩ = some (.string s3) := by rw [cell_of hb]; rfl
 have m3 : w1.cell? ⟨w.heap.size, 3, none⟩ = some (.slice kp 0 kc) := by rw [cell_of hb]; rfl
 have g0 : w1.cell? ⟨1, 0, none⟩ = some (.iface 175 (.pointer (some (E 0)))) := hS1.g 0 (by omega)
 clear hS1 hb
 go_cut [5] (fun v wx => (∃ b, v = .bool b) ∧ w1 = wx)
 case first =>
  go_wp2_with fail
  all_goals go_meet
  all_goals exact ⟨⟨_, rfl⟩, rfl⟩
 case rest =>
  obtain ⟨⟨b, rfl⟩, rfl⟩ := hcut
  go_upto_region 2 with fail
  go_cut [19] (fun v wx => v = .bool true ∧ w1 = wx)
  case first =>
   by_cases c1 : 12 < s1.size
   ·have d1 : decide ((12 : Int) < (s1.size : Int)) = true := decide_eq_true (by omega)
    go_wp2_with fail
    all_goals go_meet
    all_goals exact ⟨rfl, rfl⟩
   ·have d1 : decide ((12 : Int) < (s1.size : Int)) = false := decide_eq_false (by omega)
    go_wp2_with fail
    all_goals go_meet
    all_goals refine ⟨?_, rfl⟩
    all_goals simp
  case rest =>
   obtain ⟨rfl, rfl⟩ := hcut
   go_wp2_with fail
   go_ret
   exact ⟨ret_err 0 rfl, HU.out⟩
theorem phead_any (k : Nat) (m : Meth) (kp : Option Addr) (kc : Nat) (E : Nat → Addr) (w : World) (hS : SentAt w E) (z1 : m.params.size ≤ 9223372036854775807) (z2 : m.locals.size ≤ 9223372036854775807) (z4 : m.code.length ≤ 9223372036854775807) :
  Calls Tryd.prog 23 #[.agg #[.string m.params, .string m.locals, .string m.ret, .slice kp m.code.length kc], .bool (decide (k = 0))] w fun e w' => e = .returned (errC E (headCode k m)) ∧ Upd [] w w' := by
 by_cases h0 : 0 < m.code.length
 ·exact phead_one k m kp kc E w hS z1 z2 z4 h0
 ·have h1 : m.code.length = 0 := by omega
  have h2 : headCode k m = 101 := by unfold headCode; rw [if_pos (by omega)]
  rw [h1, h2]
  exact phead_none k m.params m.locals m.ret kp kc E w hS z1 z2
end Go.Proofs.YtojobkhidlfeoaaDoor

/-! prog.May. -/
namespace Go.Proofs.YtojobkhidlfeoaaDoor
open Go.RowKit

/-- An error's value: its code, and where. -/
def ErrV (w : World) (E : Nat → Addr) (v : Value) (c : Int) (at_ : List Int) : Prop :=
 (c = 0 ∨ 101 ≤ c ∧ c ≤ 114) ∧ ((at_ = [] ∧ v = errC E c) ∨ ∃ b x y, at_ = [x, y] ∧ c ≠ 0 ∧ v = .iface 71 (.pointer (some ⟨b, 0, none⟩)) ∧ w.heap[b]? = some (.cells #[.int .i64 x, .int .i64 y, errC E c] 73))
theorem ErrV.upd {w w' : World} {E : Nat → Addr} {v : Value} {c : Int} {at_ : List Int} (h : ErrV w E v c at_) (hu : Upd [] w w') : ErrV w' E v c at_ := by
 refine ⟨h.1, ?_⟩
 rcases h.2 with h2 | ⟨b, x, y, h1, h2, h3, h4⟩
 ·exact .inl h2
 ·exact .inr ⟨b, x, y, h1, h2, h3, hu.heap h4 (by simp)⟩
theorem ErrV.bare (w : World) (E : Nat → Addr) {c : Int} (h : c = 0 ∨ 101 ≤ c ∧ c ≤ 114) : ErrV w E (errC E c) c [] := ⟨h, .inl ⟨rfl, rfl⟩⟩
theorem errC_at (E : Nat → Addr) (k : Nat) : errC E (101 + (k : Int)) = .iface 175 (.pointer (some (E k))) := by
 unfold errC sErr
 rw [if_neg (by omega), show ((101 : Int) + (k : Int) - 101).toNat = k by omega]
theorem errC_form (E : Nat → Addr) (c : Int) (h : c ≠ 0) : errC E c = .iface 175 (.pointer (some (E (c - 101).toNat))) := by
 unfold errC sErr
 rw [if_neg h]
theorem ErrV.where_ (w : World) (E : Nat → Addr) (x y c : Int) (v : Value) (hv : errC E c = v) (h : 101 ≤ c ∧ c ≤ 114) :
  ErrV (w.alloc (.cells #[.int .i64 x, .int .i64 y, v] 73)) E (.iface 71 (.pointer (some ⟨w.heap.size, 0, none⟩))) c [x, y] := by
 subst hv
 exact ⟨.inr h, .inr ⟨w.heap.size, x, y, rfl, by omega, rfl, heap_alloc_new w _⟩⟩

theorem insCode_rng (cs : List ByteArray) (nm : Nat) (m : Meth) (x : Ins) : insCode cs nm m x = 0 ∨ 101 ≤ insCode cs nm m x ∧ insCode cs nm m x ≤ 104 := by
 generalize hc : insCode cs nm m x = c
 revert hc
 unfold insCode
 repeat' (refine ite_inv ?_ ?_)
 all_goals (intro h; omega)
theorem headCode_rng (k : Nat) (m : Meth) : headCode k m = 0 ∨ 101 ≤ headCode k m ∧ headCode k m ≤ 102 := by
 generalize hc : headCode k m = c
 revert hc
 unfold headCode
 repeat' (refine ite_inv ?_ ?_)
 all_goals (intro h; omega)

/-- The box of the program, in the midst of May. -/
def PB (w wr : World) (cv mv : Value) : Prop := wr.heap[w.heap.size]? = some (.cells #[cv, mv] 36) ∧ Upd [] w wr
theorem PB.upd {w wr w1 : World} {cv mv : Value} (h : PB w wr cv mv) (hu : Upd [] wr w1) : PB w w1 cv mv := ⟨hu.heap h.1 (by simp), h.2.trans hu⟩

/-- What May answers: the end of a walk. -/
def MayEnd (p : Prg) (E : Nat → Addr) (w : World) (v : Value) (w' : World) : Prop := ∃ c at_, MayIs p c at_ ∧ ErrV w' E v c at_ ∧ Upd [] w w'

set_option maxRecDepth 100000 in
set_option maxHeartbeats 4000000 in
theorem pmay_any (p : Prg) (cv mv : Value) (E : Nat → Addr) (w : World) (hS : SentAt w E) (hc : ClassAt w cv p.cs) (hm : MethsAt w mv p.ms) :
  Calls Tryd.prog 14 #[.agg #[cv, mv]] w fun e w' => ∃ v, e = .returned v ∧ MayEnd p E w v w' := by
 have HS := Lib.hid hS
 have HCA := Lib.hid hc
 obtain ⟨ca, cc, rfl, _, hcl, hcm, hcx⟩ := hc
 obtain ⟨ma, mc, rfl, hml, hmm, hmx⟩ := hm
 have HCX := Lib.hid hcx
 have HMX := Lib.hid hmx
 clear hcx hmx hS
 unfold maxLen at hcm hmm
 have hMB : PB w (w.alloc (.cells #[.slice ca p.cs.length cc, .slice ma p.ms.length mc] 36)) (.slice ca p.cs.length cc) (.slice ma p.ms.length mc) := ⟨heap_alloc_new w _, (Upd.refl _ _).alloc _⟩
 go_enter Tryd.func14, Tryd.ntmps14
 go_upto_region 1 with fail
 generalize w.alloc (.cells #[.slice ca p.cs.length cc, .slice ma p.ms.length mc] 36) = w0 at hMB ⊢
 have hb0 : w0.cell? ⟨w.heap.size, 0, none⟩ = some (.slice ca p.cs.length cc) := by rw [cell_of hMB.1]; rfl
 have hb1 : w0.cell? ⟨w.heap.size, 1, none⟩ = some (.slice ma p.ms.length mc) := by rw [cell_of hMB.1]; rfl
 have g0 : w0.cell? ⟨1, 0, none⟩ = some (.iface 175 (.pointer (some (E 0)))) := (HS.out.upd hMB.2).g 0 (by omega)
 by_cases c0 : 12 < p.cs.length ∨ p.ms.length < 1 ∨ 12 < p.ms.length
 ·have HC0 := Lib.hid c0
  obtain ⟨b1, b2, b3, e1, e2, e3, hbb⟩ : ∃ b1 b2 b3 : Bool, decide ((12 : Int) < (p.cs.length : Int)) = b1 ∧ ((p.ms.length : Int) == 0) = b2 ∧ decide ((12 : Int) < (p.ms.length : Int)) = b3 ∧ (b1 = true ∨ (b1 = false ∧ b2 = true) ∨ (b1 = false ∧ b2 = false ∧ b3 = true)) := by
   refine ⟨_, _, _, rfl, rfl, rfl, ?_⟩
   simp only [decide_eq_true_eq, decide_eq_false_iff_not, beq_iff_eq, beq_eq_false_iff_ne]
   omega
  clear c0
  have hend : MayEnd p E w (.iface 175 (.pointer (some (E 0)))) w0 := ⟨101, [], .inl ⟨HC0.out, rfl, rfl⟩, by have h := ErrV.bare w0 E (c := 101) (by omega); exact h, hMB.2⟩
  have HEND := Lib.hid hend
  clear hend hMB
  rcases hbb with rfl | ⟨rfl, rfl⟩ | ⟨rfl, rfl, rfl⟩
  all_goals
   go_wp2_with fail
   go_ret
   exact ⟨_, rfl, HEND.out⟩
 ·have h1 : p.cs.length ≤ 12 := by omega
  have h2 : 1 ≤ p.ms.length := by omega
  have h3 : p.ms.length ≤ 12 := by omega
  have d1 : decide ((12 : Int) < (p.cs.length : Int)) = false := decide_eq_false (by omega)
  have d2 : ((p.ms.length : Int) == 0) = false := by rw [beq_eq_false_iff_ne]; omega
  have d3 : decide ((12 : Int) < (p.ms.length : Int)) = false := decide_eq_false (by omega)
  clear c0
  have HH := Lib.hid (⟨h1, h2, h3⟩ : p.cs.length ≤ 12 ∧ 1 ≤ p.ms.length ∧ p.ms.length ≤ 12)
  go_wp2_with fail
  go_loopw [31] (fun i wr => ∃ k : Nat, k ≤ p.cs.length ∧ i = .int .i64 k ∧ PB w wr (.slice ca p.cs.length cc) (.slice ma p.ms.length mc) ∧ Hid (∀ j, j < k → clsCode (p.cs.getD j ByteArray.empty) = 0)) (fun i _ => p.cs.length - (intOf i).toNat)
  case atStart => exact ⟨0, by omega, rfl, hMB, (fun j hj => by omega : ∀ j, j < 0 → _)⟩
  case round =>
   clear hb0 hb1 g0 hMB
   obtain ⟨k, hk, rfl, hMB, HK⟩ := hrel
   obtain ⟨wo, rfl⟩ : ∃ wo : World, wo = wr := ⟨_, rfl⟩
   have hb0 : wo.cell? ⟨w.heap.size, 0, none⟩ = some (.slice ca p.cs.length cc) := by rw [cell_of hMB.1]; rfl
   have hb1 : wo.cell? ⟨w.heap.size, 1, none⟩ = some (.slice ma p.ms.length mc) := by rw [cell_of hMB.1]; rfl
   by_cases hlt : k < p.cs.length
   ·obtain ⟨b, o, rfl, hsz, hcell⟩ := HCX.out k hlt
    have hx := hMB.2.cell hcell (by simp)
    clear hcell
    have HCC := Lib.hid (rfl : clsCode (p.cs.getD k ByteArray.empty) = clsCode (p.cs.getD k ByteArray.empty))
    generalize hss : p.cs.getD k ByteArray.empty = s at hx hsz HCC
    have HSS := Lib.hid hss
    unfold maxLen at hsz
    clear hss
    have hMB1 := hMB.upd ((Upd.refl [] wo).alloc (.cells #[.string s] 87))
    have hn0 := cell_of (heap_alloc_new wo (.cells #[.string s] 87)) 0
    go_upto_region 6 with fail
    generalize hww : wo.alloc (.cells #[.string s] 87) = w1 at hMB1 hn0 ⊢
    generalize wo.heap.size = B1 at hn0 ⊢
    have hn0 : w1.cell? ⟨B1, 0, none⟩ = some (.string s) := hn0
    have g0 : w1.cell? ⟨1, 0, none⟩ = some (.iface 175 (.pointer (some (E 0)))) := (HS.out.upd hMB1.2).g 0 (by omega)
    clear hww hMB hx
    by_cases c1 : 10 < s.size
    ·have d4 : decide ((10 : Int) < (s.size : Int)) = true := decide_eq_true (by omega)
     have HEND := Lib.hid (show MayEnd p E w (.iface 71 (.pointer (some ⟨w1.heap.size, 0, none⟩))) (w1.alloc (.cells #[.int .i64 k, .int .i64 (-1), .iface 175 (.pointer (some (E 0)))] 73)) from
      ⟨101, [(k : Int), -1], .inr ⟨HH.out, .inl ⟨k, hlt, HK.out, by rw [HSS.out]; unfold clsCode; rw [if_pos c1], by omega, rfl⟩⟩, ErrV.where_ w1 E k (-1) 101 _ (errC_at E 0) (by omega), hMB1.2.alloc _⟩)
     clear hMB1
     go_wp2_with fail
     go_ret
     exact ⟨_, rfl, HEND.out⟩
    ·have d4 : decide ((10 : Int) < (s.size : Int)) = false := decide_eq_false (by omega)
     have HL := Lib.hid (pletters_any s w1 (by omega))
     go_wp2_with fail
     refine HL.out.mono ?_
     rintro e w2 ⟨rfl, hu2⟩
     have hMB2 := hMB1.upd hu2
     have g1 : w2.cell? ⟨2, 0, none⟩ = some (.iface 175 (.pointer (some (E 1)))) := (HS.out.upd hMB2.2).g 1 (by omega)
     clear HL hMB1 hu2
     cases hl : lettersB s with
     | false =>
      have HEND := Lib.hid (show MayEnd p E w (.iface 71 (.pointer (some ⟨w2.heap.size, 0, none⟩))) (w2.alloc (.cells #[.int .i64 k, .int .i64 (-1), .iface 175 (.pointer (some (E 1)))] 73)) from
       ⟨102, [(k : Int), -1], .inr ⟨HH.out, .inl ⟨k, hlt, HK.out, by rw [HSS.out]; unfold clsCode; rw [if_neg c1, if_neg (by rw [hl]; simp)], by omega, rfl⟩⟩, ErrV.where_ w2 E k (-1) 102 _ (errC_at E 1) (by omega), hMB2.2.alloc _⟩)
      clear hMB2 hl
      go_wp2_with fail
      go_ret
      exact ⟨_, rfl, HEND.out⟩
     | true =>
      have HLL := Lib.hid hl
      clear hl
      go_wp2_with fail
      go_roundw
      case rel =>
       refine ⟨k + 1, by omega, by go_num, hMB2, (fun j hj => ?_ : ∀ j, j < k + 1 → _)⟩
       by_cases e : j = k
       ·subst e; rw [HSS.out]; unfold clsCode; rw [if_neg c1, if_pos HLL.out]
       ·exact HK.out j (by omega)
      case measure => simp [intOf]; omega
   ·obtain rfl : k = p.cs.length := by omega
    go_wp2_with fail
    go_loopw [60] (fun i wr => ∃ k : Nat, k ≤ p.ms.length ∧ i = .int .i64 k ∧ PB w wr (.slice ca p.cs.length cc) (.slice ma p.ms.length mc) ∧ Hid (∀ j, j < k → headCode j (p.ms.getD j default) = 0 ∧ ∀ q, q < (p.ms.getD j default).code.length → insCode p.cs p.ms.length (p.ms.getD j default) ((p.ms.getD j default).code.getD q default) = 0)) (fun i _ => p.ms.length - (intOf i).toNat)
    case atStart => exact ⟨0, by omega, rfl, hMB, (fun j hj => by omega : ∀ j, j < 0 → _)⟩
    case round =>
     clear hb0 hb1 hMB
     obtain ⟨k, hk, rfl, hMB, HM⟩ := hrel
     obtain ⟨wo, rfl⟩ : ∃ wo : World, wo = wr := ⟨_, rfl⟩
     have hb0 : wo.cell? ⟨w.heap.size, 0, none⟩ = some (.slice ca p.cs.length cc) := by rw [cell_of hMB.1]; rfl
     have hb1 : wo.cell? ⟨w.heap.size, 1, none⟩ = some (.slice ma p.ms.length mc) := by rw [cell_of hMB.1]; rfl
     by_cases hlt : k < p.ms.length
     ·obtain ⟨b, o, rfl, hsz, hm0, hm1, hm2, kv, hm3, hcode⟩ := HMX.out k hlt
      have hx0 := hMB.2.cell hm0 (by simp)
      have hx1 := hMB.2.cell hm1 (by simp)
      have hx2 := hMB.2.cell hm2 (by simp)
      have hx3 := hMB.2.cell hm3 (by simp)
      obtain ⟨z0, z1, z2⟩ := hsz
      clear hm0 hm1 hm2 hm3
      generalize hmm2 : p.ms.getD k default = m at hx0 hx1 hx2 hx3 z0 z1 z2 hcode
      have HSS := Lib.hid hmm2
      clear hmm2
      unfold maxLen at z0 z1 z2
      obtain ⟨ka, kc, rfl, hkl, hkm, hkx⟩ := hcode
      have HKX := Lib.hid hkx
      clear hkx
      unfold maxLen at hkm
      have hMB1 := hMB.upd ((Upd.refl [] wo).alloc (.cells #[.string m.params, .string m.locals, .string m.ret, .slice ka m.code.length kc] 32))
      have hmb := heap_alloc_new wo (.cells #[.string m.params, .string m.locals, .string m.ret, .slice ka m.code.length kc] 32)
      go_upto_region 14 with fail
      generalize hww : wo.alloc (.cells #[.string m.params, .string m.locals, .string m.ret, .slice ka m.code.length kc] 32) = w1 at hMB1 hmb ⊢
      generalize wo.heap.size = B1 at hmb ⊢
      have y0 : w1.cell? ⟨B1, 0, none⟩ = some (.string m.params) := by rw [cell_of hmb]; rfl
      have y1 : w1.cell? ⟨B1, 1, none⟩ = some (.string m.locals) := by rw [cell_of hmb]; rfl
      have y2 : w1.cell? ⟨B1, 2, none⟩ = some (.string m.ret) := by rw [cell_of hmb]; rfl
      have y3 : w1.cell? ⟨B1, 3, none⟩ = some (.slice ka m.code.length kc) := by rw [cell_of hmb]; rfl
      have HHD := Lib.hid (phead_any k m ka kc E w1 (HS.out.upd hMB1.2) (by omega) (by omega) (by omega))
      have hk0 : ((k : Int) == 0) = decide (k = 0) := by rw [Bool.eq_iff_iff]; simp
      have HK0 := Lib.hid hk0
      clear hww hMB hx0 hx1 hx2 hx3 hb0 hb1 hk0
      go_wp2_with fail
      rw [HK0.out]
      refine HHD.out.mono ?_
      rintro e w2 ⟨rfl, hu2⟩
      have hMB2 := hMB1.upd hu2
      have hmb2 := hu2.heap hmb (by simp)
      clear hMB1 hmb y0 y1 y2 y3 HHD hu2
      have hrg := headCode_rng k m
      generalize hhc : headCode k m = c at hrg ⊢
      have HHC := Lib.hid hhc
      clear hhc
      by_cases hc0 : c = 0
      ·subst hc0
       clear hrg
       have y3 : w2.cell? ⟨B1, 3, none⟩ = some (.slice ka m.code.length kc) := by rw [cell_of hmb2]; rfl
       rw [show errC E 0 = .nilIface from rfl]
       go_wp2_with fail
       have hp1 : m.params.size ≤ 12 ∧ (m.params.size : Int) + m.locals.size ≤ 12 := by
        have h := HHC.out
        unfold headCode at h
        split at h
        ·cases h
        ·omega
       have hp4 : m.code.length ≤ 120 := by
        have h := HHC.out
        unfold headCode at h
        split at h
        ·cases h
        ·omega
       have hp2 : m.locals.size ≤ 12 := by omega
       have hp3 : m.params.size ≤ 12 := hp1.1
       clear hp1
       go_loopw [79] (fun i wr => ∃ q : Nat, q ≤ m.code.length ∧ i = .int .i64 q ∧ PB w wr (.slice ca p.cs.length cc) (.slice (some ⟨b, o, none⟩) p.ms.length mc) ∧ wr.heap[B1]? = some (.cells #[.string m.params, .string m.locals, .string m.ret, .slice ka m.code.length kc] 32) ∧
        Hid (∀ j, j < q → insCode p.cs p.ms.length m (m.code.getD j default) = 0)) (fun i _ => m.code.length - (intOf i).toNat)
       case atStart => exact ⟨0, by omega, rfl, hMB2, hmb2, (fun j hj => by omega : ∀ j, j < 0 → _)⟩
       case round =>
        clear hMB2 hmb2 y3
        obtain ⟨q, hq, rfl, hMB3, hmb3, HQ⟩ := hrel
        obtain ⟨w4, rfl⟩ : ∃ w4 : World, w4 = wr := ⟨_, rfl⟩
        by_cases hql : q < m.code.length
        ·obtain ⟨bk, ok, rfl, _, hxi⟩ := HKX.out q hql
         have HIC := Lib.hid (rfl : insCode p.cs p.ms.length m (m.code.getD q default) = insCode p.cs p.ms.length m (m.code.getD q default))
         have hrg := insCode_rng p.cs p.ms.length m (m.code.getD q default)
         generalize hic : insCode p.cs p.ms.length m (m.code.getD q default) = c at hrg HIC
         have HPI := Lib.hid (fun w hS hc => pinstr_any m (m.code.getD q default) p.cs (.slice ca p.cs.length cc) (some ⟨b, o, none⟩) (some ⟨bk, ok, none⟩) p.ms.length mc kc E w hS hc (fun c hc => by
          obtain ⟨i, hi, rfl⟩ := List.getElem_of_mem hc
          have := HK.out i hi
          rw [List.getD_eq_getElem?_getD, List.getElem?_eq_getElem hi, Option.getD_some] at this
          unfold clsCode at this
          split at this
          ·cases this
          ·omega) (by omega) (by omega) (by omega) (by omega) (by omega))
         rw [hic] at HPI
         have HICC := Lib.hid hic
         clear hic HIC
         generalize hxx : m.code.getD q default = x at HPI hxi HICC
         have HXX := Lib.hid hxx
         clear hxx
         have x0 := hMB3.2.cell hxi.1 (by simp)
         have x1 := hMB3.2.cell hxi.2.1 (by simp)
         have x2 := hMB3.2.cell hxi.2.2.1 (by simp)
         have x3 := hMB3.2.cell hxi.2.2.2 (by simp)
         have hau := (Upd.refl [] w4).alloc (.cells #[.int .i64 x.op, .int .i64 x.a, .int .i64 x.b, .int .i64 x.n] 29)
         have hMB5 := hMB3.upd hau
         have hmb5 := hau.heap hmb3 (by simp)
         have hin := heap_alloc_new w4 (.cells #[.int .i64 x.op, .int .i64 x.a, .int .i64 x.b, .int .i64 x.n] 29)
         clear hxi
         go_upto_region 20 with fail
         generalize hww : w4.alloc (.cells #[.int .i64 x.op, .int .i64 x.a, .int .i64 x.b, .int .i64 x.n] 29) = w5 at hMB5 hmb5 hin ⊢
         generalize w4.heap.size = B2 at hin ⊢
         have b0 : w5.cell? ⟨w.heap.size, 0, none⟩ = some (.slice ca p.cs.length cc) := by rw [cell_of hMB5.1]; rfl
         have b1 : w5.cell? ⟨w.heap.size, 1, none⟩ = some (.slice (some ⟨b, o, none⟩) p.ms.length mc) := by rw [cell_of hMB5.1]; rfl
         have y0 : w5.cell? ⟨B1, 0, none⟩ = some (.string m.params) := by rw [cell_of hmb5]; rfl
         have y1 : w5.cell? ⟨B1, 1, none⟩ = some (.string m.locals) := by rw [cell_of hmb5]; rfl
         have y2 : w5.cell? ⟨B1, 2, none⟩ = some (.string m.ret) := by rw [cell_of hmb5]; rfl
         have y3 : w5.cell? ⟨B1, 3, none⟩ = some (.slice (some ⟨bk, ok, none⟩) m.code.length kc) := by rw [cell_of hmb5]; rfl
         have u0 : w5.cell? ⟨B2, 0, none⟩ = some (.int .i64 x.op) := by rw [cell_of hin]; rfl
         have u1 : w5.cell? ⟨B2, 1, none⟩ = some (.int .i64 x.a) := by rw [cell_of hin]; rfl
         have u2 : w5.cell? ⟨B2, 2, none⟩ = some (.int .i64 x.b) := by rw [cell_of hin]; rfl
         have u3 : w5.cell? ⟨B2, 3, none⟩ = some (.int .i64 x.n) := by rw [cell_of hin]; rfl
         have HPI2 := Lib.hid (HPI.out w5 (HS.out.upd hMB5.2) (HCA.out.upd hMB5.2))
         clear hww hMB3 hmb3 hau hin HPI x0 x1 x2 x3
         go_wp2_with fail
         refine HPI2.out.mono ?_
         rintro e w6 ⟨rfl, hu6⟩
         have hMB6 := hMB5.upd hu6
         have hmb6 := hu6.heap hmb5 (by simp)
         clear hMB5 hmb5 b0 b1 y0 y1 y2 y3 u0 u1 u2 u3 hu6 HPI2
         by_cases hc0 : c = 0
         ·subst hc0
          clear hrg
          rw [show errC E 0 = .nilIface from rfl]
          go_wp2_with fail
          go_roundw
          case rel =>
           refine ⟨q + 1, by omega, by go_num, hMB6, hmb6, (fun j hj => ?_ : ∀ j, j < q + 1 → _)⟩
           by_cases e : j = q
           ·subst e; rw [HXX.out]; exact HICC.out
           ·exact HQ.out j (by omega)
          case measure => simp [intOf]; omega
         ·have HEND := Lib.hid (show MayEnd p E w (.iface 71 (.pointer (some ⟨w6.heap.size, 0, none⟩))) (w6.alloc (.cells #[.int .i64 k, .int .i64 q, .iface 175 (.pointer (some (E (c - 101).toNat)))] 73)) from
           ⟨c, [(k : Int), (q : Int)], .inr ⟨HH.out, .inr ⟨HK.out, .inl ⟨k, hlt, HM.out, .inr ⟨by rw [HSS.out]; exact HHC.out, q, by rw [HSS.out]; exact hql, by rw [HSS.out]; exact HQ.out, by rw [HSS.out, HXX.out]; exact HICC.out, hc0, rfl⟩⟩⟩⟩, ErrV.where_ w6 E k q c _ (errC_form E c hc0) (by omega), hMB6.2.alloc _⟩)
          rw [errC_form E c hc0]
          clear hMB6 hmb6 hc0 hrg
          go_wp2_with fail
          go_ret
          exact ⟨_, rfl, HEND.out⟩
        ·obtain rfl : q = m.code.length := by omega
         go_wp2_with fail
         go_roundw
         case rel =>
          refine ⟨k + 1, by omega, by go_num, hMB3, (fun j hj => ?_ : ∀ j, j < k + 1 → _)⟩
          by_cases e : j = k
          ·subst e; rw [HSS.out]; exact ⟨HHC.out, HQ.out⟩
          ·exact HM.out j (by omega)
         case measure => simp [intOf]; omega
      ·have HEND := Lib.hid (show MayEnd p E w (.iface 71 (.pointer (some ⟨w2.heap.size, 0, none⟩))) (w2.alloc (.cells #[.int .i64 k, .int .i64 (-1), .iface 175 (.pointer (some (E (c - 101).toNat)))] 73)) from
        ⟨c, [(k : Int), -1], .inr ⟨HH.out, .inr ⟨HK.out, .inl ⟨k, hlt, HM.out, .inl ⟨by rw [HSS.out]; exact HHC.out, hc0, rfl⟩⟩⟩⟩, ErrV.where_ w2 E k (-1) c _ (errC_form E c hc0) (by omega), hMB2.2.alloc _⟩)
       rw [errC_form E c hc0]
       clear hMB2 hmb2 hc0 hrg
       go_wp2_with fail
       go_ret
       exact ⟨_, rfl, HEND.out⟩
     ·obtain rfl : k = p.ms.length := by omega
      go_wp2_with fail
      go_ret
      exact ⟨_, rfl, 0, [], .inr ⟨HH.out, .inr ⟨HK.out, .inr ⟨HM.out, rfl, rfl⟩⟩⟩, ErrV.bare wo E (c := 0) (by omega), hMB.2⟩
end Go.Proofs.YtojobkhidlfeoaaDoor
