/- prog.head. -/
import Derived.Test.YtjndigfmemdmjaaDoorLetA
import Derived.Test.YtjndigfmemdmjaaDoorSent
import Derived.Test.YtjndigfmemdmjaaDoorStepL
import Derived.Deep.DeepCutAuto
namespace Go.Proofs.YtjndigfmemdmjaaDoor
open Go.RowKit

set_option maxRecDepth 100000 in
set_option maxHeartbeats 4000000 in
theorem phead_one (k : Nat) (m : Meth) (kp : Option Addr) (kc : Nat) (E : Nat → Addr) (w : World) (hS : SentAt w E) (z1 : m.params.size ≤ 9223372036854775807) (z2 : m.locals.size ≤ 9223372036854775807) (z4 : m.code.length ≤ 9223372036854775807) (z0 : 0 < m.code.length) :
    Calls Tryd.prog 42 #[.agg #[.string m.params, .string m.locals, .string m.ret, .slice kp m.code.length kc], .bool (decide (k = 0))] w fun e w' => e = .returned (errC E (headCode k m)) ∧ Upd [] w w' := by
  have HU := Lib.hid ((Upd.refl [] w).alloc (.cells #[.string m.params, .string m.locals, .string m.ret, .slice kp m.code.length kc] 37))
  have hb := heap_alloc_new w (.cells #[.string m.params, .string m.locals, .string m.ret, .slice kp m.code.length kc] 37)
  have hS1 := hS.upd HU.out
  clear hS
  go_enter Tryd.func42, Tryd.ntmps42
  go_upto_region 1 with fail
  generalize w.alloc (.cells #[.string m.params, .string m.locals, .string m.ret, .slice kp m.code.length kc] 37) = w1 at HU hb hS1 ⊢
  have m0 : w1.cell? ⟨w.heap.size, 0, none⟩ = some (.string m.params) := by rw [cell_of hb]; rfl
  have m1 : w1.cell? ⟨w.heap.size, 1, none⟩ = some (.string m.locals) := by rw [cell_of hb]; rfl
  have m2 : w1.cell? ⟨w.heap.size, 2, none⟩ = some (.string m.ret) := by rw [cell_of hb]; rfl
  have m3 : w1.cell? ⟨w.heap.size, 3, none⟩ = some (.slice kp m.code.length kc) := by rw [cell_of hb]; rfl
  have g0 : w1.cell? ⟨0, 0, none⟩ = some (.iface 166 (.pointer (some (E 0)))) := hS1.g 0 (by omega)
  have HS1 := Lib.hid hS1
  have HB := Lib.hid hb
  clear hS1 hb
  go_cut [5] (fun v wx => v = .bool (decide (retOk m.ret)) ∧ w1 = wx)
  case first =>
    go_wp2_with fail
    all_goals go_meet
    all_goals refine ⟨?_, rfl⟩
    all_goals (congr 1; rw [Bool.eq_iff_iff, decide_eq_true_eq]; unfold retOk; simp_all)
  case rest =>
    obtain ⟨rfl, rfl⟩ := hcut
    go_upto_region 2 with fail
    go_cut [19] (fun v wx => v = .bool (decide (12 < m.params.size ∨ (12 : Int) - m.params.size < m.locals.size ∨ m.code.length < 1 ∨ 120 < m.code.length)) ∧ w1 = wx)
    case first =>
      have d0 : ((m.code.length : Int) == 0) = false := by rw [beq_eq_false_iff_ne]; omega
      by_cases c1 : 12 < m.params.size
      · have d1 : decide ((12 : Int) < (m.params.size : Int)) = true := decide_eq_true (by omega)
        go_wp2_with fail
        all_goals go_meet
        all_goals refine ⟨?_, rfl⟩
        all_goals (rw [decide_eq_true (Or.inl c1)])
      · have d1 : decide ((12 : Int) < (m.params.size : Int)) = false := decide_eq_false (by omega)
        go_wp2_with fail
        all_goals go_meet
        all_goals refine ⟨?_, rfl⟩
        all_goals (congr 1; rw [Bool.eq_iff_iff, decide_eq_true_eq]; first | (simp only [Bool.or_eq_true, decide_eq_true_eq]; omega) | exact ⟨fun _ => by omega, fun _ => rfl⟩)
    case rest =>
      obtain ⟨rfl, rfl⟩ := hcut
      by_cases c1 : 12 < m.params.size ∨ (12 : Int) - m.params.size < m.locals.size ∨ m.code.length < 1 ∨ 120 < m.code.length
      · rw [decide_eq_true c1]
        have HC : Hid (headCode k m = 101) := by show _ = _; unfold headCode; rw [if_pos c1]
        clear c1
        go_wp2_with fail
        go_ret
        refine ⟨?_, HU.out⟩
        exact ret_err 0 HC.out
      · rw [decide_eq_false c1]
        have HC : Hid (headCode k m = if ¬ lettersB m.params = true ∨ ¬ lettersB m.locals = true ∨ ¬ retOk m.ret ∨ k = 0 ∧ (m.params.toList ≠ [] ∨ m.ret.toList = [82]) then 102 else 0) := by show _ = _; unfold headCode; rw [if_neg c1]
        have y1 : m.params.size ≤ 12 := by omega
        have y2 : m.locals.size ≤ 12 := by omega
        clear c1
        generalize hrb : decide (retOk m.ret) = rb
        generalize hkb : decide (k = 0) = kb
        have HRB := Lib.hid hrb
        have HKB := Lib.hid hkb
        clear hrb hkb
        go_upto_region 4 with fail
        go_cut [47] (fun v wx => v = .bool (decide (¬ lettersB m.params = true ∨ ¬ lettersB m.locals = true ∨ ¬ retOk m.ret ∨ k = 0 ∧ (m.params.toList ≠ [] ∨ m.ret.toList = [82]))) ∧ Hid (Upd [] w1 wx))
        case first =>
          have HL1 := Lib.hid (fun w => pletters_any m.params w (by omega))
          have HL2 := Lib.hid (fun w => pletters_any m.locals w (by omega))
          go_wp2_with fail
          refine (HL1.out _).mono ?_
          rintro e w2 ⟨rfl, hu2⟩
          have m0 := hu2.cell m0 (by simp)
          have m1 := hu2.cell m1 (by simp)
          have m2 := hu2.cell m2 (by simp)
          have HU2 := Lib.hid hu2
          clear hu2
          by_cases a1 : lettersB m.params = true
          · rw [a1]
            go_wp2_with fail
            refine (HL2.out _).mono ?_
            rintro e w3 ⟨rfl, hu3⟩
            have m0 := hu3.cell m0 (by simp)
            have m2 := hu3.cell m2 (by simp)
            have HU3 := Lib.hid (HU2.out.trans hu3)
            clear hu3
            by_cases a3 : lettersB m.locals = true
            · rw [a3]
              cases rb with
              | true =>
                have HA := Lib.hid (of_decide_eq_true HRB.out)
                cases kb with
                | true =>
                  have HK := Lib.hid (of_decide_eq_true HKB.out)
                  clear HRB HKB
                  go_wp2_with fail
                  all_goals go_meet
                  all_goals refine ⟨?_, HU3.out⟩
                  all_goals (congr 1; rw [Bool.eq_iff_iff, decide_eq_true_eq]; have := HA.out; have := HK.out; simp_all)
                | false =>
                  have HK := Lib.hid (of_decide_eq_false HKB.out)
                  clear HRB HKB
                  go_wp2_with fail
                  all_goals go_meet
                  all_goals refine ⟨?_, HU3.out⟩
                  all_goals (congr 1; rw [Bool.eq_iff_iff, decide_eq_true_eq]; have := HA.out; have := HK.out; simp_all)
              | false =>
                have HA := Lib.hid (of_decide_eq_false HRB.out)
                clear HRB HKB
                go_wp2_with fail
                all_goals go_meet
                all_goals refine ⟨?_, HU3.out⟩
                all_goals (congr 1; rw [Bool.eq_iff_iff, decide_eq_true_eq]; have := HA.out; simp_all)
            · have a4 : lettersB m.locals = false := by simpa using a3
              rw [a4]
              have HA := Lib.hid a4
              clear a3 a4
              go_wp2_with fail
              all_goals go_meet
              all_goals refine ⟨?_, HU3.out⟩
              all_goals (congr 1; rw [Bool.eq_iff_iff, decide_eq_true_eq]; have := HA.out; simp_all)
          · have a2 : lettersB m.params = false := by simpa using a1
            rw [a2]
            go_wp2_with fail
            all_goals go_meet
            all_goals refine ⟨?_, HU2.out⟩
            all_goals (congr 1; rw [Bool.eq_iff_iff, decide_eq_true_eq]; simp_all)
        case rest =>
          obtain ⟨rfl, HU2⟩ := hcut
          have g1 : wc.cell? ⟨1, 0, none⟩ = some (.iface 166 (.pointer (some (E 1)))) := (HS1.out.upd HU2.out).g 1 (by omega)
          by_cases c2 : ¬ lettersB m.params = true ∨ ¬ lettersB m.locals = true ∨ ¬ retOk m.ret ∨ k = 0 ∧ (m.params.toList ≠ [] ∨ m.ret.toList = [82])
          · rw [decide_eq_true c2]
            rw [if_pos c2] at HC
            clear c2
            go_wp2_with fail
            go_ret
            exact ⟨ret_err 1 HC.out, HU.out.trans HU2.out⟩
          · rw [decide_eq_false c2]
            rw [if_neg c2] at HC
            clear c2
            go_wp2_with fail
            go_ret
            exact ⟨ret_nil HC.out, HU.out.trans HU2.out⟩

set_option maxRecDepth 100000 in
set_option maxHeartbeats 4000000 in
theorem phead_none (k : Nat) (s1 s2 s3 : ByteArray) (kp : Option Addr) (kc : Nat) (E : Nat → Addr) (w : World) (hS : SentAt w E) (z1 : s1.size ≤ 9223372036854775807) (_z2 : s2.size ≤ 9223372036854775807) :
    Calls Tryd.prog 42 #[.agg #[.string s1, .string s2, .string s3, .slice kp 0 kc], .bool (decide (k = 0))] w fun e w' => e = .returned (errC E 101) ∧ Upd [] w w' := by
  have HU := Lib.hid ((Upd.refl [] w).alloc (.cells #[.string s1, .string s2, .string s3, .slice kp 0 kc] 37))
  have hb := heap_alloc_new w (.cells #[.string s1, .string s2, .string s3, .slice kp 0 kc] 37)
  have hS1 := hS.upd HU.out
  clear hS
  go_enter Tryd.func42, Tryd.ntmps42
  go_upto_region 1 with fail
  generalize w.alloc (.cells #[.string s1, .string s2, .string s3, .slice kp 0 kc] 37) = w1 at HU hb hS1 ⊢
  have m0 : w1.cell? ⟨w.heap.size, 0, none⟩ = some (.string s1) := by rw [cell_of hb]; rfl
  have m1 : w1.cell? ⟨w.heap.size, 1, none⟩ = some (.string s2) := by rw [cell_of hb]; rfl
  have m2 : w1.cell? ⟨w.heap.size, 2, none⟩ = some (.string s3) := by rw [cell_of hb]; rfl
  have m3 : w1.cell? ⟨w.heap.size, 3, none⟩ = some (.slice kp 0 kc) := by rw [cell_of hb]; rfl
  have g0 : w1.cell? ⟨0, 0, none⟩ = some (.iface 166 (.pointer (some (E 0)))) := hS1.g 0 (by omega)
  clear hS1 hb
  go_cut [5] (fun v wx => (∃ b, v = .bool b) ∧ w1 = wx)
  case first =>
    go_wp2_with fail
    all_goals go_meet
    all_goals exact ⟨⟨_, rfl⟩, rfl⟩
  case rest =>
    obtain ⟨⟨b, rfl⟩, rfl⟩ := hcut
    go_upto_region 2 with fail
    go_cut [19] (fun v wx => v = .bool true ∧ w1 = wx)
    case first =>
      by_cases c1 : 12 < s1.size
      · have d1 : decide ((12 : Int) < (s1.size : Int)) = true := decide_eq_true (by omega)
        go_wp2_with fail
        all_goals go_meet
        all_goals exact ⟨rfl, rfl⟩
      · have d1 : decide ((12 : Int) < (s1.size : Int)) = false := decide_eq_false (by omega)
        go_wp2_with fail
        all_goals go_meet
        all_goals refine ⟨?_, rfl⟩
        all_goals simp
    case rest =>
      obtain ⟨rfl, rfl⟩ := hcut
      go_wp2_with fail
      go_ret
      exact ⟨ret_err 0 rfl, HU.out⟩
theorem phead_any (k : Nat) (m : Meth) (kp : Option Addr) (kc : Nat) (E : Nat → Addr) (w : World) (hS : SentAt w E) (z1 : m.params.size ≤ 9223372036854775807) (z2 : m.locals.size ≤ 9223372036854775807) (z4 : m.code.length ≤ 9223372036854775807) :
    Calls Tryd.prog 42 #[.agg #[.string m.params, .string m.locals, .string m.ret, .slice kp m.code.length kc], .bool (decide (k = 0))] w fun e w' => e = .returned (errC E (headCode k m)) ∧ Upd [] w w' := by
  by_cases h0 : 0 < m.code.length
  · exact phead_one k m kp kc E w hS z1 z2 z4 h0
  · have h1 : m.code.length = 0 := by omega
    have h2 : headCode k m = 101 := by unfold headCode; rw [if_pos (by omega)]
    rw [h1, h2]
    exact phead_none k m.params m.locals m.ret kp kc E w hS z1 z2
end Go.Proofs.YtjndigfmemdmjaaDoor
