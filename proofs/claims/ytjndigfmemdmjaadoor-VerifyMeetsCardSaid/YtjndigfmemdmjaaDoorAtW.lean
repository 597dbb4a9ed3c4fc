/- verify.Info: at, Stack, Most, Words. -/
import Derived.Test.YtjndigfmemdmjaaDoorAskW
import Derived.Test.YtjndigfmemdmjaaDoorAccA
import Derived.Test.YtjndigfmemdmjaaDoorEff
import Derived.Deep.RegionHeld3
namespace Go.Proofs.YtjndigfmemdmjaaDoor
open Go.RowKit

/-- What is told of an instruction. -/
def atV (s : Lk) (n : Nat) (pc : Int) : Value := if 0 ≤ pc ∧ pc < (n : Int) ∧ s.seen.getD pc.toNat false = true then .tuple #[.string (bs (s.stk.getD pc.toNat [])), .bool true] else .tuple #[.string (bs []), .bool false]

set_option maxRecDepth 100000 in
set_option maxHeartbeats 1000000 in
theorem at_ask (gs gb n : Nat) (mo : Int) (s : Lk) (pc : Int) (w : World) (h : LkC w gs gb n s) (_hn : n ≤ 1000) :
    Calls Tryd.prog 31 #[.agg #[.slice (some ⟨gs, 0, none⟩) n n, .slice (some ⟨gb, 0, none⟩) n n, .int .i64 mo], .int .i64 pc] w fun e w' => e = .returned (atV s n pc) ∧ Upd [] w w' := by
  have HU := Lib.hid ((Upd.refl [] w).alloc (.cells #[.slice (some ⟨gs, 0, none⟩) n n, .slice (some ⟨gb, 0, none⟩) n n, .int .i64 mo] 77))
  by_cases h0 : 0 ≤ pc
  · obtain ⟨q, rfl⟩ := Int.eq_ofNat_of_zero_le h0
    by_cases hq : q < n
    · obtain ⟨c1, c2⟩ := h q hq
      have c1 := HU.out.cell c1 (by simp)
      have c2 := HU.out.cell c2 (by simp)
      have dq : decide (n ≤ q) = false := decide_eq_false (by omega)
      cases hs : s.seen.getD q false with
      | true =>
        have HA : Hid (atV s n (q : Int) = .tuple #[.string (bs (s.stk.getD q [])), .bool true]) := by
          show _ = _
          unfold atV
          rw [Int.toNat_natCast, if_pos ⟨by omega, by omega, hs⟩]
        rw [hs] at c2
        clear h hs
        go_enter Tryd.func31, Tryd.ntmps31
        go_wp2_with fail
        go_ret2
        exact ⟨by rw [HA.out]; rfl, HU.out⟩
      | false =>
        have HA : Hid (atV s n (q : Int) = .tuple #[.string (bs []), .bool false]) := by
          show _ = _
          unfold atV
          rw [Int.toNat_natCast, if_neg (by rw [hs]; simp)]
        rw [hs] at c2
        clear h hs
        go_enter Tryd.func31, Tryd.ntmps31
        go_wp2_with fail
        go_ret2
        exact ⟨by rw [HA.out]; rfl, HU.out⟩
    · have HA : Hid (atV s n (q : Int) = .tuple #[.string (bs []), .bool false]) := by
        show _ = _
        unfold atV
        rw [if_neg (by omega)]
      have dq : decide (n ≤ q) = true := decide_eq_true (by omega)
      clear h
      go_enter Tryd.func31, Tryd.ntmps31
      go_wp2_with fail
      go_ret2
      exact ⟨by rw [HA.out]; rfl, HU.out⟩
  · have HA : Hid (atV s n pc = .tuple #[.string (bs []), .bool false]) := by
      show _ = _
      unfold atV
      rw [if_neg (by omega)]
    have d0 : decide (pc < 0) = true := decide_eq_true (by omega)
    clear h h0
    go_enter Tryd.func31, Tryd.ntmps31
    go_wp2_with fail
    go_ret2
    exact ⟨by rw [HA.out]; rfl, HU.out⟩

/-- atV is a pair. -/
theorem atV_form (s : Lk) (n : Nat) (pc : Int) : ∃ t b, atV s n pc = .tuple #[.string t, .bool b] := by
  unfold atV
  split
  · exact ⟨_, _, rfl⟩
  · exact ⟨_, _, rfl⟩

set_option maxRecDepth 100000 in
set_option maxHeartbeats 1000000 in
theorem stack_in (ib : Nat) (p : Prg) (ss : List Lk) (n : Int) (k : Nat) (pc : Int) (w : World) (h : InfoAt w ib p ss n) (hl : ss.length = p.ms.length) (hk : k < p.ms.length) (hc : (p.ms.getD k default).code.length ≤ 1000) (h0 : 0 ≤ n) (h1 : n ≤ 1000000000) :
    Calls Tryd.prog 13 #[.pointer (some ⟨ib, 0, none⟩), .int .i64 k, .int .i64 pc] w fun e w' => e = .returned (atV (ss.getD k default) (p.ms.getD k default).code.length pc) ∧ InfoAt w' ib p ss (n + 1) ∧ Upd [ib] w w' := by
  go_enter Tryd.func13, Tryd.ntmps13
  go_wp2_with fail
  refine (ask_in ib p ss n k w h hl hk h0 h1).mono ?_
  rintro e w1 ⟨v, rfl, gs, gb, kp, kc, rfl, hlk, hi, hu⟩
  generalize hmg : p.ms.getD k default = m at hlk hc ⊢
  generalize hsg : ss.getD k default = s at hlk ⊢
  have HMG := Lib.hid hmg
  have HSG := Lib.hid hsg
  clear hmg hsg
  have hu2 := ((Upd.refl [] w1).alloc (.cells #[.slice (some ⟨gs, 0, none⟩) m.code.length m.code.length, .slice (some ⟨gb, 0, none⟩) m.code.length m.code.length, .int .i64 s.most] 77)).alloc (.cells #[.string m.params, .string m.locals, .string m.ret, .slice kp m.code.length kc] 37)
  have hA := ((Upd.refl [] _).alloc (.cells #[.string m.params, .string m.locals, .string m.ret, .slice kp m.code.length kc] 37)).heap (heap_alloc_new w1 (.cells #[.slice (some ⟨gs, 0, none⟩) m.code.length m.code.length, .slice (some ⟨gb, 0, none⟩) m.code.length m.code.length, .int .i64 s.most] 77)) (by simp)
  have hB := heap_alloc_new (w1.alloc (.cells #[.slice (some ⟨gs, 0, none⟩) m.code.length m.code.length, .slice (some ⟨gb, 0, none⟩) m.code.length m.code.length, .int .i64 s.most] 77)) (.cells #[.string m.params, .string m.locals, .string m.ret, .slice kp m.code.length kc] 37)
  rw [show (w1.alloc (.cells #[.slice (some ⟨gs, 0, none⟩) m.code.length m.code.length, .slice (some ⟨gb, 0, none⟩) m.code.length m.code.length, .int .i64 s.most] 77)).heap.size = w1.heap.size + 1 by simp] at hB
  have HL := Lib.hid (fun q hq => (⟨hu2.cell (hlk q hq).1 (by simp), hu2.cell (hlk q hq).2 (by simp)⟩ : _ ∧ _))
  have HI := Lib.hid (hi.upd hu2)
  have HU := Lib.hid (hu.trans (hu2.mono (T := [ib]) (by simp)))
  clear hlk hi hu hu2
  go_upto_region 2 with fail
  generalize (w1.alloc (.cells #[.slice (some ⟨gs, 0, none⟩) m.code.length m.code.length, .slice (some ⟨gb, 0, none⟩) m.code.length m.code.length, .int .i64 s.most] 77)).alloc (.cells #[.string m.params, .string m.locals, .string m.ret, .slice kp m.code.length kc] 37) = w2 at HL HI HU hA hB ⊢
  generalize w1.heap.size = B at hA hB ⊢
  have a0 : w2.cell? ⟨B, 0, none⟩ = some (.slice (some ⟨gs, 0, none⟩) m.code.length m.code.length) := by rw [cell_of hA]; rfl
  have a1 : w2.cell? ⟨B, 1, none⟩ = some (.slice (some ⟨gb, 0, none⟩) m.code.length m.code.length) := by rw [cell_of hA]; rfl
  have a2 : w2.cell? ⟨B, 2, none⟩ = some (.int .i64 s.most) := by rw [cell_of hA]; rfl
  have b0 : w2.cell? ⟨B + 1, 0, none⟩ = some (.string m.params) := by rw [cell_of hB]; rfl
  have b1 : w2.cell? ⟨B + 1, 1, none⟩ = some (.string m.locals) := by rw [cell_of hB]; rfl
  have b2 : w2.cell? ⟨B + 1, 2, none⟩ = some (.string m.ret) := by rw [cell_of hB]; rfl
  have b3 : w2.cell? ⟨B + 1, 3, none⟩ = some (.slice kp m.code.length kc) := by rw [cell_of hB]; rfl
  clear hA hB
  obtain ⟨tv, bv, hav⟩ := atV_form s m.code.length pc
  have HAV := Lib.hid hav
  clear hav
  go_wp2_with fail
  refine (at_ask gs gb m.code.length _ s pc w2 HL.out hc).mono ?_
  rintro e w3 ⟨rfl, hu3⟩
  rw [HAV.out]
  go_wp2_with fail
  go_ret2
  exact ⟨by rw [HMG.out, HSG.out, HAV.out]; rfl, HI.out.upd hu3, HU.out.trans (hu3.mono (T := [ib]) (by simp))⟩

set_option maxRecDepth 100000 in
set_option maxHeartbeats 1000000 in
theorem most_in (ib : Nat) (p : Prg) (ss : List Lk) (n : Int) (k : Nat) (w : World) (h : InfoAt w ib p ss n) (hl : ss.length = p.ms.length) (hk : k < p.ms.length) (h0 : 0 ≤ n) (h1 : n ≤ 1000000000) :
    Calls Tryd.prog 14 #[.pointer (some ⟨ib, 0, none⟩), .int .i64 k] w fun e w' => e = .returned (.int .i64 (ss.getD k default).most) ∧ InfoAt w' ib p ss (n + 1) ∧ Upd [ib] w w' := by
  go_enter Tryd.func14, Tryd.ntmps14
  go_wp2_with fail
  refine (ask_in ib p ss n k w h hl hk h0 h1).mono ?_
  rintro e w1 ⟨v, rfl, gs, gb, kp, kc, rfl, hlk, hi, hu⟩
  generalize hmg : p.ms.getD k default = m at hlk ⊢
  generalize hsg : ss.getD k default = s at hlk ⊢
  have HMG := Lib.hid hmg
  have HSG := Lib.hid hsg
  clear hmg hsg
  have hu2 := ((Upd.refl [] w1).alloc (.cells #[.slice (some ⟨gs, 0, none⟩) m.code.length m.code.length, .slice (some ⟨gb, 0, none⟩) m.code.length m.code.length, .int .i64 s.most] 77)).alloc (.cells #[.string m.params, .string m.locals, .string m.ret, .slice kp m.code.length kc] 37)
  have hA := ((Upd.refl [] _).alloc (.cells #[.string m.params, .string m.locals, .string m.ret, .slice kp m.code.length kc] 37)).heap (heap_alloc_new w1 (.cells #[.slice (some ⟨gs, 0, none⟩) m.code.length m.code.length, .slice (some ⟨gb, 0, none⟩) m.code.length m.code.length, .int .i64 s.most] 77)) (by simp)
  have hB := heap_alloc_new (w1.alloc (.cells #[.slice (some ⟨gs, 0, none⟩) m.code.length m.code.length, .slice (some ⟨gb, 0, none⟩) m.code.length m.code.length, .int .i64 s.most] 77)) (.cells #[.string m.params, .string m.locals, .string m.ret, .slice kp m.code.length kc] 37)
  rw [show (w1.alloc (.cells #[.slice (some ⟨gs, 0, none⟩) m.code.length m.code.length, .slice (some ⟨gb, 0, none⟩) m.code.length m.code.length, .int .i64 s.most] 77)).heap.size = w1.heap.size + 1 by simp] at hB
  have HL := Lib.hid (fun q hq => (⟨hu2.cell (hlk q hq).1 (by simp), hu2.cell (hlk q hq).2 (by simp)⟩ : _ ∧ _))
  have HI := Lib.hid (hi.upd hu2)
  have HU := Lib.hid (hu.trans (hu2.mono (T := [ib]) (by simp)))
  clear hlk hi hu hu2
  go_upto_region 2 with fail
  generalize (w1.alloc (.cells #[.slice (some ⟨gs, 0, none⟩) m.code.length m.code.length, .slice (some ⟨gb, 0, none⟩) m.code.length m.code.length, .int .i64 s.most] 77)).alloc (.cells #[.string m.params, .string m.locals, .string m.ret, .slice kp m.code.length kc] 37) = w2 at HL HI HU hA hB ⊢
  generalize w1.heap.size = B at hA hB ⊢
  have a0 : w2.cell? ⟨B, 0, none⟩ = some (.slice (some ⟨gs, 0, none⟩) m.code.length m.code.length) := by rw [cell_of hA]; rfl
  have a1 : w2.cell? ⟨B, 1, none⟩ = some (.slice (some ⟨gb, 0, none⟩) m.code.length m.code.length) := by rw [cell_of hA]; rfl
  have a2 : w2.cell? ⟨B, 2, none⟩ = some (.int .i64 s.most) := by rw [cell_of hA]; rfl
  have b0 : w2.cell? ⟨B + 1, 0, none⟩ = some (.string m.params) := by rw [cell_of hB]; rfl
  have b1 : w2.cell? ⟨B + 1, 1, none⟩ = some (.string m.locals) := by rw [cell_of hB]; rfl
  have b2 : w2.cell? ⟨B + 1, 2, none⟩ = some (.string m.ret) := by rw [cell_of hB]; rfl
  have b3 : w2.cell? ⟨B + 1, 3, none⟩ = some (.slice kp m.code.length kc) := by rw [cell_of hB]; rfl
  clear hA hB
  go_wp2_with fail
  go_ret
  exact ⟨by rw [HSG.out]; rfl, HI.out, HU.out⟩

set_option maxRecDepth 100000 in
set_option maxHeartbeats 1000000 in
theorem words_in (ib : Nat) (p : Prg) (ss : List Lk) (n : Int) (k : Nat) (w : World) (h : InfoAt w ib p ss n) (hl : ss.length = p.ms.length) (hk : k < p.ms.length) (hc : 0 < (p.ms.getD k default).code.length) (hz1 : (p.ms.getD k default).params.size ≤ 1000) (hz2 : (p.ms.getD k default).locals.size ≤ 1000) (hmo : (ss.getD k default).most ≤ 1000) (h0 : 0 ≤ n) (h1 : n ≤ 1000000000) :
    Calls Tryd.prog 22 #[.pointer (some ⟨ib, 0, none⟩), .int .i64 k] w fun e w' => e = .returned (.int .i64 (4 + ((p.ms.getD k default).params.size + (p.ms.getD k default).locals.size : Nat) + (ss.getD k default).most)) ∧ InfoAt w' ib p ss (n + 1) ∧ Upd [ib] w w' := by
  go_enter Tryd.func22, Tryd.ntmps22
  go_wp2_with fail
  refine (ask_in ib p ss n k w h hl hk h0 h1).mono ?_
  rintro e w1 ⟨v, rfl, gs, gb, kp, kc, rfl, hlk, hi, hu⟩
  generalize hmg : p.ms.getD k default = m at hlk hc hz1 hz2 ⊢
  generalize hsg : ss.getD k default = s at hlk hmo ⊢
  have HMG := Lib.hid hmg
  have HSG := Lib.hid hsg
  clear hmg hsg
  have hu2 := ((Upd.refl [] w1).alloc (.cells #[.slice (some ⟨gs, 0, none⟩) m.code.length m.code.length, .slice (some ⟨gb, 0, none⟩) m.code.length m.code.length, .int .i64 s.most] 77)).alloc (.cells #[.string m.params, .string m.locals, .string m.ret, .slice kp m.code.length kc] 37)
  have hA := ((Upd.refl [] _).alloc (.cells #[.string m.params, .string m.locals, .string m.ret, .slice kp m.code.length kc] 37)).heap (heap_alloc_new w1 (.cells #[.slice (some ⟨gs, 0, none⟩) m.code.length m.code.length, .slice (some ⟨gb, 0, none⟩) m.code.length m.code.length, .int .i64 s.most] 77)) (by simp)
  have hB := heap_alloc_new (w1.alloc (.cells #[.slice (some ⟨gs, 0, none⟩) m.code.length m.code.length, .slice (some ⟨gb, 0, none⟩) m.code.length m.code.length, .int .i64 s.most] 77)) (.cells #[.string m.params, .string m.locals, .string m.ret, .slice kp m.code.length kc] 37)
  rw [show (w1.alloc (.cells #[.slice (some ⟨gs, 0, none⟩) m.code.length m.code.length, .slice (some ⟨gb, 0, none⟩) m.code.length m.code.length, .int .i64 s.most] 77)).heap.size = w1.heap.size + 1 by simp] at hB
  have HL := Lib.hid (fun q hq => (⟨hu2.cell (hlk q hq).1 (by simp), hu2.cell (hlk q hq).2 (by simp)⟩ : _ ∧ _))
  have HI := Lib.hid (hi.upd hu2)
  have HU := Lib.hid (hu.trans (hu2.mono (T := [ib]) (by simp)))
  clear hlk hi hu hu2
  go_upto_region 2 with fail
  generalize (w1.alloc (.cells #[.slice (some ⟨gs, 0, none⟩) m.code.length m.code.length, .slice (some ⟨gb, 0, none⟩) m.code.length m.code.length, .int .i64 s.most] 77)).alloc (.cells #[.string m.params, .string m.locals, .string m.ret, .slice kp m.code.length kc] 37) = w2 at HL HI HU hA hB ⊢
  generalize w1.heap.size = B at hA hB ⊢
  have a0 : w2.cell? ⟨B, 0, none⟩ = some (.slice (some ⟨gs, 0, none⟩) m.code.length m.code.length) := by rw [cell_of hA]; rfl
  have a1 : w2.cell? ⟨B, 1, none⟩ = some (.slice (some ⟨gb, 0, none⟩) m.code.length m.code.length) := by rw [cell_of hA]; rfl
  have a2 : w2.cell? ⟨B, 2, none⟩ = some (.int .i64 s.most) := by rw [cell_of hA]; rfl
  have b0 : w2.cell? ⟨B + 1, 0, none⟩ = some (.string m.params) := by rw [cell_of hB]; rfl
  have b1 : w2.cell? ⟨B + 1, 1, none⟩ = some (.string m.locals) := by rw [cell_of hB]; rfl
  have b2 : w2.cell? ⟨B + 1, 2, none⟩ = some (.string m.ret) := by rw [cell_of hB]; rfl
  have b3 : w2.cell? ⟨B + 1, 3, none⟩ = some (.slice kp m.code.length kc) := by rw [cell_of hB]; rfl
  clear hA hB
  have d0 : ((m.code.length : Int) == 0) = false := by rw [beq_eq_false_iff_ne]; omega
  have HK := Lib.hid (kinds_any m (.slice kp m.code.length kc) w2.drew (by omega) (by omega))
  have hks := kinds_size m
  have hks2 : (bs (kindsL m)).size ≤ 2000 := by omega
  have HKS := Lib.hid hks
  clear hks
  generalize bs (kindsL m) = ks at HK hks2 HKS
  have hF0 : w2.cell? ⟨B, 2, none⟩ = some (.int .i64 s.most) ∧ w2.cell? ⟨B + 1, 0, none⟩ = some (.string m.params) ∧ w2.cell? ⟨B + 1, 1, none⟩ = some (.string m.locals) ∧ w2.cell? ⟨B + 1, 2, none⟩ = some (.string m.ret) ∧ w2.cell? ⟨B + 1, 3, none⟩ = some (.slice kp m.code.length kc) := ⟨a2, b0, b1, b2, b3⟩
  have hd := (Upd.refl [] w2).drew
  have hF1 : w2.drew.cell? ⟨B, 2, none⟩ = some (.int .i64 s.most) ∧ w2.drew.cell? ⟨B + 1, 0, none⟩ = some (.string m.params) ∧ w2.drew.cell? ⟨B + 1, 1, none⟩ = some (.string m.locals) ∧ w2.drew.cell? ⟨B + 1, 2, none⟩ = some (.string m.ret) ∧ w2.drew.cell? ⟨B + 1, 3, none⟩ = some (.slice kp m.code.length kc) := hF0
  go_wp2_with fail
  go_region_held3 (fun w' => w'.cell? ⟨B, 2, none⟩ = some (.int .i64 s.most) ∧ w'.cell? ⟨B + 1, 0, none⟩ = some (.string m.params) ∧ w'.cell? ⟨B + 1, 1, none⟩ = some (.string m.locals) ∧ w'.cell? ⟨B + 1, 2, none⟩ = some (.string m.ret) ∧ w'.cell? ⟨B + 1, 3, none⟩ = some (.slice kp m.code.length kc))
    (first | exact hk0 | exact hF1 | exact hF0)
    ((go_at_call 40; refine HK.out.mono ?_; rintro e w3 ⟨rfl, hu3⟩; have hk0 := (⟨hu3.cell hF1.1 (by simp), hu3.cell hF1.2.1 (by simp), hu3.cell hF1.2.2.1 (by simp), hu3.cell hF1.2.2.2.1 (by simp), hu3.cell hF1.2.2.2.2 (by simp)⟩ : _ ∧ _ ∧ _ ∧ _ ∧ _)))
  have hu4 := hd.trans hu3
  clear hk0 hF0 hF1
  go_wp2_with fail
  go_ret
  exact ⟨by
    rw [HMG.out, HSG.out, ← HKS.out]
    show Ending.returned (.int .i64 (IntKind.i64.wrap (IntKind.i64.wrap (4 + (ks.size : Int)) + (s.most : Int)))) = _
    rw [IntWalk.i64_in (4 + (ks.size : Int)) (by omega), IntWalk.i64_in _ (by omega)], HI.out.upd hu4, HU.out.trans (hu4.mono (T := [ib]) (by simp))⟩

end Go.Proofs.YtjndigfmemdmjaaDoor
