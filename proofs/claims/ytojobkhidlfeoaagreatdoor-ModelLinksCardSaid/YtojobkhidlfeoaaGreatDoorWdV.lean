/- verify.Info.Words of a method that there is. -/
import Derived.Test.YtojobkhidlfeoaaGreatDoorAtW
namespace Go.Proofs.YtojobkhidlfeoaaGreatDoor
open Go.RowKit

set_option maxRecDepth 100000 in
set_option maxHeartbeats 1000000 in
theorem words_in3 (ib : Nat) (p : Prg) (ss : List Lk) (n : Int) (k : Nat) (w : World) (h : InfoAt w ib p ss n) (hl : ss.length = p.ms.length) (hk : k < p.ms.length) (hc : 0 < (p.ms.getD k default).code.length) (hz1 : (p.ms.getD k default).params.size ≤ 1000) (hz2 : (p.ms.getD k default).locals.size ≤ 1000) (hmo : (ss.getD k default).most ≤ 1000) (h0 : 0 ≤ n) (h1 : n ≤ 1000000000) :
  Calls Tryz.prog 36 #[.pointer (some ⟨ib, 0, none⟩), .int .i64 k] w fun e w' => e = .returned (.int .i64 (4 + ((p.ms.getD k default).params.size + (p.ms.getD k default).locals.size : Nat) + (ss.getD k default).most)) ∧ InfoAt w' ib p ss (n + 1) ∧ Upd [ib] w w' ∧ InfoStep w w' ib n := by
 go_enter Tryz.func36, Tryz.ntmps36
 go_wp2_with fail
 refine (ask_in2 ib p ss n k w h hl hk h0 h1).mono ?_
 rintro e w1 ⟨v, rfl, ⟨gs, gb, kp, kc, rfl, hlk, hi, hu⟩, hst⟩
 have HST := Lib.hid hst
 clear hst
 generalize hmg : p.ms.getD k default = m at hlk hc hz1 hz2 ⊢
 generalize hsg : ss.getD k default = s at hlk hmo ⊢
 have HMG := Lib.hid hmg
 have HSG := Lib.hid hsg
 clear hmg hsg
 have hu2 := ((Upd.refl [] w1).alloc (.cells #[.slice (some ⟨gs, 0, none⟩) m.code.length m.code.length, .slice (some ⟨gb, 0, none⟩) m.code.length m.code.length, .int .i64 s.most] 137)).alloc (.cells #[.string m.params, .string m.locals, .string m.ret, .slice kp m.code.length kc] 53)
 have hA := ((Upd.refl [] _).alloc (.cells #[.string m.params, .string m.locals, .string m.ret, .slice kp m.code.length kc] 53)).heap (heap_alloc_new w1 (.cells #[.slice (some ⟨gs, 0, none⟩) m.code.length m.code.length, .slice (some ⟨gb, 0, none⟩) m.code.length m.code.length, .int .i64 s.most] 137)) (by simp)
 have hB := heap_alloc_new (w1.alloc (.cells #[.slice (some ⟨gs, 0, none⟩) m.code.length m.code.length, .slice (some ⟨gb, 0, none⟩) m.code.length m.code.length, .int .i64 s.most] 137)) (.cells #[.string m.params, .string m.locals, .string m.ret, .slice kp m.code.length kc] 53)
 rw [show (w1.alloc (.cells #[.slice (some ⟨gs, 0, none⟩) m.code.length m.code.length, .slice (some ⟨gb, 0, none⟩) m.code.length m.code.length, .int .i64 s.most] 137)).heap.size = w1.heap.size + 1 by simp] at hB
 have HL := Lib.hid (fun q hq => (⟨hu2.cell (hlk q hq).1 (by simp), hu2.cell (hlk q hq).2 (by simp)⟩ : _ ∧ _))
 have HI := Lib.hid (hi.upd hu2)
 have HU := Lib.hid (hu.trans (hu2.mono (T := [ib]) (by simp)))
 have HU2 := Lib.hid hu2
 clear hlk hi hu hu2
 go_upto_region 2 with fail
 generalize (w1.alloc (.cells #[.slice (some ⟨gs, 0, none⟩) m.code.length m.code.length, .slice (some ⟨gb, 0, none⟩) m.code.length m.code.length, .int .i64 s.most] 137)).alloc (.cells #[.string m.params, .string m.locals, .string m.ret, .slice kp m.code.length kc] 53) = w2 at HU2 HL HI HU hA hB ⊢
 generalize w1.heap.size = B at hA hB ⊢
 have a0 : w2.cell? ⟨B, 0, none⟩ = some (.slice (some ⟨gs, 0, none⟩) m.code.length m.code.length) := by rw [cell_of hA]; rfl
 have a1 : w2.cell? ⟨B, 1, none⟩ = some (.slice (some ⟨gb, 0, none⟩) m.code.length m.code.length) := by rw [cell_of hA]; rfl
 have a2 : w2.cell? ⟨B, 2, none⟩ = some (.int .i64 s.most) := by rw [cell_of hA]; rfl
 have b0 : w2.cell? ⟨B + 1, 0, none⟩ = some (.string m.params) := by rw [cell_of hB]; rfl
 have b1 : w2.cell? ⟨B + 1, 1, none⟩ = some (.string m.locals) := by rw [cell_of hB]; rfl
 have b2 : w2.cell? ⟨B + 1, 2, none⟩ = some (.string m.ret) := by rw [cell_of hB]; rfl
 have b3 : w2.cell? ⟨B + 1, 3, none⟩ = some (.slice kp m.code.length kc) := by rw [cell_of hB]; rfl
 clear hA hB
 have d0 : ((m.code.length : Int) == 0) = false := by rw [beq_eq_false_iff_ne]; omega
 have HK := Lib.hid (kinds_any m (.slice kp m.code.length kc) w2.drew (by omega) (by omega))
 have hks := kinds_size m
 have hks2 : (bs (kindsL m)).size ≤ 2000 := by omega
 have HKS := Lib.hid hks
 clear hks
 generalize bs (kindsL m) = ks at HK hks2 HKS
 have hF0 : w2.cell? ⟨B, 2, none⟩ = some (.int .i64 s.most) ∧ w2.cell? ⟨B + 1, 0, none⟩ = some (.string m.params) ∧ w2.cell? ⟨B + 1, 1, none⟩ = some (.string m.locals) ∧ w2.cell? ⟨B + 1, 2, none⟩ = some (.string m.ret) ∧ w2.cell? ⟨B + 1, 3, none⟩ = some (.slice kp m.code.length kc) := ⟨a2, b0, b1, b2, b3⟩
 have hd := (Upd.refl [] w2).drew
 have hF1 : w2.drew.cell? ⟨B, 2, none⟩ = some (.int .i64 s.most) ∧ w2.drew.cell? ⟨B + 1, 0, none⟩ = some (.string m.params) ∧ w2.drew.cell? ⟨B + 1, 1, none⟩ = some (.string m.locals) ∧ w2.drew.cell? ⟨B + 1, 2, none⟩ = some (.string m.ret) ∧ w2.drew.cell? ⟨B + 1, 3, none⟩ = some (.slice kp m.code.length kc) := hF0
 go_wp2_with fail
 go_region_held3 (fun w' => w'.cell? ⟨B, 2, none⟩ = some (.int .i64 s.most) ∧ w'.cell? ⟨B + 1, 0, none⟩ = some (.string m.params) ∧ w'.cell? ⟨B + 1, 1, none⟩ = some (.string m.locals) ∧ w'.cell? ⟨B + 1, 2, none⟩ = some (.string m.ret) ∧ w'.cell? ⟨B + 1, 3, none⟩ = some (.slice kp m.code.length kc))
  (first | exact hk0 | exact hF1 | exact hF0)
  ((go_at_call 71; refine HK.out.mono ?_; rintro e w3 ⟨rfl, hu3⟩; have hk0 := (⟨hu3.cell hF1.1 (by simp), hu3.cell hF1.2.1 (by simp), hu3.cell hF1.2.2.1 (by simp), hu3.cell hF1.2.2.2.1 (by simp), hu3.cell hF1.2.2.2.2 (by simp)⟩ : _ ∧ _ ∧ _ ∧ _ ∧ _)))
 have hu4 := hd.trans hu3
 clear hk0 hF0 hF1
 go_wp2_with fail
 go_ret
 exact ⟨by
  rw [HMG.out, HSG.out, ← HKS.out]
  show Ending.returned (.int .i64 (IntKind.i64.wrap (IntKind.i64.wrap (4 + (ks.size : Int)) + (s.most : Int)))) = _
  rw [IntWalk.i64_in (4 + (ks.size : Int)) (by omega), IntWalk.i64_in _ (by omega)], HI.out.upd hu4, HU.out.trans (hu4.mono (T := [ib]) (by simp)), fun cv mv lv hb => hu4.heap (HU2.out.heap (HST.out cv mv lv hb) (by simp)) (by simp)⟩

theorem words_in (ib : Nat) (p : Prg) (ss : List Lk) (n : Int) (k : Nat) (w : World) (h : InfoAt w ib p ss n) (hl : ss.length = p.ms.length) (hk : k < p.ms.length) (hc : 0 < (p.ms.getD k default).code.length) (hz1 : (p.ms.getD k default).params.size ≤ 1000) (hz2 : (p.ms.getD k default).locals.size ≤ 1000) (hmo : (ss.getD k default).most ≤ 1000) (h0 : 0 ≤ n) (h1 : n ≤ 1000000000) :
  Calls Tryz.prog 36 #[.pointer (some ⟨ib, 0, none⟩), .int .i64 k] w fun e w' => e = .returned (.int .i64 (4 + ((p.ms.getD k default).params.size + (p.ms.getD k default).locals.size : Nat) + (ss.getD k default).most)) ∧ InfoAt w' ib p ss (n + 1) ∧ Upd [ib] w w' :=
 (words_in3 ib p ss n k w h hl hk hc hz1 hz2 hmo h0 h1).mono fun _ _ h => ⟨h.1, h.2.1, h.2.2.1⟩
end Go.Proofs.YtojobkhidlfeoaaGreatDoor
