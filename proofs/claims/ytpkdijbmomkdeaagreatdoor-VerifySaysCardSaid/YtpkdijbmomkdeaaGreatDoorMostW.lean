/- verify.Info.Most. -/
import Derived.Test.YtpkdijbmomkdeaaGreatDoorAtW
/-! verify.Info.Most. -/
namespace Go.Proofs.YtpkdijbmomkdeaaGreatDoor
open Go.RowKit

set_option maxRecDepth 100000 in
set_option maxHeartbeats 1000000 in
theorem most_in (ib : Nat) (p : Prg) (ss : List Lk) (n : Int) (k : Nat) (w : World) (h : InfoAt w ib p ss n) (hl : ss.length = p.ms.length) (hk : k < p.ms.length) (h0 : 0 ≤ n) (h1 : n ≤ 1000000000) :
    Calls Tryz.prog 12 #[.pointer (some ⟨ib, 0, none⟩), .int .i64 k] w fun e w' => e = .returned (.int .i64 (ss.getD k default).most) ∧ InfoAt w' ib p ss (n + 1) ∧ Upd [ib] w w' := by
  go_enter Tryz.func12, Tryz.ntmps12
  go_wp2_with fail
  refine (ask_in ib p ss n k w h hl hk h0 h1).mono ?_
  rintro e w1 ⟨v, rfl, gs, gb, kp, kc, rfl, hlk, hi, hu⟩
  generalize hmg : p.ms.getD k default = m at hlk ⊢
  generalize hsg : ss.getD k default = s at hlk ⊢
  have HMG := Lib.hid hmg
  have HSG := Lib.hid hsg
  clear hmg hsg
  have hu2 := ((Upd.refl [] w1).alloc (.cells #[.slice (some ⟨gs, 0, none⟩) m.code.length m.code.length, .slice (some ⟨gb, 0, none⟩) m.code.length m.code.length, .int .i64 s.most] 75)).alloc (.cells #[.string m.params, .string m.locals, .string m.ret, .slice kp m.code.length kc] 52)
  have hA := ((Upd.refl [] _).alloc (.cells #[.string m.params, .string m.locals, .string m.ret, .slice kp m.code.length kc] 52)).heap (heap_alloc_new w1 (.cells #[.slice (some ⟨gs, 0, none⟩) m.code.length m.code.length, .slice (some ⟨gb, 0, none⟩) m.code.length m.code.length, .int .i64 s.most] 75)) (by simp)
  have hB := heap_alloc_new (w1.alloc (.cells #[.slice (some ⟨gs, 0, none⟩) m.code.length m.code.length, .slice (some ⟨gb, 0, none⟩) m.code.length m.code.length, .int .i64 s.most] 75)) (.cells #[.string m.params, .string m.locals, .string m.ret, .slice kp m.code.length kc] 52)
  rw [show (w1.alloc (.cells #[.slice (some ⟨gs, 0, none⟩) m.code.length m.code.length, .slice (some ⟨gb, 0, none⟩) m.code.length m.code.length, .int .i64 s.most] 75)).heap.size = w1.heap.size + 1 by simp] at hB
  have HL := Lib.hid (fun q hq => (⟨hu2.cell (hlk q hq).1 (by simp), hu2.cell (hlk q hq).2 (by simp)⟩ : _ ∧ _))
  have HI := Lib.hid (hi.upd hu2)
  have HU := Lib.hid (hu.trans (hu2.mono (T := [ib]) (by simp)))
  clear hlk hi hu hu2
  go_upto_region 2 with fail
  generalize (w1.alloc (.cells #[.slice (some ⟨gs, 0, none⟩) m.code.length m.code.length, .slice (some ⟨gb, 0, none⟩) m.code.length m.code.length, .int .i64 s.most] 75)).alloc (.cells #[.string m.params, .string m.locals, .string m.ret, .slice kp m.code.length kc] 52) = w2 at HL HI HU hA hB ⊢
  generalize w1.heap.size = B at hA hB ⊢
  have a0 : w2.cell? ⟨B, 0, none⟩ = some (.slice (some ⟨gs, 0, none⟩) m.code.length m.code.length) := by rw [cell_of hA]; rfl
  have a1 : w2.cell? ⟨B, 1, none⟩ = some (.slice (some ⟨gb, 0, none⟩) m.code.length m.code.length) := by rw [cell_of hA]; rfl
  have a2 : w2.cell? ⟨B, 2, none⟩ = some (.int .i64 s.most) := by rw [cell_of hA]; rfl
  have b0 : w2.cell? ⟨B + 1, 0, none⟩ = some (.string m.params) := by rw [cell_of hB]; rfl
  have b1 : w2.cell? ⟨B + 1, 1, none⟩ = some (.string m.locals) := by rw [cell_of hB]; rfl
  have b2 : w2.cell? ⟨B + 1, 2, none⟩ = some (.string m.ret) := by rw [cell_of hB]; rfl
  have b3 : w2.cell? ⟨B + 1, 3, none⟩ = some (.slice kp m.code.length kc) := by rw [cell_of hB]; rfl
  clear hA hB
  go_wp2_with fail
  go_ret
  exact ⟨by rw [HSG.out]; rfl, HI.out, HU.out⟩

end Go.Proofs.YtpkdijbmomkdeaaGreatDoor
