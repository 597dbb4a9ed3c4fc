/- HeapPlays: an object's words, and whether there is room. -/
import Derived.Test.YtbcoejmiihgfoaaDoorHpA
/-! HeapPlays: an object's words, and whether there is room. -/
namespace Go.Proofs.YtbcoejmiihgfoaaDoor
open Go.RowKit

set_option maxRecDepth 1000000 in
set_option maxHeartbeats 16000000 in
theorem hif306 {w0 : World} {B ub pb nl lc i : Nat} {la : Option Addr} {L : HL} {hv hmv mv : Value} {p : Prg} {cp : Option Addr} {cc : Nat} {lim nur half ask at_ : Int} {S : Hp} {ov rv yv tv : Value} {ps : List OP} {rs : List Int} {ys : List Bool} {ts : List Int} {u0 u1 : Int} {wx : World} {xd kk : Nat} {kd da dby dn dv : Int} {f : Nat → Value} {J K' : Act → World → Prop} {Q' : Exit → Act → World → Prop}
  (hC : HpC w0 p cp cc mv pb lim nur half) (hM : HpW w0 wx B ub L hv hmv S ov rv yv tv ps rs ys ts u0 u1) (hT : HpT S ps rs ys ts u0 u1 nur half p.cs i) (hx : wx.heap[xd]? = some (.cells #[.int .i64 kd, .int .i64 da, .int .i64 dby, .int .i64 dn, .int .i64 dv] 45))
  (hkk : kk = 0 ∨ kk = 1) (h25 : f 25 = .pointer (some ⟨xd, 0, none⟩)) (h26 : f 26 = .int .i64 (kk : Int)) (h27 : f 27 = .int .i64 da) (h28 : f 28 = .bool (decide (MayC p.cs da dn))) (h29 : f 29 = .int .i64 0) (h306 : f 306 = .bool (decide (MayC p.cs da dn)))
  (hJ : ∀ a' w', (Upd [] wx w' ∧ ∃ f, a' = hpF lim nur la nl lc ask at_ pb L.hb ub half ov rv yv tv (.int .i64 i) f ∧ (f 25 = .pointer (some ⟨xd, 0, none⟩) ∧ f 26 = .int .i64 (kk : Int) ∧ f 27 = .int .i64 da ∧ f 28 = .bool (S.room kk da dn) ∧ f 29 = .int .i64 (if MayC p.cs da dn then 2 + wantN p.cs da dn else 0))) → J a' w') (hK : ∀ a' w', Go.Met J a' w' → K' a' w') :
  (hpC 306).wp Tryd.prog (Exit.then K' Q') (hpF lim nur la nl lc ask at_ pb L.hb ub half ov rv yv tv (.int .i64 i) f) wx := by
 have x3 : wx.cell? ⟨xd, 3, none⟩ = some (.int .i64 dn) := by rw [cell_of hx]; rfl
 obtain ⟨c0, c1⟩ := cls_slice hC hM.upd
 have HJ := Lib.hid hJ
 have hcs := hT.cs
 have hok := hT.k.ok
 unfold hpF
 rw [h25, h26, h27, h28, h29, h306]
 conv => arg 2; whnf
 clear h25 h26 h27 h28 h29 h306 hJ
 by_cases hm : MayC p.cs da dn
 ·have hm1 : decide (MayC p.cs da dn) = true := decide_eq_true hm
  rw [if_pos hm] at HJ
  rw [hm1]
  rw [← hcs] at hm
  obtain ⟨r1, _, _⟩ := mayC_room hok hm kk (by omega)
  have hw := mayC_want hok hm
  rw [hcs] at r1 hw hm
  rw [r1] at HJ
  obtain ⟨cb, co, hcl⟩ := hC.cls
  have hpk := hC.ok
  have HW3 := Lib.hid (words3_may (mv := mv) (hcl.upd hM.upd (by simp)) hm (by have := hpk.few; omega) hpk.small)
  have HX := Lib.hid hx
  have HUS := Lib.hid hM.us
  have hu0 := hT.u0
  have hu1 := hT.u1
  have hsp0 : 0 ≤ S.y.fr ∧ S.y.fr ≤ S.y.top ∧ S.y.top ≤ S.y.to ∧ S.y.to ≤ S.A.length := hok.sp0 0
  have hsp1 : 0 ≤ S.h0.fr ∧ S.h0.fr ≤ S.h0.top ∧ S.h0.top ≤ S.h0.to ∧ S.h0.to ≤ S.A.length := hok.sp0 1
  have q0 : (S.sp ((0 : Nat))).to - (S.sp ((0 : Nat))).top = nur - u0 := by show S.y.to - S.y.top = _; omega
  have q1 : (S.sp ((1 : Nat))).to - (S.sp ((1 : Nat))).top = half - u1 := by show S.h0.to - S.h0.top = _; omega
  have hln := hok.len
  clear hm1 r1 hcl hpk hx hM hcs
  go_wp2_with fail
  refine HW3.out.mono ?_
  rintro e w2 ⟨rfl, hu2⟩
  have HU2 := Lib.hid hu2
  have s0 : w2.cell? ⟨ub, 0, none⟩ = some (.int .i64 u0) := hu2.cell (by rw [cell_of HUS.out]; rfl) (by simp)
  have s1 : w2.cell? ⟨ub, 1, none⟩ = some (.int .i64 u1) := hu2.cell (by rw [cell_of HUS.out]; rfl) (by simp)
  generalize hwn : wantN p.cs da dn = wn at hw HJ ⊢
  clear hwn hu2 HW3 HX HUS x3 c0 c1
  have hw1 : IntKind.i64.wrap (nur - u0) = nur - u0 := IntWalk.i64_in _ (by have := hC.bd; omega)
  have hw2 : IntKind.i64.wrap (half - u1) = half - u1 := IntWalk.i64_in _ (by have := hC.bd; have := hC.hf; omega)
  have t0 : ∀ o, (w2.alloc o).cell? ⟨ub, 0, none⟩ = some (.int .i64 u0) := fun o => ((Upd.refl [] w2).alloc o).cell s0 (by simp)
  have t1 : ∀ o, (w2.alloc o).cell? ⟨ub, 1, none⟩ = some (.int .i64 u1) := fun o => ((Upd.refl [] w2).alloc o).cell s1 (by simp)
  clear hu0 hu1 hsp0 hsp1 hln hok hT hC hm
  rcases hkk with rfl | rfl
  ·rw [q0] at HJ
   clear q0 q1
   go_upto_region 52 with fail
   go_region
   exact hK _ _ (Go.Met.intro (HJ.out _ _ ⟨(HU2.out.alloc _).drew, hpF_eqP _ (by kernel_rfl) ⟨rfl, rfl, rfl, rfl, rfl⟩⟩))
  ·rw [q1] at HJ
   clear q0 q1
   go_upto_region 52 with fail
   go_region
   exact hK _ _ (Go.Met.intro (HJ.out _ _ ⟨(HU2.out.alloc _).drew, hpF_eqP _ (by kernel_rfl) ⟨rfl, rfl, rfl, rfl, rfl⟩⟩))
 ·have hm1 : decide (MayC p.cs da dn) = false := decide_eq_false hm
  rw [if_neg hm] at HJ
  rw [hm1]
  rw [← hcs] at hm
  rw [(mayC_no hm kk).1] at HJ
  clear hm hm1 hcs hok hT hM hC hx x3 c0 c1
  as_aux_lemma =>
   go_wp2_with fail
   exact Go.Met.intro (HJ.out _ _ ⟨Upd.refl _ _, hpF_eqP _ (by kernel_rfl) ⟨rfl, rfl, rfl, rfl, rfl⟩⟩)
end Go.Proofs.YtbcoejmiihgfoaaDoor
