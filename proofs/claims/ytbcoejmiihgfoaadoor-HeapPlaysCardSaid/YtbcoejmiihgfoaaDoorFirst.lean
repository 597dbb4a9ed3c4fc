/- The chapter's examples. -/
import Derived.Test.YtbcoejmiihgfoaaDoorWide
namespace Go.Proofs.YtbcoejmiihgfoaaDoor
open Go.RowKit

set_option maxRecDepth 100000 in
set_option maxHeartbeats 2000000 in
theorem first_any (w : World) : Calls Tryd.prog 4 #[] w fun e w' => e = .returned (.bool true) ∧ Upd [] w w' := by
 go_enter Tryd.func4, Tryd.ntmps4
 go_wp2_with fail
 have hcls : ClsAt (((w.alloc (Obj.cells #[Value.string { data := #[73, 82] }] 55)).alloc (Obj.cells #[Value.int IntKind.i64 33, Value.int IntKind.i64 0, Value.int IntKind.i64 0, Value.int IntKind.i64 0] 66)).alloc (Obj.cells #[Value.string { data := #[] }, Value.string { data := #[] }, Value.string { data := #[] }, Value.slice (some { block := w.heap.size + 1, off := 0 }) 1 1] 69)) (.slice (some ⟨w.heap.size, 0, none⟩) 1 1) w.heap.size 0 [IR] := by
  refine ⟨.inr ⟨_, _, rfl, .inr rfl⟩, fun i hi => ?_⟩
  obtain rfl : i = 0 := by simpa using hi
  have h1 := (((Upd.refl [] (w.alloc (Obj.cells #[Value.string { data := #[73, 82] }] 55))).alloc (Obj.cells #[Value.int IntKind.i64 33, Value.int IntKind.i64 0, Value.int IntKind.i64 0, Value.int IntKind.i64 0] 66)).alloc (Obj.cells #[Value.string { data := #[] }, Value.string { data := #[] }, Value.string { data := #[] }, Value.slice (some { block := w.heap.size + 1, off := 0 }) 1 1] 69)).heap (heap_alloc_new w _) (by simp)
  rw [cell_of h1]
  rfl
 refine (hnew_ok _ _ _ _ [IR] 100 20 _ hcls (by omega) (by omega) (by omega) (by simp) (by simp; decide) (by simp)).mono ?_
 rintro e w1 ⟨L, cv, mv, rfl, hH0, hu1, hlo1⟩
 have hu1' : Upd [] w w1 := ((((Upd.refl [] w).alloc _).alloc _).alloc _).trans hu1
 have hlow : ∀ i ∈ L.all, i < w1.heap.size := fun i hi => (hlo1 i hi).2
 have hlo : ∀ i ∈ [L.hb, L.ab, L.wb, L.bb, L.bw, L.mb, L.mw], w.heap.size ≤ i := HL.above hH0.nd (fun i hi => by
  rcases (hlo1 i hi).1 with h | h
  ·exact .inl h
  ·simp at h; exact .inr (by omega))
 clear hlo1 hcls hu1
 go_wp2_with fail
 refine (young_yes L cv mv F0 0 0 4 w1 hH0 (Hid.mk f_words) (by omega) (by decide)).mono ?_
 rintro e w2 ⟨rfl, hH1, hu2⟩
 rw [f_top]
 go_wp2_with fail
 refine (hroom_any L cv mv F1 w2 hH1).mono ?_
 rintro e w3 ⟨rfl, n3, rfl⟩
 rw [f_room.1, f_room.2]
 go_wp2_with fail
 refine (put_yes L cv mv F1 1 1 1 (w2.drewN n3) (hH1.upd0 ((Upd.refl [] w2).drewN n3)) f_may (by omega)).mono ?_
 rintro e w4 ⟨rfl, hH2, hu4⟩
 have hU4 : Upd [] w w4 := ((hu1'.trans' hu2 (fun i hi hlt => by
   have h1 := hlo i (by simp only [List.mem_cons, List.not_mem_nil, or_false] at hi ⊢; rcases hi with h | h | h <;> simp [h])
   omega)).drewN n3).trans' hu4 (fun i hi hlt => by
   have h1 := hlo i (by simp only [List.mem_cons, List.not_mem_nil, or_false] at hi ⊢; rcases hi with h | h <;> simp [h])
   omega)
 have hlow4 : ∀ i ∈ L.all, i < w4.heap.size := fun i hi => by
  have h1 := hlow i hi
  have h2 := hu2.size
  have h3 : w2.heap.size ≤ w4.heap.size := hu4.size
  omega
 have HOK0 := hH0.ok
 have HOK1 := hH1.ok
 clear hu2 hu4 hH1 hlow hlo
 go_wp2_with fail
 have hHA := hH2.upd0 ((Upd.refl [] w4).alloc (.cells #[.int .i64 1, .int .i64 0] 3))
 have hcn := cell_of (heap_alloc_new w4 (.cells #[.int .i64 1, .int .i64 0] 3))
 refine (shape_any L cv mv F2 _ 2 w4.heap.size [1, 0] _ hHA (fun i hi => by have := hlow4 i hi; simp; omega) (f_wide HOK0 HOK1).rng (by simp) (.inr rfl) (fun i hi => ?_) (fun r hr => by simp at hr; omega)).mono ?_
 ·have hi' : i = 0 ∨ i = 1 := by simp at hi; omega
  rw [hcn]
  rcases hi' with rfl | rfl <;> rfl
 rintro e w5 ⟨uv, av, ps, ov, od, rfl, hst, hps, hu5⟩
 rw [f_shape] at hst hps
 obtain ⟨q, rfl⟩ : ∃ q, ps = [q] := by
  have hl := congrArg List.length hps
  rw [List.length_map] at hl
  exact List.length_eq_one_iff.1 hl
 simp only [List.map_cons, List.map_nil, OP.o, List.cons.injEq, Prod.mk.injEq, and_true] at hps
 obtain ⟨ub, uc, rfl, hob⟩ := hst.obj1 (by simp)
 have hob1 := (hob 0 (by simp)).2
 simp only [List.getElem_cons_zero] at hob1
 obtain ⟨hiv, _⟩ := hst.vals q (by simp)
 rw [hps.2] at hiv
 obtain ⟨ab, hia, _⟩ := IntsV.of_row hst.ats
 have HIV := Lib.hid hiv
 have HIA := Lib.hid hia
 have HU5 := Lib.hid (hU4.alloc (.cells #[.int .i64 1, .int .i64 0] 3) |>.trans hu5)
 obtain ⟨qp, qc, hqv⟩ := hiv.form
 rw [hqv] at hob1
 obtain ⟨ap, ac, rfl⟩ := hia.form
 clear hiv hia hst hob hcn hHA hH2 hH0 hps hu5 hU4 hu1' HOK0 HOK1 hlow4
 go_wp2_with fail
 rw [hqv] at HIV
 have hlit : IntsV (w5.alloc (.cells #[.int .i64 0, .int .i64 0] 2)) (.slice (some ⟨w5.heap.size, 0, none⟩) 2 2) w5.heap.size [0, 0] := ints_lit w5 [0, 0] _ rfl
 refine (slongs _ _ _ _ _ _ _ (HIV.out.upd ((Upd.refl [] w5).alloc _) (.inr (by simp))) hlit (by simp)).mono ?_
 rintro e w6 ⟨rfl, hu6⟩
 have HU6 := Lib.hid (HU5.out.trans (((Upd.refl [] w5).alloc _).trans hu6))
 have HIA6 := Lib.hid (HIA.out.upd (((Upd.refl [] w5).alloc _).trans hu6) (.inr (by simp)))
 clear hu6 hlit
 go_wp2_with fail
 have hlit2 : IntsV (w6.alloc (.cells #[.int .i64 0, .int .i64 (-1)] 3)) (.slice (some ⟨w6.heap.size, 0, none⟩) 2 2) w6.heap.size [0, -1] := ints_lit w6 [0, -1] _ rfl
 refine (sints _ _ _ _ _ _ _ (HIA6.out.upd ((Upd.refl [] w6).alloc _) (.inr (by simp))) hlit2 (by simp)).mono ?_
 rintro e w7 ⟨rfl, hu7⟩
 have HU7 := Lib.hid (HU6.out.trans (((Upd.refl [] w6).alloc _).trans hu7))
 clear hu7 hlit2
 go_wp2_with fail
 go_ret
 exact ⟨by simp, HU7.out⟩

end Go.Proofs.YtbcoejmiihgfoaaDoor
