/- overdrivelaw9.run. -/
import Derived.Test.YtojobkhidlfeoaaDoorFirstL
import Derived.Test.YtojobkhidlfeoaaDoorMwS
namespace Go.Proofs.YtojobkhidlfeoaaDoor
open Go.RowKit

set_option maxRecDepth 100000 in
set_option maxHeartbeats 4000000 in
theorem mlaw_run (p : Prg) (cv mv : Value) (E : Nat → Addr) (w : World) (hS : SentAt w E) (hc : ClassAt w cv p.cs) (hm : MethsAt w mv p.ms) (hok : p.Ok) (hlk : ∀ j, j < p.ms.length → ∃ s, lookM p (p.ms.getD j default) = .ok s) (hbd : p.Bd)
  (ip : Option Addr) (ic b o : Nat) (inp : List Int) (hi : LngV w (.slice ip inp.length ic) b o inp) (hip : ip = none → ic = 0) (hin : inp.length ≤ 100000) (hin2 : ∀ x ∈ inp, in64 x) (fuel : Nat) (hf : fuel ≤ 2000) :
  Calls Tryd.prog 6 #[.agg #[cv, mv], .slice ip inp.length ic, .int .i64 fuel] w fun e w' => ∃ q vc, e = .returned (.tuple #[.agg (outcells ((Mc.new p inp fuel).run p) (.slice q ((Mc.new p inp fuel).run p).out.length vc)), .bool true]) ∧ OwnI w' w.heap.size 2 (.slice q ((Mc.new p inp fuel).run p).out.length vc) ((Mc.new p inp fuel).run p).out ∧ Upd [] w w' := by
 obtain ⟨ca, cc, hce, _⟩ := id hc
 obtain ⟨ma, mc, hme, _⟩ := id hm
 subst hce hme
 have hu1 := ((Upd.refl [] w).alloc (.cells #[.slice ca p.cs.length cc, .slice ma p.ms.length mc] 36)).alloc (.cells #[.int .i64 0, .int .i64 0, .int .i64 0, .int .i64 0, .int .i64 0, .slice none 0 0] 25)
 have hA := ((Upd.refl [] _).alloc (.cells #[.int .i64 0, .int .i64 0, .int .i64 0, .int .i64 0, .int .i64 0, .slice none 0 0] 25)).heap (heap_alloc_new w (.cells #[.slice ca p.cs.length cc, .slice ma p.ms.length mc] 36)) (by simp)
 have hB := heap_alloc_new (w.alloc (.cells #[.slice ca p.cs.length cc, .slice ma p.ms.length mc] 36)) (.cells #[.int .i64 0, .int .i64 0, .int .i64 0, .int .i64 0, .int .i64 0, .slice none 0 0] 25)
 have HOF := Lib.hid (ofV_any p _ _ E _ (hS.upd hu1) (hc.upd hu1) (hm.upd hu1))
 have HU1 := Lib.hid hu1
 have HI := Lib.hid hi
 have HOK := Lib.hid hok
 have HLK := Lib.hid hlk
 have HBD := Lib.hid hbd
 have HIN2 := Lib.hid hin2
 rw [show (w.alloc (.cells #[.slice ca p.cs.length cc, .slice ma p.ms.length mc] 36)).heap.size = w.heap.size + 1 by simp] at hB
 clear hS hc hm hu1 hi hok hlk hbd hin2
 go_enter Tryd.func6, Tryd.ntmps6
 go_upto_region 1 with fail
 generalize (w.alloc (.cells #[.slice ca p.cs.length cc, .slice ma p.ms.length mc] 36)).alloc (.cells #[.int .i64 0, .int .i64 0, .int .i64 0, .int .i64 0, .int .i64 0, .slice none 0 0] 25) = w1 at HOF hA hB HU1 ⊢
 have HB := Lib.hid hB
 have p0 : w1.cell? ⟨w.heap.size, 0, none⟩ = some (.slice ca p.cs.length cc) := by rw [cell_of hA]; rfl
 have p1 : w1.cell? ⟨w.heap.size, 1, none⟩ = some (.slice ma p.ms.length mc) := by rw [cell_of hA]; rfl
 clear hA hB
 go_wp2_with fail
 refine HOF.out.mono ?_
 rintro e w2 ⟨v1, rfl, hend⟩
 obtain ⟨ib, ss, hl1, hlk1, rfl, hinfo, hib, hu2⟩ := hend.good HOK.out HLK.out
 have HRUN := Lib.hid (mgo_any hinfo ⟨HOK.out, ⟨hl1, hlk1⟩, HBD.out⟩ ip ic b o inp (HI.out.upd (HU1.out.trans hu2) (.inr (by simp))) hip hin HIN2.out fuel hf)
 have HU2 := Lib.hid (HU1.out.trans hu2)
 have HB2 := Lib.hid (hu2.heap HB.out (by simp))
 obtain ⟨TT, hTT⟩ : ∃ TT, (Mc.new p inp fuel).run p = TT := ⟨_, rfl⟩
 rw [hTT] at HRUN
 have HTT := Lib.hid hTT
 obtain ⟨fk, ft, fm, fp, fv, hF⟩ : ∃ fk ft fm fp fv, TT.fin.getD ⟨0, 0, 0, 0, 0⟩ = ⟨fk, ft, fm, fp, fv⟩ := ⟨_, _, _, _, _, rfl⟩
 have HFF := Lib.hid hF
 clear hend hl1 hlk1 hinfo hib hu2 hTT hF p0 p1 HB
 go_wp2_with fail
 refine HRUN.out.mono ?_
 rintro e w3 ⟨q, vc, he, ho3, hu3⟩
 unfold outcells at he
 rw [HFF.out] at he
 have he2 : e = .returned (.tuple #[.agg #[.int .i64 fk, .int .i64 ft, .int .i64 fm, .int .i64 fp, .int .i64 fv, .slice q TT.out.length vc], .nilIface]) := he
 subst he2
 clear he
 have hA4 := (Upd.refl [] w3).alloc (.cells #[.int .i64 fk, .int .i64 ft, .int .i64 fm, .int .i64 fp, .int .i64 fv, .slice q TT.out.length vc] 25)
 have HO4 := Lib.hid (heap_alloc_new w3 (.cells #[.int .i64 fk, .int .i64 ft, .int .i64 fm, .int .i64 fp, .int .i64 fv, .slice q TT.out.length vc] 25))
 have HB4 := Lib.hid (hA4.heap (hu3.heap HB2.out (by simp)) (by simp))
 have HOW := Lib.hid (row_upd ho3 hA4 (by simp))
 have HU4 := Lib.hid ((HU2.out.trans hu3).trans hA4)
 have hz3 : w.heap.size ≤ w2.heap.size := HU2.out.size
 have HRBL : Hid (w.heap.size + 1 < w3.heap.size) := by
  have h1 := (Array.getElem?_eq_some_iff.1 HB2.out).1
  have h2 := hu3.size
  show _ < _
  omega
 have HLO : Hid (∀ k, Value.ownBlock (.slice q TT.out.length vc) = some k → w2.heap.size ≤ k) := fun k hk => (World.ownsRow.lt ho3 k hk).1
 have HW12 : Hid (w.heap.size + 1 < w2.heap.size) := (Array.getElem?_eq_some_iff.1 HB2.out).1
 clear ho3 hu3 hA4
 go_upto_region 5 with fail
 generalize w3.alloc (.cells #[.int .i64 fk, .int .i64 ft, .int .i64 fm, .int .i64 fp, .int .i64 fv, .slice q TT.out.length vc] 25) = w4 at HO4 HB4 HOW HU4 ⊢
 obtain ⟨ob, hob⟩ : ∃ ob, w3.heap.size = ob := ⟨_, rfl⟩
 rw [hob] at HO4 HRBL ⊢
 clear hob
 obtain ⟨rb, hrb⟩ : ∃ rb, w.heap.size + 1 = rb := ⟨_, rfl⟩
 rw [hrb] at HB4 HRBL HW12 ⊢
 have HRB := Lib.hid hrb
 clear hrb
 have hne : ob ≠ rb := fun e => by have := HRBL.out; omega
 have hne2 : rb ≠ ob := fun e => hne e.symm
 have HR4 : Hid (w4.heap[rb]? = some (.cells #[.int .i64 0, .int .i64 0, .int .i64 0, .int .i64 0, .int .i64 0, .slice none 0 0] 25)) := HB4.out
 have HO4d : Hid (w4.drew.heap[ob]? = some (.cells #[.int .i64 fk, .int .i64 ft, .int .i64 fm, .int .i64 fp, .int .i64 fv, .slice q TT.out.length vc] 25)) := HO4.out
 have k0 : w4.drew.cell? ⟨ob, 0, none⟩ = some (.int .i64 fk) ∧ w4.drew.cell? ⟨ob, 1, none⟩ = some (.int .i64 ft) ∧ w4.drew.cell? ⟨ob, 2, none⟩ = some (.int .i64 fm) ∧ w4.drew.cell? ⟨ob, 3, none⟩ = some (.int .i64 fp) ∧ w4.drew.cell? ⟨ob, 4, none⟩ = some (.int .i64 fv) ∧ w4.drew.cell? ⟨ob, 5, none⟩ = some (.slice q TT.out.length vc) := ⟨by rw [cell_of HO4d.out]; rfl, by rw [cell_of HO4d.out]; rfl, by rw [cell_of HO4d.out]; rfl, by rw [cell_of HO4d.out]; rfl, by rw [cell_of HO4d.out]; rfl, by rw [cell_of HO4d.out]; rfl⟩
 have r0 : w4.cell? ⟨rb, 0, none⟩ = some (.int .i64 0) := by rw [cell_of HR4.out]; rfl
 have r1 : w4.cell? ⟨rb, 1, none⟩ = some (.int .i64 0) := by rw [cell_of HR4.out]; rfl
 have r2 : w4.cell? ⟨rb, 2, none⟩ = some (.int .i64 0) := by rw [cell_of HR4.out]; rfl
 have r3 : w4.cell? ⟨rb, 3, none⟩ = some (.int .i64 0) := by rw [cell_of HR4.out]; rfl
 have r4 : w4.cell? ⟨rb, 4, none⟩ = some (.int .i64 0) := by rw [cell_of HR4.out]; rfl
 have r5 : w4.cell? ⟨rb, 5, none⟩ = some (.slice none 0 0) := by rw [cell_of HR4.out]; rfl
 have rz := froz_of HR4.out
 have hu6 : Upd [rb] w4 ((((((w4.setCell ⟨rb, 0, none⟩ (.int .i64 fk)).setCell ⟨rb, 1, none⟩ (.int .i64 ft)).setCell ⟨rb, 2, none⟩ (.int .i64 fm)).setCell ⟨rb, 3, none⟩ (.int .i64 fp)).setCell ⟨rb, 4, none⟩ (.int .i64 fv)).setCell ⟨rb, 5, none⟩ (.slice q TT.out.length vc)).drew := (((((((Upd.refl [rb] w4).setCell (.inl (by simp)) _).setCell (.inl (by simp)) _).setCell (.inl (by simp)) _).setCell (.inl (by simp)) _).setCell (.inl (by simp)) _).setCell (.inl (by simp)) _).drew
 have HO6 := Lib.hid (hu6.heap HO4.out (by simp [hne]))
 have k1 : ((((((w4.setCell ⟨rb, 0, none⟩ (.int .i64 fk)).setCell ⟨rb, 1, none⟩ (.int .i64 ft)).setCell ⟨rb, 2, none⟩ (.int .i64 fm)).setCell ⟨rb, 3, none⟩ (.int .i64 fp)).setCell ⟨rb, 4, none⟩ (.int .i64 fv)).setCell ⟨rb, 5, none⟩ (.slice q TT.out.length vc)).drew.cell? ⟨ob, 0, none⟩ = some (.int .i64 fk) ∧ ((((((w4.setCell ⟨rb, 0, none⟩ (.int .i64 fk)).setCell ⟨rb, 1, none⟩ (.int .i64 ft)).setCell ⟨rb, 2, none⟩ (.int .i64 fm)).setCell ⟨rb, 3, none⟩ (.int .i64 fp)).setCell ⟨rb, 4, none⟩ (.int .i64 fv)).setCell ⟨rb, 5, none⟩ (.slice q TT.out.length vc)).drew.cell? ⟨ob, 1, none⟩ = some (.int .i64 ft) ∧ ((((((w4.setCell ⟨rb, 0, none⟩ (.int .i64 fk)).setCell ⟨rb, 1, none⟩ (.int .i64 ft)).setCell ⟨rb, 2, none⟩ (.int .i64 fm)).setCell ⟨rb, 3, none⟩ (.int .i64 fp)).setCell ⟨rb, 4, none⟩ (.int .i64 fv)).setCell ⟨rb, 5, none⟩ (.slice q TT.out.length vc)).drew.cell? ⟨ob, 2, none⟩ = some (.int .i64 fm) ∧ ((((((w4.setCell ⟨rb, 0, none⟩ (.int .i64 fk)).setCell ⟨rb, 1, none⟩ (.int .i64 ft)).setCell ⟨rb, 2, none⟩ (.int .i64 fm)).setCell ⟨rb, 3, none⟩ (.int .i64 fp)).setCell ⟨rb, 4, none⟩ (.int .i64 fv)).setCell ⟨rb, 5, none⟩ (.slice q TT.out.length vc)).drew.cell? ⟨ob, 3, none⟩ = some (.int .i64 fp) ∧ ((((((w4.setCell ⟨rb, 0, none⟩ (.int .i64 fk)).setCell ⟨rb, 1, none⟩ (.int .i64 ft)).setCell ⟨rb, 2, none⟩ (.int .i64 fm)).setCell ⟨rb, 3, none⟩ (.int .i64 fp)).setCell ⟨rb, 4, none⟩ (.int .i64 fv)).setCell ⟨rb, 5, none⟩ (.slice q TT.out.length vc)).drew.cell? ⟨ob, 4, none⟩ = some (.int .i64 fv) ∧ ((((((w4.setCell ⟨rb, 0, none⟩ (.int .i64 fk)).setCell ⟨rb, 1, none⟩ (.int .i64 ft)).setCell ⟨rb, 2, none⟩ (.int .i64 fm)).setCell ⟨rb, 3, none⟩ (.int .i64 fp)).setCell ⟨rb, 4, none⟩ (.int .i64 fv)).setCell ⟨rb, 5, none⟩ (.slice q TT.out.length vc)).drew.cell? ⟨ob, 5, none⟩ = some (.slice q TT.out.length vc) := ⟨by rw [cell_of HO6.out]; rfl, by rw [cell_of HO6.out]; rfl, by rw [cell_of HO6.out]; rfl, by rw [cell_of HO6.out]; rfl, by rw [cell_of HO6.out]; rfl, by rw [cell_of HO6.out]; rfl⟩
 have HU6 := Lib.hid hu6
 have HK6 := Lib.hid (heap_setCell (heap_setCell (heap_setCell (heap_setCell (heap_setCell (heap_setCell HR4.out 0 (.int .i64 fk)) 1 (.int .i64 ft)) 2 (.int .i64 fm)) 3 (.int .i64 fp)) 4 (.int .i64 fv)) 5 (.slice q TT.out.length vc))
 clear hu6
 refine wp_region_noPanic ?_
 refine wp_region_L (S := fun w' => w'.cell? ⟨ob, 0, none⟩ = some (.int .i64 fk) ∧ w'.cell? ⟨ob, 1, none⟩ = some (.int .i64 ft) ∧ w'.cell? ⟨ob, 2, none⟩ = some (.int .i64 fm) ∧ w'.cell? ⟨ob, 3, none⟩ = some (.int .i64 fp) ∧ w'.cell? ⟨ob, 4, none⟩ = some (.int .i64 fv) ∧ w'.cell? ⟨ob, 5, none⟩ = some (.slice q TT.out.length vc)) 4 (by kernel_rfl) ?_ (fun hHeld => ?_)
 ·first | (with_reducible exact k0) | (with_reducible exact k1)
 refine Nx.start [(0, [4]), (1, [4]), (2, [4])] ?_
 iterate 3
  refine Nx.p (oi := ?_) (v := ?_) ?_ (by kernel_rfl) (fun _ _ _ h => h) ?_ ?_ hHeld ?_
  rotate_left 2
  ·simp only [List.getElem?_toArray, List.getElem?_cons_zero, List.getElem?_cons_succ]; rfl
  ·rfl
  ·intro _ hSw; (try dsimp only at hSw); go_simp <;> with_reducible rfl
  (try simp only [Act.put, List.setIfInBounds_toArray, List.set_cons_zero, List.set_cons_succ])
 refine Nx.stop ?_
 refine wpAnyL_one (i := 3) (o := ?_) (by kernel_rfl) ?_ (fun K hK => ?_)
 rotate_left 1
 ·simp only [List.getElem?_toArray, List.getElem?_cons_zero, List.getElem?_cons_succ]; rfl
 clear hHeld
 go_simp
 refine hK.out _ _ ?_ (fun hHeld => ?_)
 ·first | (with_reducible exact k0) | (with_reducible exact k1)
 clear hK K
 (try simp only [Act.put, List.setIfInBounds_toArray, List.set_cons_zero, List.set_cons_succ])
 refine wpAnyL_last (o := ?_) (by kernel_rfl) ?_ (fun K hK => ?_)
 rotate_left 1
 ·simp only [List.getElem?_toArray, List.getElem?_cons_zero, List.getElem?_cons_succ]; rfl
 clear hHeld
 go_simp
 refine hK.out _ _ ?_
 clear hK K
 (try simp only [Act.put, List.setIfInBounds_toArray, List.set_cons_zero, List.set_cons_succ])
 refine wpAnyL_done (by kernel_rfl) ?_ _
 refine NoPanic.normal ?_
 have d0 := cell_of HK6.out 0
 have d1 := cell_of HK6.out 1
 have d2 := cell_of HK6.out 2
 have d3 := cell_of HK6.out 3
 have d4 := cell_of HK6.out 4
 have d5 := cell_of HK6.out 5
 simp at d0 d1 d2 d3 d4 d5
 go_wp2_with fail
 refine bodyPost_ret (v := .tuple #[.agg #[.int .i64 fk, .int .i64 ft, .int .i64 fm, .int .i64 fp, .int .i64 fv, .slice q TT.out.length vc], .bool true]) (by simp [results, Tryd.results6, go_sem, d0, d1, d2, d3, d4, d5]) rfl ?_
 rw [HTT.out]
 refine ⟨q, vc, by unfold outcells; rw [HFF.out], ?_, ?_⟩
 ·refine own_low (row_upd HOW.out HU6.out (fun k hk hm => ?_)) hz3
  rw [List.mem_singleton] at hm
  have := HLO.out k hk
  have := HW12.out
  omega
 ·exact HU4.out.trans' HU6.out (fun k hk hl => by
   rw [List.mem_singleton] at hk
   have := HRB.out
   omega)
end Go.Proofs.YtojobkhidlfeoaaDoor
