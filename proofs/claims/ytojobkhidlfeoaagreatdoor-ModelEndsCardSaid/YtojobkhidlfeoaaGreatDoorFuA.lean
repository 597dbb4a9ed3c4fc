/- overdrivelaw9.made; overdriveworld.Few; overdriveref.Begins. -/
import Derived.Test.YtojobkhidlfeoaaGreatDoorWInfo
import Derived.Test.YtojobkhidlfeoaaGreatDoorFirstL
import Derived.Test.YtojobkhidlfeoaaGreatDoorMwV
import Derived.Test.YtojobkhidlfeoaaGreatDoorMdS
namespace Go.Proofs.YtojobkhidlfeoaaGreatDoor
open Go.RowKit

theorem few_any (p : Option Addr) (n c : Nat) (w : World) : Calls Tryz.prog 13 #[.slice p n c] w fun e w' => e = .returned (.bool (decide ((n : Int) ≤ 200))) ∧ w = w' := by
 go_enter Tryz.func13, Tryz.ntmps13
 go_wp2_with fail
 go_ret
 exact ⟨rfl, rfl⟩

theorem prg_bd {w : World} {mv : Value} {p : Prg} (h : MethsAt w mv p.ms) : p.Bd := by
 obtain ⟨a, cap, _, _, _, hx⟩ := h
 refine Prg.bd_of fun m hm x hx2 => ?_
 obtain ⟨i, hi, rfl⟩ := List.getElem_of_mem hm
 obtain ⟨b, o, _, _, _, _, _, v, _, hc⟩ := hx i hi
 rw [List.getD_eq_getElem?_getD, List.getElem?_eq_getElem hi, Option.getD_some] at hc
 obtain ⟨a2, cap2, _, _, _, hx3⟩ := hc
 obtain ⟨j, hj, rfl⟩ := List.getElem_of_mem hx2
 obtain ⟨_, _, _, hb, _⟩ := hx3 j hj
 rw [List.getD_eq_getElem?_getD, List.getElem?_eq_getElem hj, Option.getD_some] at hb
 exact hb

/-- Others' cells stay. -/
def ReadsX (x : Nat) (w w' : World) : Prop := ∀ (p : Addr) v, p.block ≠ x → w.cell? p = some v → w'.cell? p = some v
theorem ne_slices {w : World} {x b j : Nat} {p1 p2 p3 : Option Addr} {n1 n2 n3 c1 c2 c3 : Nat} {t : TypeId} {u : Value} (hb : w.heap[x]? = some (.cells #[.slice p1 n1 c1, .slice p2 n2 c2, .slice p3 n3 c3] t)) (hc : w.cell? ⟨b, j, none⟩ = some u) (hu : ∀ p n c, u ≠ .slice p n c) : b ≠ x := by
 rintro rfl
 obtain ⟨p, n, c, rfl⟩ := slices_only hb hc
 exact hu p n c rfl
theorem ClassAt.readsX {w w' : World} {v : Value} {cs : List ByteArray} {x : Nat} {p1 p2 p3 : Option Addr} {n1 n2 n3 c1 c2 c3 : Nat} {t : TypeId} (h : ClassAt w v cs) (hb : w.heap[x]? = some (.cells #[.slice p1 n1 c1, .slice p2 n2 c2, .slice p3 n3 c3] t)) (hr : ReadsX x w w') : ClassAt w' v cs := by
 obtain ⟨a, cap, h1, h0, h2, h3, h4⟩ := h
 refine ⟨a, cap, h1, h0, h2, h3, fun i hi => ?_⟩
 obtain ⟨b, o, h5, h6, h7⟩ := h4 i hi
 exact ⟨b, o, h5, h6, hr _ _ (ne_slices hb h7 (by intro _ _ _ e; cases e)) h7⟩
theorem CodeAt.readsX {w w' : World} {v : Value} {xs : List Ins} {x : Nat} {p1 p2 p3 : Option Addr} {n1 n2 n3 c1 c2 c3 : Nat} {t : TypeId} (h : CodeAt w v xs) (hb : w.heap[x]? = some (.cells #[.slice p1 n1 c1, .slice p2 n2 c2, .slice p3 n3 c3] t)) (hr : ReadsX x w w') : CodeAt w' v xs := by
 obtain ⟨a, cap, h1, h2, h3, h4⟩ := h
 refine ⟨a, cap, h1, h2, h3, fun i hi => ?_⟩
 obtain ⟨b, o, h5, h6, h7⟩ := h4 i hi
 have hne : b ≠ x := ne_slices hb h7.1 (by intro _ _ _ e; cases e)
 exact ⟨b, o, h5, h6, hr _ _ hne h7.1, hr _ _ hne h7.2.1, hr _ _ hne h7.2.2.1, hr _ _ hne h7.2.2.2⟩
theorem MethsAt.readsX {w w' : World} {v : Value} {ms : List Meth} {x : Nat} {p1 p2 p3 : Option Addr} {n1 n2 n3 c1 c2 c3 : Nat} {t : TypeId} (h : MethsAt w v ms) (hb : w.heap[x]? = some (.cells #[.slice p1 n1 c1, .slice p2 n2 c2, .slice p3 n3 c3] t)) (hr : ReadsX x w w') : MethsAt w' v ms := by
 obtain ⟨a, cap, h1, h2, h3, h4⟩ := h
 refine ⟨a, cap, h1, h2, h3, fun i hi => ?_⟩
 obtain ⟨b, o, h5, h6, h7, h8, h9, u, h10, h11⟩ := h4 i hi
 have hne : b ≠ x := ne_slices hb h7 (by intro _ _ _ e; cases e)
 exact ⟨b, o, h5, h6, hr _ _ hne h7, hr _ _ hne h8, hr _ _ hne h9, u, hr _ _ hne h10, h11.readsX hb hr⟩
theorem LksAt.readsX {w w' : World} {v : Value} {ms : List Meth} {ss : List Lk} {x : Nat} {p1 p2 p3 : Option Addr} {n1 n2 n3 c1 c2 c3 : Nat} {t : TypeId} (h : LksAt w v ms ss) (hb : w.heap[x]? = some (.cells #[.slice p1 n1 c1, .slice p2 n2 c2, .slice p3 n3 c3] t)) (hr : ReadsX x w w') : LksAt w' v ms ss := by
 obtain ⟨a, cap, h1, h2, h3⟩ := h
 refine ⟨a, cap, h1, h2, fun i hi => ?_⟩
 obtain ⟨b, o, gs, gb, h4, h5, h6, h7, h8⟩ := h3 i hi
 have hne : b ≠ x := ne_slices hb h7 (by intro _ _ _ e; cases e)
 exact ⟨b, o, gs, gb, h4, hr _ _ hne h5, hr _ _ hne h6, hr _ _ hne h7, fun q hq => ⟨hr _ _ (ne_slices hb (h8 q hq).1 (by intro _ _ _ e; cases e)) (h8 q hq).1, hr _ _ (ne_slices hb (h8 q hq).2 (by intro _ _ _ e; cases e)) (h8 q hq).2⟩⟩
theorem InfoAt.updX {w w' : World} {ib x : Nat} {p : Prg} {ss : List Lk} {n : Int} {p1 p2 p3 : Option Addr} {n1 n2 n3 c1 c2 c3 : Nat} {t : TypeId} (h : InfoAt w ib p ss n) (hb : w.heap[x]? = some (.cells #[.slice p1 n1 c1, .slice p2 n2 c2, .slice p3 n3 c3] t)) (hu : Upd [x] w w') : InfoAt w' ib p ss n := by
 obtain ⟨cv, mv, lv, h1, h2, h3, h4⟩ := h
 have hne : ib ≠ x := by
  rintro rfl
  rw [h1] at hb
  injection hb with hb
  injection hb with hb
  simp at hb
 have hb2 : (offW w ib).heap[x]? = some (.cells #[.slice p1 n1 c1, .slice p2 n2 c2, .slice p3 n3 c3] t) := by
  rw [← hb]
  exact offs_heap [ib] w x (by simp; exact fun e => hne e.symm)
 have hr : ReadsX x (offW w ib) (offW w' ib) := fun q v hq hc => by
  obtain ⟨e1, e2⟩ := offW_cell hc
  exact cell_offs (U := [ib]) (hu.cell e2 (by simpa using hq)) (by simpa using e1)
 exact ⟨cv, mv, lv, hu.heap h1 (by simpa using hne), h2.readsX hb2 hr, h3.readsX hb2 hr, h4.readsX hb2 hr⟩

/-- What made answers, if it does. -/
def MadeAt (p : Prg) (w w' : World) (cv mv v0 x0 x1 x2 : Value) : Prop := x0 = cv ∧ x1 = mv ∧ ∃ ib ss, v0 = .pointer (some ⟨ib, 0, none⟩) ∧ Vf p ss ∧ InfoAt w' ib p ss 0 ∧ w.heap.size ≤ ib ∧ LksT w' x2 p.ms ss

set_option maxRecDepth 100000 in
set_option maxHeartbeats 4000000 in
theorem made_any (p : Prg) (cv mv : Value) (E : Nat → Addr) (w : World) (hS : SentAt w E) (hc : ClassAt w cv p.cs) (hm : MethsAt w mv p.ms) :
  Calls Tryz.prog 12 #[.agg #[cv, mv]] w fun e w' => ∃ v0 a0 n0 c0 a1 n1 c1 a2 n2 c2 b, e = .returned (.tuple #[v0, .agg #[.slice a0 n0 c0, .slice a1 n1 c1, .slice a2 n2 c2], .bool b]) ∧ (b = true → MadeAt p w w' cv mv v0 (.slice a0 n0 c0) (.slice a1 n1 c1) (.slice a2 n2 c2)) ∧ Upd [] w w' := by
 have HC := Lib.hid hc
 have HM := Lib.hid hm
 have HBD := Lib.hid (prg_bd hm)
 have HIN := Lib.hid (fun w' (hu : Upd [] w w') => winfo_any p cv mv w' (HC.out.upd hu) (HM.out.upd hu))
 have HOV := Lib.hid (fun w' (hu : Upd [] w w') => ofV_any p cv mv E w' (hS.upd hu) (HC.out.upd hu) (HM.out.upd hu))
 obtain ⟨ca, cc, rfl, _⟩ := hc
 obtain ⟨ma, mc, rfl, _⟩ := hm
 have hu0 := ((Upd.refl [] w).alloc (.cells #[.slice ca p.cs.length cc, .slice ma p.ms.length mc] 25)).alloc (.cells #[.slice none 0 0, .slice none 0 0, .slice none 0 0] 31)
 have hb0 := ((Upd.refl [] (w.alloc (.cells #[.slice ca p.cs.length cc, .slice ma p.ms.length mc] 25))).alloc (.cells #[.slice none 0 0, .slice none 0 0, .slice none 0 0] 31)).heap (heap_alloc_new w _) (by simp)
 have hr0 := heap_alloc_new (w.alloc (.cells #[.slice ca p.cs.length cc, .slice ma p.ms.length mc] 25)) (.cells #[.slice none 0 0, .slice none 0 0, .slice none 0 0] 31)
 have hz : (w.alloc (.cells #[.slice ca p.cs.length cc, .slice ma p.ms.length mc] 25)).heap.size = w.heap.size + 1 := by simp
 rw [hz] at hr0
 go_enter Tryz.func12, Tryz.ntmps12
 go_upto_region 1 with fail
 generalize (w.alloc (.cells #[.slice ca p.cs.length cc, .slice ma p.ms.length mc] 25)).alloc (.cells #[.slice none 0 0, .slice none 0 0, .slice none 0 0] 31) = w0 at hu0 hb0 hr0 ⊢
 have p0 : w0.cell? ⟨w.heap.size, 0, none⟩ = some (.slice ca p.cs.length cc) := by rw [cell_of hb0]; rfl
 have p1 : w0.cell? ⟨w.heap.size, 1, none⟩ = some (.slice ma p.ms.length mc) := by rw [cell_of hb0]; rfl
 go_wp2_with fail
 refine (HIN.out w0 hu0).mono ?_
 rintro e w1 ⟨a0, n0, c0, a1, n1, c1, a2, n2, c2, b, rfl, hri, hu1⟩
 have hb1 := hu1.heap hb0 (by simp)
 have hr1 := hu1.heap hr0 (by simp)
 have hn1 := heap_alloc_new w1 (.cells #[.slice a0 n0 c0, .slice a1 n1 c1, .slice a2 n2 c2] 31)
 have hu2 := (Upd.refl [] w1).alloc (.cells #[.slice a0 n0 c0, .slice a1 n1 c1, .slice a2 n2 c2] 31)
 have hb2 := hu2.heap hb1 (by simp)
 have hr2 := hu2.heap hr1 (by simp)
 have hlt : w.heap.size + 1 < w1.heap.size := lt_of_heap hr1
 have HRI : Hid (b = true → RInfo p (w1.alloc (.cells #[.slice a0 n0 c0, .slice a1 n1 c1, .slice a2 n2 c2] 31)) (.slice ca p.cs.length cc) (.slice ma p.ms.length mc) (.slice a0 n0 c0) (.slice a1 n1 c1) (.slice a2 n2 c2)) := fun hb => by
  obtain ⟨h1, h2, h3, ss, h4, h5, h6⟩ := hri hb
  exact ⟨h1, h2, h3, ss, h4, h5, h6.upd hu2⟩
 have HU2 := Lib.hid ((hu0.trans hu1).trans hu2)
 have HLT := Lib.hid hlt
 clear hb0 hr0 p0 p1 hu0 hu1 hz hb1 hr1 hu2 hri hlt
 go_upto_region 2 with fail
 generalize w1.alloc (.cells #[.slice a0 n0 c0, .slice a1 n1 c1, .slice a2 n2 c2] 31) = w2 at hn1 hb2 hr2 HRI HU2 ⊢
 obtain ⟨xb, hxb⟩ : ∃ xb, w1.heap.size = xb := ⟨_, rfl⟩
 rw [hxb] at hn1 HLT ⊢
 have hne : w.heap.size + 1 ≠ xb := fun e => by have := HLT.out; omega
 clear hxb
 cases b with
 | false =>
  have x0 : w2.cell? ⟨xb, 0, none⟩ = some (.slice a0 n0 c0) := by rw [cell_of hn1]; rfl
  have x1 : w2.cell? ⟨xb, 1, none⟩ = some (.slice a1 n1 c1) := by rw [cell_of hn1]; rfl
  have x2 : w2.cell? ⟨xb, 2, none⟩ = some (.slice a2 n2 c2) := by rw [cell_of hn1]; rfl
  have r0 : w2.cell? ⟨w.heap.size + 1, 0, none⟩ = some (.slice none 0 0) := by rw [cell_of hr2]; rfl
  have r1 : w2.cell? ⟨w.heap.size + 1, 1, none⟩ = some (.slice none 0 0) := by rw [cell_of hr2]; rfl
  have r2 : w2.cell? ⟨w.heap.size + 1, 2, none⟩ = some (.slice none 0 0) := by rw [cell_of hr2]; rfl
  have y0 := froz_of hr2 0
  have y1 := froz_of hr2 1
  have y2 := froz_of hr2 2
  have k3 := heap_setCell (heap_setCell (heap_setCell hr2 0 (.slice a0 n0 c0)) 1 (.slice a1 n1 c1)) 2 (.slice a2 n2 c2)
  have u3 : Upd [w.heap.size + 1] w2 (((w2.setCell ⟨w.heap.size + 1, 0, none⟩ (.slice a0 n0 c0)).setCell ⟨w.heap.size + 1, 1, none⟩ (.slice a1 n1 c1)).setCell ⟨w.heap.size + 1, 2, none⟩ (.slice a2 n2 c2)) :=
   (((Upd.refl _ w2).setCell (.inl (by simp)) _).setCell (.inl (by simp)) _).setCell (.inl (by simp)) _
  have HUE := Lib.hid ((HU2.out.trans' u3 (fun i hi hl => by rw [List.mem_singleton] at hi; omega)).drew)
  have d0 := cell_of k3 0
  have d1 := cell_of k3 1
  have d2 := cell_of k3 2
  simp at d0 d1 d2
  clear k3 u3 hn1 hr2 hb2
  go_upto_region 3 with fail
  go_region
  all_goals
   go_wp2_with fail
   refine bodyPost_ret (v := .tuple #[.pointer none, .agg #[.slice a0 n0 c0, .slice a1 n1 c1, .slice a2 n2 c2], .bool false]) (by simp [results, Tryz.results12, go_sem, d0, d1, d2]) rfl ?_
   exact ⟨_, _, _, _, _, _, _, _, _, _, false, rfl, (fun h => by cases h), HUE.out⟩
 | true =>
  have hri := HRI.out rfl
  obtain ⟨hok, h2, h3, ss0, h4, h5, h6⟩ := hri
  have HH2 := Lib.hid h2
  have HH3 := Lib.hid h3
  have HLK := Lib.hid h6
  have HOK := Lib.hid hok
  have HSS := Lib.hid (And.intro h4 h5)
  have p0 : w2.cell? ⟨w.heap.size, 0, none⟩ = some (.slice ca p.cs.length cc) := by rw [cell_of hb2]; rfl
  have p1 : w2.cell? ⟨w.heap.size, 1, none⟩ = some (.slice ma p.ms.length mc) := by rw [cell_of hb2]; rfl
  clear h2 h3 h6 hok h4 h5 HRI
  go_wp2_with fail
  refine (HOV.out w2 HU2.out).mono ?_
  rintro e w3 ⟨v, rfl, hend⟩
  obtain ⟨ib, ss, hl, hlk, rfl, hinfo, hib, hu3⟩ := hend.good HOK.out (fun j hj => ⟨_, HSS.out.2 j hj⟩)
  have hss : ss = ss0 := by
   refine List.ext_getElem? fun j => ?_
   by_cases hj : j < p.ms.length
   ·have e1 := hlk j hj
    rw [HSS.out.2 j hj] at e1
    injection e1 with e2
    rw [List.getD_eq_getElem?_getD, List.getD_eq_getElem?_getD, List.getElem?_eq_getElem (l := ss0) (by rw [HSS.out.1]; exact hj), List.getElem?_eq_getElem (l := ss) (by rw [hl]; exact hj)] at e2
    rw [List.getElem?_eq_getElem (l := ss) (by rw [hl]; exact hj), List.getElem?_eq_getElem (l := ss0) (by rw [HSS.out.1]; exact hj)]
    simpa using e2.symm
   ·rw [List.getElem?_eq_none (by rw [hl]; omega), List.getElem?_eq_none (by rw [HSS.out.1]; omega)]
  have HVF : Hid (Vf p ss) := ⟨HOK.out, ⟨hl, hlk⟩, HBD.out⟩
  have HINF := Lib.hid hinfo
  have HL3 : Hid (LksT w3 (.slice a2 n2 c2) p.ms ss) := by rw [hss]; exact HLK.out.upd hu3
  have HIB : Hid (w.heap.size ≤ ib) := Nat.le_trans HU2.out.size hib
  have hn3 := hu3.heap hn1 (by simp)
  have hr3 := hu3.heap hr2 (by simp)
  have HU3 := Lib.hid (HU2.out.trans hu3)
  clear hn1 hr2 hb2 p0 p1 hend hl hlk hinfo hib hu3 hss HSS HLK
  have x0 : w3.cell? ⟨xb, 0, none⟩ = some (.slice a0 n0 c0) := by rw [cell_of hn3]; rfl
  have x1 : w3.cell? ⟨xb, 1, none⟩ = some (.slice a1 n1 c1) := by rw [cell_of hn3]; rfl
  have x2 : w3.cell? ⟨xb, 2, none⟩ = some (.slice a2 n2 c2) := by rw [cell_of hn3]; rfl
  have r0 : w3.cell? ⟨w.heap.size + 1, 0, none⟩ = some (.slice none 0 0) := by rw [cell_of hr3]; rfl
  have r1 : w3.cell? ⟨w.heap.size + 1, 1, none⟩ = some (.slice none 0 0) := by rw [cell_of hr3]; rfl
  have r2 : w3.cell? ⟨w.heap.size + 1, 2, none⟩ = some (.slice none 0 0) := by rw [cell_of hr3]; rfl
  have y0 := froz_of hr3 0
  have y1 := froz_of hr3 1
  have y2 := froz_of hr3 2
  have k3 := heap_setCell (heap_setCell (heap_setCell hr3 0 (.slice a0 n0 c0)) 1 (.slice a1 n1 c1)) 2 (.slice a2 n2 c2)
  have u3 : Upd [w.heap.size + 1] w3 (((w3.setCell ⟨w.heap.size + 1, 0, none⟩ (.slice a0 n0 c0)).setCell ⟨w.heap.size + 1, 1, none⟩ (.slice a1 n1 c1)).setCell ⟨w.heap.size + 1, 2, none⟩ (.slice a2 n2 c2)) :=
   (((Upd.refl _ w3).setCell (.inl (by simp)) _).setCell (.inl (by simp)) _).setCell (.inl (by simp)) _
  have HUE := Lib.hid ((HU3.out.trans' u3 (fun i hi hl => by rw [List.mem_singleton] at hi; omega)).drew)
  have HME : Hid (MadeAt p w ((((w3.setCell ⟨w.heap.size + 1, 0, none⟩ (.slice a0 n0 c0)).setCell ⟨w.heap.size + 1, 1, none⟩ (.slice a1 n1 c1)).setCell ⟨w.heap.size + 1, 2, none⟩ (.slice a2 n2 c2)).drew) (.slice ca p.cs.length cc) (.slice ma p.ms.length mc) (.pointer (some ⟨ib, 0, none⟩)) (.slice a0 n0 c0) (.slice a1 n1 c1) (.slice a2 n2 c2)) :=
   ⟨HH2.out, HH3.out, ib, ss, rfl, HVF.out, HINF.out.updX hr3 u3.drew, HIB.out, HL3.out.offI hr3 u3.drew⟩
  have d0 := cell_of k3 0
  have d1 := cell_of k3 1
  have d2 := cell_of k3 2
  simp at d0 d1 d2
  clear k3 u3 hn3 hr3
  go_upto_region 5 with fail
  go_region
  all_goals
   go_wp2_with fail
   refine bodyPost_ret (v := .tuple #[.pointer (some ⟨ib, 0, none⟩), .agg #[.slice a0 n0 c0, .slice a1 n1 c1, .slice a2 n2 c2], .bool true]) (by simp [results, Tryz.results12, go_sem, d0, d1, d2]) rfl ?_
   exact ⟨_, _, _, _, _, _, _, _, _, _, _, rfl, (fun _ => HME.out), HUE.out⟩

end Go.Proofs.YtojobkhidlfeoaaGreatDoor
