/- overdrivelaw13.first. -/
import Derived.Test.YtopojeanbpokaaaGreatDoorFrI
import Derived.Test.YtopojeanbpokaaaGreatDoorFirstL
import Derived.Test.YtopojeanbpokaaaGreatDoorSameI
/-! overdrivelaw13.first. -/
namespace Go.Proofs.YtopojeanbpokaaaGreatDoor
open Go.RowKit

def fg0 : Meth := ⟨⟨#[]⟩, ⟨#[]⟩, ⟨#[]⟩, [⟨33, 0, 0, 0⟩]⟩
def fg1 : Meth := ⟨⟨#[73, 82]⟩, ⟨#[]⟩, ⟨#[]⟩, [⟨33, 0, 0, 0⟩]⟩
abbrev fgP : Prg := ⟨[], [fg0, fg1]⟩
theorem fgP_ok : fgP.Ok := okB_ok (by decide +kernel)
theorem look_most {p : Prg} {m : Meth} {k : Nat} {b : Bool} {l : List UInt8} (h : lookG (lookM p m) 0 = some (b, l, k)) : ∃ s, lookM p m = .ok s ∧ s.most = k := by
  cases hr : lookM p m with
  | error e => rw [hr] at h; cases h
  | ok s =>
    rw [hr] at h
    injection h with h
    injection h with h1 h
    injection h with h2 h3
    exact ⟨s, rfl, h3⟩
theorem fg0_look : ∃ s, lookM fgP fg0 = .ok s ∧ s.most = 0 := look_most (b := true) (l := []) (by decide +kernel)
theorem fg1_look : ∃ s, lookM fgP fg1 = .ok s ∧ s.most = 0 := look_most (b := true) (l := []) (by decide +kernel)
theorem zeroL_nil : zeroL ⟨#[]⟩ = [] := by
  have h : (⟨#[]⟩ : ByteArray) = bs [] := rfl
  rw [h]
  unfold zeroL
  rw [bs_list]
  rfl
abbrev fgS : List Slt := [⟨false, 5⟩, ⟨true, 9⟩]
theorem newFr_fg : newFr fgP 1 fgS = ⟨1, 0, fgS, []⟩ := by
  unfold newFr
  have h : (fgP.ms.getD 1 default).locals = ⟨#[]⟩ := rfl
  rw [h, zeroL_nil]
  rfl
theorem StkOk.new {p : Prg} {ss : List Lk} {limit : Int} (hok : p.Ok) (hl : ss.length = p.ms.length) (hlk : ∀ j, j < p.ms.length → lookM p (p.ms.getD j default) = .ok (ss.getD j default)) (h : 0 ≤ limit ∧ limit ≤ 65536) : StkOk p ss limit 0 [] :=
  ⟨hl, hok, hlk, by simp, h, by omega, rfl⟩
theorem slots_new (w : World) (xs : List Slt) : SltV (w.alloc (.cells (slcells xs).toArray 44)) (.slice (some ⟨w.heap.size, 0, none⟩) xs.length xs.length) w.heap.size xs := by
  refine ⟨.inr ⟨_, rfl⟩, fun i hi => ?_⟩
  obtain ⟨h1, h2⟩ := slcells_get xs i hi
  rw [cell_of (heap_alloc_new w _), cell_of (heap_alloc_new w _)]
  simp only [List.getElem?_toArray]
  exact ⟨h1, h2⟩
theorem ints_new (w : World) (xs : List Int) : IntsV (w.alloc (.cells (xs.map (Value.int .i64)).toArray 3)) (.slice (some ⟨w.heap.size, 0, none⟩) xs.length xs.length) w.heap.size xs := by
  refine ⟨.inr ⟨_, rfl⟩, fun i hi => ?_⟩
  rw [cell_of (heap_alloc_new w _)]
  simp only [List.getElem?_toArray, List.getElem?_map]
  rw [List.getElem?_eq_getElem hi, List.getD_eq_getElem?_getD, List.getElem?_eq_getElem hi]
  rfl

theorem OwnI.stays {w w' : World} {B : Nat} {v : Value} {xs : List Int} (h : OwnI w B 3 v xs) (hk : ∀ (q : Nat) (cur : Array Value), w.heap[q]? = some (Obj.cells cur 3) → w'.heap[q]? = some (Obj.cells cur 3)) : OwnI w' B 3 v xs := by
  obtain ⟨h0, h1⟩ := h
  refine ⟨h0, ?_⟩
  rcases h1 with h1 | ⟨g, c, cur, h1, h2, h3, h4⟩
  · exact .inl h1
  · exact .inr ⟨g, c, cur, h1, h2, hk g cur h3, h4⟩
theorem fg_set {fs' : List Fr} (h : AlikeL [⟨1, 0, fgS, []⟩] fs') (hr : rootsL fs' = [12]) : fs' = [⟨1, 0, [⟨false, 5⟩, ⟨true, 12⟩], []⟩] := by
  have h2 : AlikeL [(⟨1, 0, fgS, []⟩ : Fr)] [⟨1, 0, [⟨false, 5⟩, ⟨true, 12⟩], []⟩] := updF_alike [⟨1, 0, fgS, []⟩] 0 0 1 12 (by decide) (by decide) rfl
  exact (h.symm.trans h2).uniq (by rw [hr]; rfl)

set_option maxRecDepth 100000 in
set_option maxHeartbeats 4000000 in
theorem first13_any (E : Nat → Addr) (w : World) (hS : SentP w E) :
    Calls Tryz.prog 4 #[] w fun e w' => e = .returned (.bool true) ∧ Upd [] w w' := by
  have hA1 := (Upd.refl [] w).alloc (.cells (xcells fg0.code).toArray 77)
  have hC1 := code_lit w fg0.code (by decide) (fun i hi => by
    have : i = 0 := by have h : fg0.code.length = 1 := rfl; omega
    subst this
    show Ins.bd ⟨33, 0, 0, 0⟩
    simp only [Ins.bd]
    omega)
  generalize hw1 : w.alloc (.cells (xcells fg0.code).toArray 77) = w1 at hA1 hC1
  have hA2 := hA1.alloc (.cells (xcells fg1.code).toArray 77)
  have hC2 := code_lit w1 fg1.code (by decide) (fun i hi => by
    have : i = 0 := by have h : fg1.code.length = 1 := rfl; omega
    subst this
    show Ins.bd ⟨33, 0, 0, 0⟩
    simp only [Ins.bd]
    omega)
  have hC1 := hC1.upd ((Upd.refl [] w1).alloc (.cells (xcells fg1.code).toArray 77))
  generalize hw2 : w1.alloc (.cells (xcells fg1.code).toArray 77) = w2 at hA2 hC1 hC2
  have hM := meths_lit w2 [fg0, fg1] [.slice (some ⟨w.heap.size, 0, none⟩) 1 1, .slice (some ⟨w1.heap.size, 0, none⟩) 1 1] rfl (by decide) (fun i hi => by
    have : i = 0 ∨ i = 1 := by simp at hi; omega
    rcases this with rfl | rfl <;> exact ⟨by decide, by decide, by decide⟩) (fun i hi => by
    have : i = 0 ∨ i = 1 := by simp at hi; omega
    rcases this with rfl | rfl
    · exact hC1
    · exact hC2)
  have hA3 := hA2.alloc (.cells (mcells [fg0, fg1] [.slice (some ⟨w.heap.size, 0, none⟩) 1 1, .slice (some ⟨w1.heap.size, 0, none⟩) 1 1]).toArray 51)
  generalize hw3 : w2.alloc (.cells (mcells [fg0, fg1] [.slice (some ⟨w.heap.size, 0, none⟩) 1 1, .slice (some ⟨w1.heap.size, 0, none⟩) 1 1]).toArray 51) = w3 at hA3 hM
  have hA4 := hA3.alloc (.cells #[.slice none 0 0, .slice (some ⟨w2.heap.size, 0, none⟩) 2 2] 25)
  have hB4 := heap_alloc_new w3 (.cells #[.slice none 0 0, .slice (some ⟨w2.heap.size, 0, none⟩) 2 2] 25)
  have hM := hM.upd ((Upd.refl [] w3).alloc (.cells #[.slice none 0 0, .slice (some ⟨w2.heap.size, 0, none⟩) 2 2] 25))
  generalize hw4 : w3.alloc (.cells #[.slice none 0 0, .slice (some ⟨w2.heap.size, 0, none⟩) 2 2] 25) = w4 at hA4 hB4 hM
  have z1 : w1.heap.size = w.heap.size + 1 := by rw [← hw1]; simp
  have z2 : w2.heap.size = w.heap.size + 1 + 1 := by rw [← hw2]; simp [z1]
  have z3 : w3.heap.size = w.heap.size + 1 + 1 + 1 := by rw [← hw3]; simp [z2]
  have hW4 : w4 = (((w.alloc (.cells #[.int .i64 33, .int .i64 0, .int .i64 0, .int .i64 0] 77)).alloc (.cells #[.int .i64 33, .int .i64 0, .int .i64 0, .int .i64 0] 77)).alloc (.cells #[.string ⟨#[]⟩, .string ⟨#[]⟩, .string ⟨#[]⟩, .slice (some ⟨w.heap.size, 0, none⟩) 1 1, .string ⟨#[73, 82]⟩, .string ⟨#[]⟩, .string ⟨#[]⟩, .slice (some ⟨w.heap.size + 1, 0, none⟩) 1 1] 51)).alloc (.cells #[.slice none 0 0, .slice (some ⟨w.heap.size + 1 + 1, 0, none⟩) 2 2] 25) := by
    rw [← hw4, z2, ← hw3, z1, ← hw2, ← hw1]
    rfl
  go_enter Tryz.func4, Tryz.ntmps4
  go_upto_region 2 with fail
  rw [← hW4]
  rw [z2] at hB4 hM
  rw [z3] at hB4
  have hS4 := hS.upd hA4
  have HU4 := Lib.hid hA4
  have p0 : w4.cell? ⟨w.heap.size + 1 + 1 + 1, 0, none⟩ = some (.slice none 0 0) := by rw [cell_of hB4]; rfl
  have p1 : w4.cell? ⟨w.heap.size + 1 + 1 + 1, 1, none⟩ = some (.slice (some ⟨w.heap.size + 1 + 1, 0, none⟩) 2 2) := by rw [cell_of hB4]; rfl
  have HO1 := Lib.hid (ofV_any fgP (.slice none 0 0) (.slice (some ⟨w.heap.size + 1 + 1, 0, none⟩) 2 2) E w4 hS4.some (class_nil _) hM)
  have HS4 := Lib.hid hS4
  clear hW4 hw1 hw2 hw3 hw4 z1 z2 z3 hA1 hA2 hA3 hA4 hC1 hC2 hB4 hM hS4 hS
  go_wp2_with fail
  refine HO1.out.mono ?_
  rintro e w5 ⟨v1, rfl, hend⟩
  obtain ⟨ib, ss, hl, hlk, rfl, hinfo, hib, hu5⟩ := hend.good fgP_ok (by
    intro j hj
    have : j = 0 ∨ j = 1 := by simp at hj; omega
    rcases this with rfl | rfl
    · obtain ⟨s, hs, _⟩ := fg0_look
      exact ⟨s, hs⟩
    · obtain ⟨s, hs, _⟩ := fg1_look
      exact ⟨s, hs⟩)
  have hfw : frW fgP ss 1 = 6 := by
    obtain ⟨s, hs, hmo⟩ := fg1_look
    have h2 : lookM fgP fg1 = .ok (ss.getD 1 default) := hlk 1 (by decide)
    rw [hs] at h2
    injection h2 with h2
    unfold frW
    rw [← h2, hmo]
    rfl
  have HFW := Lib.hid hfw
  have HIB0 : Hid (w.heap.size ≤ ib) := Nat.le_trans HU4.out.size hib
  have HOK := Lib.hid (StkOk.new (limit := 100) fgP_ok hl hlk (by omega))
  have HNW := Lib.hid (snew_any ib fgP ss 0 100 w5 hinfo fgP_ok (by omega) (by omega))
  have HU5 := Lib.hid (HU4.out.trans hu5)
  have HS5 := Lib.hid (HS4.out.upd hu5)
  clear hend hl hlk hinfo hib hu5 hfw HU4 HS4 HO1 p0 p1
  go_wp2_with fail
  refine HNW.out.mono ?_
  rintro e w6 ⟨W0, cv, mv, rfl, hu50, hst, hu6⟩
  have HU6 := Lib.hid (HU5.out.trans hu6)
  have HS6 := Lib.hid (HS5.out.upd hu6)
  have HU0 := Lib.hid (HU5.out.trans hu50)
  have HST := Lib.hid hst
  have HIB : Hid (w.heap.size ≤ ib ∧ w.heap.size ≤ W0.heap.size) := ⟨HIB0.out, HU0.out.size⟩
  clear hu50 hst hu6 HNW HU5 HS5 HIB0
  have hu7 := (Upd.refl [] w6).alloc (.cells #[.bool false, .int .i64 5, .bool true, .int .i64 9] 44)
  have hsl : SltV (w6.alloc (.cells #[.bool false, .int .i64 5, .bool true, .int .i64 9] 44)) (.slice (some ⟨w6.heap.size, 0, none⟩) 2 2) w6.heap.size fgS := slots_new w6 fgS
  have hibl : ib < w6.heap.size := by
    have h1 := HST.out.info.lt
    have h2 := HST.out.info.upd.size
    omega
  have HPS := Lib.hid (spush_any E W0 _ W0.heap.size ib fgP ss 0 0 cv mv 100 0 _ [] [] 1 _ _ fgS (HST.out.same hu7) HOK.out (HS6.out.upd hu7) (by decide) hsl (.inr (by omega)) rfl (fun i hi => by
    have hi : i < 2 := hi
    have : i = 0 ∨ i = 1 := by omega
    rcases this with rfl | rfl <;> rfl) (by omega) (by omega))
  have HU7 := Lib.hid (HU6.out.trans hu7)
  have HS7 := Lib.hid (HS6.out.upd hu7)
  clear hu7 hsl hibl HU6 HS6 HST
  go_wp2_with fail
  refine HPS.out.mono ?_
  rintro e w8 ⟨hpe, T, hT, hu8⟩
  rw [newFr_fg, HFW.out] at hpe
  obtain ⟨_, rfl, ⟨lv8, v8, hst8⟩, hok8⟩ := hpe.resolve_right (fun h => by
    have := h.1
    omega)
  have HU8 := Lib.hid (HU7.out.trans' hu8 (fun q hq hl => by
    have h1 := HIB.out
    rcases hT q hq with h | h <;> omega))
  have HST8 := Lib.hid hst8
  have HRT := Lib.hid (sroots_any W0 w8 W0.heap.size ib fgP ss 0 (0 + 1) cv mv 100 (0 + 6) lv8 _ _ hst8 (by decide) (fun i hi r hr => by
    have : i = 0 := by have hi : i < 1 := hi; omega
    subst this
    have : r = 0 ∨ r = 1 := by omega
    rcases this with rfl | rfl <;> decide) (by decide))
  clear hst8 hok8 hT hu8 HU7 HS7 HPS HOK HFW
  go_wp2_with fail
  refine HRT.out.mono ?_
  rintro e w9 ⟨u, rfl, hown, hu9⟩
  obtain ⟨up, uc, hu⟩ := hown.shape
  have hul : (rootsL ([] ++ [(⟨1, 0, fgS, []⟩ : Fr)])).length = 1 := rfl
  rw [hul] at hu
  subst hu
  have HO9 : Hid (OwnI w9 w8.heap.size 3 (.slice up 1 uc) [9]) := hown
  have HST9 := Lib.hid (HST8.out.same hu9)
  have HU9 := Lib.hid (HU8.out.trans hu9)
  clear hown hul hu9 HRT HST8 HU8
  have hu10 := (Upd.refl [] w9).alloc (.cells #[.int .i64 12] 3)
  have hb10 := heap_alloc_new w9 (.cells #[.int .i64 12] 3)
  have hi10 : IntsV (w9.alloc (.cells #[.int .i64 12] 3)) (.slice (some ⟨w9.heap.size, 0, none⟩) 1 1) w9.heap.size [12] := ints_new w9 [12]
  have HSR := Lib.hid (ssetroots_any W0 _ W0.heap.size ib fgP ss 0 (0 + 1) cv mv 100 (0 + 6) lv8 _ _ _ w9.heap.size [12] (HST9.out.same hu10) (by decide) (fun i hi r hr => by
    have : i = 0 := by have hi : i < 1 := hi; omega
    subst this
    have : r = 0 ∨ r = 1 := by omega
    rcases this with rfl | rfl <;> decide) hi10 (.inr ⟨_, hb10⟩) rfl (by decide) (fun x hx => by
    rw [List.mem_singleton] at hx
    omega))
  have HO10 := Lib.hid (HO9.out.upd hu10 (by simp))
  have HU10 := Lib.hid (HU9.out.trans hu10)
  clear hu10 hb10 hi10 HO9 HST9 HU9
  go_wp2_with fail
  refine HSR.out.mono ?_
  rintro e w11 ⟨rfl, ⟨fs', hst11, hal, hrt⟩, hki, T, hT, hu11⟩
  obtain rfl := fg_set hal hrt
  have HST11 := Lib.hid hst11
  have HU11 := Lib.hid (HU10.out.trans' hu11 (fun q hq hl => by
    have h1 := HIB.out
    have h2 := hT q hq
    omega))
  have HO11 := Lib.hid (HO10.out.stays hki)
  have HLC := Lib.hid (slocal_any (W0 := W0) (w := w11) (sb := W0.heap.size) (ib := ib) (p := fgP) (ss := ss) (n0 := 0) (n := 0 + 1) (cv := cv) (mv := mv) (limit := 100) (words := 0 + 6) (lv := lv8) [] [] ⟨1, 0, [⟨false, 5⟩, ⟨true, 12⟩], []⟩ v8 1 hst11)
  have hlc : locV ⟨1, 0, [⟨false, 5⟩, ⟨true, 12⟩], []⟩ 1 = .tuple #[.agg #[.bool true, .int .i64 12], .bool true] := rfl
  rw [hlc] at HLC
  clear hst11 hal hrt hki hT hu11 hlc HSR HO10 HU10
  go_wp2_with fail
  refine HLC.out.mono ?_
  rintro e w12 ⟨rfl, hu12⟩
  have hu13 := ((Upd.refl [] w12).alloc (.cells #[.bool true, .int .i64 12] 44)).alloc (.cells #[.int .i64 9] 3)
  have hx13 := ((Upd.refl [] (w12.alloc (.cells #[.bool true, .int .i64 12] 44))).alloc (.cells #[.int .i64 9] 3)).heap (heap_alloc_new w12 (.cells #[.bool true, .int .i64 12] 44)) (by simp)
  have hi13 := ints_new (w12.alloc (.cells #[.bool true, .int .i64 12] 44)) [9]
  rw [show (w12.alloc (.cells #[.bool true, .int .i64 12] 44)).heap.size = w12.heap.size + 1 by simp] at hi13
  have HST13 := Lib.hid (HST11.out.same (hu12.trans hu13))
  have HU13 := Lib.hid (HU11.out.trans (hu12.trans hu13))
  have ho13 := HO11.out.upd (hu12.trans hu13) (by simp)
  obtain ⟨ob, ho13, _⟩ := ho13.ints
  have HSI := Lib.hid (sints _ _ ob _ [9] [9] _ ho13 hi13 (by decide))
  rw [decide_eq_true (rfl : ([9] : List Int) = [9])] at HSI
  have HX13 := Lib.hid hx13
  clear hu12 hu13 hx13 hi13 ho13 HST11 HU11 HO11 HLC
  go_wp2_with fail
  refine HSI.out.mono ?_
  rintro e w14 ⟨rfl, hu14⟩
  have hx14 := hu14.heap HX13.out (by simp)
  have x0 : w14.cell? ⟨w12.heap.size, 0, none⟩ = some (.bool true) := by rw [cell_of hx14]; rfl
  have x1 : w14.cell? ⟨w12.heap.size, 1, none⟩ = some (.int .i64 12) := by rw [cell_of hx14]; rfl
  have HWD := Lib.hid (swords_any W0 w14 W0.heap.size ib fgP ss 0 (0 + 1) cv mv 100 (0 + 6) lv8 _ _ (HST13.out.same hu14))
  have HU14 := Lib.hid (HU13.out.trans hu14)
  clear hx14 hu14 HSI HST13 HU13 HX13
  go_wp2_with fail
  refine HWD.out.mono ?_
  rintro e w15 ⟨rfl, rfl⟩
  go_wp2_with fail
  go_ret
  exact ⟨rfl, HU14.out⟩
end Go.Proofs.YtopojeanbpokaaaGreatDoor
