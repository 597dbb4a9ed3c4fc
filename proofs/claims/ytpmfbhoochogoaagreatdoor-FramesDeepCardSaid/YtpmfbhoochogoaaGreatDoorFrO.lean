/- overdrivelaw13.first. FramesDeep: the program, its frames. FramesDeep: the law. FramesDeep: the walk. -/
import Derived.Test.YtpmfbhoochogoaaGreatDoorFrI
import Derived.Test.YtpmfbhoochogoaaGreatDoorFirstL
import Derived.Test.YtpmfbhoochogoaaGreatDoorSameI
import Derived.Test.YtpmfbhoochogoaaGreatDoorSeeIs
/-! overdrivelaw13.first. -/
/-! overdrivelaw13.first. -/
namespace Go.Proofs.YtpmfbhoochogoaaGreatDoor
open Go.RowKit

def fg0 : Meth := ⟨⟨#[]⟩, ⟨#[]⟩, ⟨#[]⟩, [⟨33, 0, 0, 0⟩]⟩
def fg1 : Meth := ⟨⟨#[73, 82]⟩, ⟨#[]⟩, ⟨#[]⟩, [⟨33, 0, 0, 0⟩]⟩
abbrev fgP : Prg := ⟨[], [fg0, fg1]⟩
theorem fgP_ok : fgP.Ok := okB_ok (by decide +kernel)
theorem look_most {p : Prg} {m : Meth} {k : Nat} {b : Bool} {l : List UInt8} (h : lookG (lookM p m) 0 = some (b, l, k)) : ∃ s, lookM p m = .ok s ∧ s.most = k := by
  cases hr : lookM p m with
  | error e => rw [hr] at h; cases h
  | ok s =>
    rw [hr] at h
    injection h with h
    injection h with h1 h
    injection h with h2 h3
    exact ⟨s, rfl, h3⟩
theorem fg0_look : ∃ s, lookM fgP fg0 = .ok s ∧ s.most = 0 := look_most (b := true) (l := []) (by decide +kernel)
theorem fg1_look : ∃ s, lookM fgP fg1 = .ok s ∧ s.most = 0 := look_most (b := true) (l := []) (by decide +kernel)
theorem zeroL_nil : zeroL ⟨#[]⟩ = [] := by
  have h : (⟨#[]⟩ : ByteArray) = bs [] := rfl
  rw [h]
  unfold zeroL
  rw [bs_list]
  rfl
abbrev fgS : List Slt := [⟨false, 5⟩, ⟨true, 9⟩]
theorem newFr_fg : newFr fgP 1 fgS = ⟨1, 0, fgS, []⟩ := by
  unfold newFr
  have h : (fgP.ms.getD 1 default).locals = ⟨#[]⟩ := rfl
  rw [h, zeroL_nil]
  rfl
theorem StkOk.new {p : Prg} {ss : List Lk} {limit : Int} (hok : p.Ok) (hl : ss.length = p.ms.length) (hlk : ∀ j, j < p.ms.length → lookM p (p.ms.getD j default) = .ok (ss.getD j default)) (h : 0 ≤ limit ∧ limit ≤ 65536) : StkOk p ss limit 0 [] :=
  ⟨hl, hok, hlk, by simp, h, by omega, rfl⟩
theorem slots_new (w : World) (xs : List Slt) : SltV (w.alloc (.cells (slcells xs).toArray 54)) (.slice (some ⟨w.heap.size, 0, none⟩) xs.length xs.length) w.heap.size xs := by
  refine ⟨.inr ⟨_, rfl⟩, fun i hi => ?_⟩
  obtain ⟨h1, h2⟩ := slcells_get xs i hi
  rw [cell_of (heap_alloc_new w _), cell_of (heap_alloc_new w _)]
  simp only [List.getElem?_toArray]
  exact ⟨h1, h2⟩
theorem ints_new (w : World) (xs : List Int) : IntsV (w.alloc (.cells (xs.map (Value.int .i64)).toArray 3)) (.slice (some ⟨w.heap.size, 0, none⟩) xs.length xs.length) w.heap.size xs := by
  refine ⟨.inr ⟨_, rfl⟩, fun i hi => ?_⟩
  rw [cell_of (heap_alloc_new w _)]
  simp only [List.getElem?_toArray, List.getElem?_map]
  rw [List.getElem?_eq_getElem hi, List.getD_eq_getElem?_getD, List.getElem?_eq_getElem hi]
  rfl

theorem OwnI.stays {w w' : World} {B : Nat} {v : Value} {xs : List Int} (h : OwnI w B 3 v xs) (hk : ∀ (q : Nat) (cur : Array Value), w.heap[q]? = some (Obj.cells cur 3) → w'.heap[q]? = some (Obj.cells cur 3)) : OwnI w' B 3 v xs := by
  obtain ⟨h0, h1⟩ := h
  refine ⟨h0, ?_⟩
  rcases h1 with h1 | ⟨g, c, cur, h1, h2, h3, h4⟩
  · exact .inl h1
  · exact .inr ⟨g, c, cur, h1, h2, hk g cur h3, h4⟩
theorem fg_set {fs' : List Fr} (h : AlikeL [⟨1, 0, fgS, []⟩] fs') (hr : rootsL fs' = [12]) : fs' = [⟨1, 0, [⟨false, 5⟩, ⟨true, 12⟩], []⟩] := by
  have h2 : AlikeL [(⟨1, 0, fgS, []⟩ : Fr)] [⟨1, 0, [⟨false, 5⟩, ⟨true, 12⟩], []⟩] := updF_alike [⟨1, 0, fgS, []⟩] 0 0 1 12 (by decide) (by decide) rfl
  exact (h.symm.trans h2).uniq (by rw [hr]; rfl)

set_option maxRecDepth 100000 in
set_option maxHeartbeats 4000000 in
theorem first13_any (E : Nat → Addr) (w : World) (hS : SentAll w E) :
    Calls Tryz.prog 9 #[] w fun e w' => e = .returned (.bool true) ∧ Upd [] w w' := by
  have hA1 := (Upd.refl [] w).alloc (.cells (xcells fg0.code).toArray 24)
  have hC1 := code_lit w fg0.code (by decide) (fun i hi => by
    have : i = 0 := by have h : fg0.code.length = 1 := rfl; omega
    subst this
    show Ins.bd ⟨33, 0, 0, 0⟩
    simp only [Ins.bd]
    omega)
  generalize hw1 : w.alloc (.cells (xcells fg0.code).toArray 24) = w1 at hA1 hC1
  have hA2 := hA1.alloc (.cells (xcells fg1.code).toArray 24)
  have hC2 := code_lit w1 fg1.code (by decide) (fun i hi => by
    have : i = 0 := by have h : fg1.code.length = 1 := rfl; omega
    subst this
    show Ins.bd ⟨33, 0, 0, 0⟩
    simp only [Ins.bd]
    omega)
  have hC1 := hC1.upd ((Upd.refl [] w1).alloc (.cells (xcells fg1.code).toArray 24))
  generalize hw2 : w1.alloc (.cells (xcells fg1.code).toArray 24) = w2 at hA2 hC1 hC2
  have hM := meths_lit w2 [fg0, fg1] [.slice (some ⟨w.heap.size, 0, none⟩) 1 1, .slice (some ⟨w1.heap.size, 0, none⟩) 1 1] rfl (by decide) (fun i hi => by
    have : i = 0 ∨ i = 1 := by simp at hi; omega
    rcases this with rfl | rfl <;> exact ⟨by decide, by decide, by decide⟩) (fun i hi => by
    have : i = 0 ∨ i = 1 := by simp at hi; omega
    rcases this with rfl | rfl
    · exact hC1
    · exact hC2)
  have hA3 := hA2.alloc (.cells (mcells [fg0, fg1] [.slice (some ⟨w.heap.size, 0, none⟩) 1 1, .slice (some ⟨w1.heap.size, 0, none⟩) 1 1]).toArray 27)
  generalize hw3 : w2.alloc (.cells (mcells [fg0, fg1] [.slice (some ⟨w.heap.size, 0, none⟩) 1 1, .slice (some ⟨w1.heap.size, 0, none⟩) 1 1]).toArray 27) = w3 at hA3 hM
  have hA4 := hA3.alloc (.cells #[.slice none 0 0, .slice (some ⟨w2.heap.size, 0, none⟩) 2 2] 36)
  have hB4 := heap_alloc_new w3 (.cells #[.slice none 0 0, .slice (some ⟨w2.heap.size, 0, none⟩) 2 2] 36)
  have hM := hM.upd ((Upd.refl [] w3).alloc (.cells #[.slice none 0 0, .slice (some ⟨w2.heap.size, 0, none⟩) 2 2] 36))
  generalize hw4 : w3.alloc (.cells #[.slice none 0 0, .slice (some ⟨w2.heap.size, 0, none⟩) 2 2] 36) = w4 at hA4 hB4 hM
  have z1 : w1.heap.size = w.heap.size + 1 := by rw [← hw1]; simp
  have z2 : w2.heap.size = w.heap.size + 1 + 1 := by rw [← hw2]; simp [z1]
  have z3 : w3.heap.size = w.heap.size + 1 + 1 + 1 := by rw [← hw3]; simp [z2]
  have hW4 : w4 = (((w.alloc (.cells #[.int .i64 33, .int .i64 0, .int .i64 0, .int .i64 0] 24)).alloc (.cells #[.int .i64 33, .int .i64 0, .int .i64 0, .int .i64 0] 24)).alloc (.cells #[.string ⟨#[]⟩, .string ⟨#[]⟩, .string ⟨#[]⟩, .slice (some ⟨w.heap.size, 0, none⟩) 1 1, .string ⟨#[73, 82]⟩, .string ⟨#[]⟩, .string ⟨#[]⟩, .slice (some ⟨w.heap.size + 1, 0, none⟩) 1 1] 27)).alloc (.cells #[.slice none 0 0, .slice (some ⟨w.heap.size + 1 + 1, 0, none⟩) 2 2] 36) := by
    rw [← hw4, z2, ← hw3, z1, ← hw2, ← hw1]
    rfl
  go_enter Tryz.func9, Tryz.ntmps9
  go_upto_region 2 with fail
  rw [← hW4]
  rw [z2] at hB4 hM
  rw [z3] at hB4
  have hS4 := hS.upd hA4
  have HU4 := Lib.hid hA4
  have p0 : w4.cell? ⟨w.heap.size + 1 + 1 + 1, 0, none⟩ = some (.slice none 0 0) := by rw [cell_of hB4]; rfl
  have p1 : w4.cell? ⟨w.heap.size + 1 + 1 + 1, 1, none⟩ = some (.slice (some ⟨w.heap.size + 1 + 1, 0, none⟩) 2 2) := by rw [cell_of hB4]; rfl
  have HO1 := Lib.hid (ofV_any fgP (.slice none 0 0) (.slice (some ⟨w.heap.size + 1 + 1, 0, none⟩) 2 2) E w4 hS4.some (class_nil _) hM)
  have HS4 := Lib.hid hS4
  clear hW4 hw1 hw2 hw3 hw4 z1 z2 z3 hA1 hA2 hA3 hA4 hC1 hC2 hB4 hM hS4 hS
  go_wp2_with fail
  refine HO1.out.mono ?_
  rintro e w5 ⟨v1, rfl, hend⟩
  obtain ⟨ib, ss, hl, hlk, rfl, hinfo, hib, hu5⟩ := hend.good fgP_ok (by
    intro j hj
    have : j = 0 ∨ j = 1 := by simp at hj; omega
    rcases this with rfl | rfl
    · obtain ⟨s, hs, _⟩ := fg0_look
      exact ⟨s, hs⟩
    · obtain ⟨s, hs, _⟩ := fg1_look
      exact ⟨s, hs⟩)
  have hfw : frW fgP ss 1 = 6 := by
    obtain ⟨s, hs, hmo⟩ := fg1_look
    have h2 : lookM fgP fg1 = .ok (ss.getD 1 default) := hlk 1 (by decide)
    rw [hs] at h2
    injection h2 with h2
    unfold frW
    rw [← h2, hmo]
    rfl
  have HFW := Lib.hid hfw
  have HIB0 : Hid (w.heap.size ≤ ib) := Nat.le_trans HU4.out.size hib
  have HOK := Lib.hid (StkOk.new (limit := 100) fgP_ok hl hlk (by omega))
  have HNW := Lib.hid (snew_any ib fgP ss 0 100 w5 hinfo fgP_ok (by omega) (by omega))
  have HU5 := Lib.hid (HU4.out.trans hu5)
  have HS5 := Lib.hid (HS4.out.upd hu5)
  clear hend hl hlk hinfo hib hu5 hfw HU4 HS4 HO1 p0 p1
  go_wp2_with fail
  refine HNW.out.mono ?_
  rintro e w6 ⟨W0, cv, mv, rfl, hu50, hst, hu6⟩
  have HU6 := Lib.hid (HU5.out.trans hu6)
  have HS6 := Lib.hid (HS5.out.upd hu6)
  have HU0 := Lib.hid (HU5.out.trans hu50)
  have HST := Lib.hid hst
  have HIB : Hid (w.heap.size ≤ ib ∧ w.heap.size ≤ W0.heap.size) := ⟨HIB0.out, HU0.out.size⟩
  clear hu50 hst hu6 HNW HU5 HS5 HIB0
  have hu7 := (Upd.refl [] w6).alloc (.cells #[.bool false, .int .i64 5, .bool true, .int .i64 9] 54)
  have hsl : SltV (w6.alloc (.cells #[.bool false, .int .i64 5, .bool true, .int .i64 9] 54)) (.slice (some ⟨w6.heap.size, 0, none⟩) 2 2) w6.heap.size fgS := slots_new w6 fgS
  have hibl : ib < w6.heap.size := by
    have h1 := HST.out.info.lt
    have h2 := HST.out.info.upd.size
    omega
  have HPS := Lib.hid (spush_any E W0 _ W0.heap.size ib fgP ss 0 0 cv mv 100 0 _ [] [] 1 _ _ fgS (HST.out.same hu7) HOK.out (HS6.out.upd hu7) (by decide) hsl (.inr (by omega)) rfl (fun i hi => by
    have hi : i < 2 := hi
    have : i = 0 ∨ i = 1 := by omega
    rcases this with rfl | rfl <;> rfl) (by omega) (by omega))
  have HU7 := Lib.hid (HU6.out.trans hu7)
  have HS7 := Lib.hid (HS6.out.upd hu7)
  clear hu7 hsl hibl HU6 HS6 HST
  go_wp2_with fail
  refine HPS.out.mono ?_
  rintro e w8 ⟨hpe, T, hT, hu8⟩
  rw [newFr_fg, HFW.out] at hpe
  obtain ⟨_, rfl, ⟨lv8, v8, hst8⟩, hok8⟩ := hpe.resolve_right (fun h => by
    have := h.1
    omega)
  have HU8 := Lib.hid (HU7.out.trans' hu8 (fun q hq hl => by
    have h1 := HIB.out
    rcases hT q hq with h | h <;> omega))
  have HST8 := Lib.hid hst8
  have HRT := Lib.hid (sroots_any W0 w8 W0.heap.size ib fgP ss 0 (0 + 1) cv mv 100 (0 + 6) lv8 _ _ hst8 (by decide) (fun i hi r hr => by
    have : i = 0 := by have hi : i < 1 := hi; omega
    subst this
    have : r = 0 ∨ r = 1 := by omega
    rcases this with rfl | rfl <;> decide) (by decide))
  clear hst8 hok8 hT hu8 HU7 HS7 HPS HOK HFW
  go_wp2_with fail
  refine HRT.out.mono ?_
  rintro e w9 ⟨u, rfl, hown, hu9⟩
  obtain ⟨up, uc, hu⟩ := hown.shape
  have hul : (rootsL ([] ++ [(⟨1, 0, fgS, []⟩ : Fr)])).length = 1 := rfl
  rw [hul] at hu
  subst hu
  have HO9 : Hid (OwnI w9 w8.heap.size 3 (.slice up 1 uc) [9]) := hown
  have HST9 := Lib.hid (HST8.out.same hu9)
  have HU9 := Lib.hid (HU8.out.trans hu9)
  clear hown hul hu9 HRT HST8 HU8
  have hu10 := (Upd.refl [] w9).alloc (.cells #[.int .i64 12] 3)
  have hb10 := heap_alloc_new w9 (.cells #[.int .i64 12] 3)
  have hi10 : IntsV (w9.alloc (.cells #[.int .i64 12] 3)) (.slice (some ⟨w9.heap.size, 0, none⟩) 1 1) w9.heap.size [12] := ints_new w9 [12]
  have HSR := Lib.hid (ssetroots_any W0 _ W0.heap.size ib fgP ss 0 (0 + 1) cv mv 100 (0 + 6) lv8 _ _ _ w9.heap.size [12] (HST9.out.same hu10) (by decide) (fun i hi r hr => by
    have : i = 0 := by have hi : i < 1 := hi; omega
    subst this
    have : r = 0 ∨ r = 1 := by omega
    rcases this with rfl | rfl <;> decide) hi10 (.inr ⟨_, hb10⟩) rfl (by decide) (fun x hx => by
    rw [List.mem_singleton] at hx
    omega))
  have HO10 := Lib.hid (HO9.out.upd hu10 (by simp))
  have HU10 := Lib.hid (HU9.out.trans hu10)
  clear hu10 hb10 hi10 HO9 HST9 HU9
  go_wp2_with fail
  refine HSR.out.mono ?_
  rintro e w11 ⟨rfl, ⟨fs', hst11, hal, hrt⟩, hki, T, hT, hu11⟩
  obtain rfl := fg_set hal hrt
  have HST11 := Lib.hid hst11
  have HU11 := Lib.hid (HU10.out.trans' hu11 (fun q hq hl => by
    have h1 := HIB.out
    have h2 := hT q hq
    omega))
  have HO11 := Lib.hid (HO10.out.stays hki)
  have HLC := Lib.hid (slocal_any (W0 := W0) (w := w11) (sb := W0.heap.size) (ib := ib) (p := fgP) (ss := ss) (n0 := 0) (n := 0 + 1) (cv := cv) (mv := mv) (limit := 100) (words := 0 + 6) (lv := lv8) [] [] ⟨1, 0, [⟨false, 5⟩, ⟨true, 12⟩], []⟩ v8 1 hst11)
  have hlc : locV ⟨1, 0, [⟨false, 5⟩, ⟨true, 12⟩], []⟩ 1 = .tuple #[.agg #[.bool true, .int .i64 12], .bool true] := rfl
  rw [hlc] at HLC
  clear hst11 hal hrt hki hT hu11 hlc HSR HO10 HU10
  go_wp2_with fail
  refine HLC.out.mono ?_
  rintro e w12 ⟨rfl, hu12⟩
  have hu13 := ((Upd.refl [] w12).alloc (.cells #[.bool true, .int .i64 12] 54)).alloc (.cells #[.int .i64 9] 3)
  have hx13 := ((Upd.refl [] (w12.alloc (.cells #[.bool true, .int .i64 12] 54))).alloc (.cells #[.int .i64 9] 3)).heap (heap_alloc_new w12 (.cells #[.bool true, .int .i64 12] 54)) (by simp)
  have hi13 := ints_new (w12.alloc (.cells #[.bool true, .int .i64 12] 54)) [9]
  rw [show (w12.alloc (.cells #[.bool true, .int .i64 12] 54)).heap.size = w12.heap.size + 1 by simp] at hi13
  have HST13 := Lib.hid (HST11.out.same (hu12.trans hu13))
  have HU13 := Lib.hid (HU11.out.trans (hu12.trans hu13))
  have ho13 := HO11.out.upd (hu12.trans hu13) (by simp)
  obtain ⟨ob, ho13, _⟩ := ho13.ints
  have HSI := Lib.hid (sints _ _ ob _ [9] [9] _ ho13 hi13 (by decide))
  rw [decide_eq_true (rfl : ([9] : List Int) = [9])] at HSI
  have HX13 := Lib.hid hx13
  clear hu12 hu13 hx13 hi13 ho13 HST11 HU11 HO11 HLC
  go_wp2_with fail
  refine HSI.out.mono ?_
  rintro e w14 ⟨rfl, hu14⟩
  have hx14 := hu14.heap HX13.out (by simp)
  have x0 : w14.cell? ⟨w12.heap.size, 0, none⟩ = some (.bool true) := by rw [cell_of hx14]; rfl
  have x1 : w14.cell? ⟨w12.heap.size, 1, none⟩ = some (.int .i64 12) := by rw [cell_of hx14]; rfl
  have HWD := Lib.hid (swords_any W0 w14 W0.heap.size ib fgP ss 0 (0 + 1) cv mv 100 (0 + 6) lv8 _ _ (HST13.out.same hu14))
  have HU14 := Lib.hid (HU13.out.trans hu14)
  clear hx14 hu14 HSI HST13 HU13 HX13
  go_wp2_with fail
  refine HWD.out.mono ?_
  rintro e w15 ⟨rfl, rfl⟩
  go_wp2_with fail
  go_ret
  exact ⟨rfl, HU14.out⟩
end Go.Proofs.YtpmfbhoochogoaaGreatDoor

/-! FramesDeep: the program, its frames. -/
/-! FramesDeep: the program, its frames. -/
namespace Go.Proofs.YtpmfbhoochogoaaGreatDoor
open Go.RowKit

def dLoc (L : Nat) : ByteArray := bs (List.replicate L 82)
def dm0 : Meth := ⟨⟨#[]⟩, ⟨#[]⟩, ⟨#[]⟩, [⟨33, 0, 0, 0⟩]⟩
def dm1 (L : Nat) : Meth := ⟨⟨#[]⟩, dLoc L, ⟨#[]⟩, [⟨33, 0, 0, 0⟩]⟩
def deepP (L : Nat) : Prg := ⟨[], [dm0, dm1 L]⟩
theorem deep_okB : ∀ L, L < 8 → okB (deepP L) = true := by decide +kernel
theorem deep_ok (L : Nat) (h : L < 8) : (deepP L).Ok := okB_ok (deep_okB L h)
theorem deep_look0 : ∀ L, L < 8 → lookG (lookM (deepP L) dm0) 0 = some (true, [], 0) := by decide +kernel
theorem deep_look1 : ∀ L, L < 8 → lookG (lookM (deepP L) (dm1 L)) 0 = some (true, [], 0) := by decide +kernel
def dF (L : Nat) : Fr := ⟨1, 0, List.replicate L ⟨true, 0⟩, []⟩
theorem zeroL_deep (L : Nat) : zeroL (dLoc L) = List.replicate L ⟨true, 0⟩ := by
  unfold zeroL dLoc
  rw [bs_list, List.map_replicate]
  rfl
theorem newFr_deep (L : Nat) : newFr (deepP L) 1 [] = dF L := by
  unfold newFr dF
  have h : ((deepP L).ms.getD 1 default).locals = dLoc L := rfl
  rw [h, zeroL_deep, List.nil_append]
theorem dF_refs (L : Nat) : refN (dF L).loc + refN (dF L).stk = L := by
  have h : refN (List.replicate L ⟨true, 0⟩) = L := by
    unfold refN
    rw [List.filter_replicate]
    simp
  show refN (List.replicate L ⟨true, 0⟩) + refN [] = L
  rw [h]
  rfl
theorem deep_roots (L : Nat) : ∀ i, (rootsL (List.replicate i (dF L))).length = i * L := fun i => by
  rw [rootsL_len, List.map_replicate, dF_refs]
  induction i with
  | zero => simp
  | succ i ih => rw [List.replicate_succ, List.sum_cons, ih, Nat.succ_mul]; omega
theorem deep_words (L : Nat) (ss : List Lk) (hL : L < 8) (h : lookM (deepP L) (dm1 L) = .ok (ss.getD 1 default)) : frW (deepP L) ss 1 = ((4 + L : Nat) : Int) := by
  obtain ⟨s, hs, hmo⟩ := look_most (deep_look1 L hL)
  rw [hs] at h
  injection h with h
  unfold frW
  rw [← h, hmo]
  have h1 : ((deepP L).ms.getD 1 default).params.size = 0 := rfl
  have h2 : ((deepP L).ms.getD 1 default).locals.size = L := by
    show (dLoc L).size = L
    unfold dLoc
    rw [bs_size, List.length_replicate]
  rw [h1, h2]
  omega
theorem deep_row (L i : Nat) : ∀ j, j < (List.replicate i (dF L)).length → ∀ r, r < 2 → (rowF ((List.replicate i (dF L)).getD j default) r).length ≤ L := fun j hj r hr => by
  rw [List.length_replicate] at hj
  have h : (List.replicate i (dF L)).getD j default = dF L := by
    rw [List.getD_eq_getElem?_getD, List.getElem?_replicate, if_pos hj]
    rfl
  rw [h]
  have : r = 0 ∨ r = 1 := by omega
  rcases this with rfl | rfl
  · show (List.replicate L (⟨true, 0⟩ : Slt)).length ≤ L
    rw [List.length_replicate]
    exact Nat.le_refl _
  · exact Nat.zero_le _
end Go.Proofs.YtpmfbhoochogoaaGreatDoor

/-! FramesDeep: the law. -/
/-! FramesDeep: the law. -/
namespace Go.Proofs.YtpmfbhoochogoaaGreatDoor
open Go.RowKit

theorem dLoc_succ (i : Nat) : dLoc i ++ ⟨#[82]⟩ = dLoc (i + 1) := by
  have h : (⟨#[82]⟩ : ByteArray) = bs [82] := rfl
  unfold dLoc
  rw [h, List.replicate_succ', bs_append]
theorem dLoc_size (i : Nat) : (dLoc i).size = i := by
  unfold dLoc
  rw [bs_size, List.length_replicate]
/-- How many frames a stack has, by its box. -/
def lenW (sb : Nat) (w : World) : Nat := match w.cell? ⟨sb, 5, none⟩ with
  | some (.slice _ n _) => n
  | _ => 0
theorem StkAt.lenW {W0 w : World} {sb ib : Nat} {p : Prg} {ss : List Lk} {n0 n : Int} {cv mv : Value} {limit words : Int} {lv : Value} {fs : List Fr} {vs : List FrV} (h : StkAt W0 w sb ib p ss n0 n cv mv limit words lv fs vs) : Go.Proofs.YtpmfbhoochogoaaGreatDoor.lenW sb w = fs.length := by
  obtain ⟨p1, c1, rfl⟩ := h.frs.shape
  have m5 : w.cell? ⟨sb, 5, none⟩ = some (.slice p1 fs.length c1) := by rw [cell_of h.box]; rfl
  unfold Go.Proofs.YtpmfbhoochogoaaGreatDoor.lenW
  rw [m5]
/-- A stack of so many frames, in the law's hands. -/
structure DeepAt (w W0 W : World) (ib : Nat) (L : Nat) (ss : List Lk) (cv mv : Value) (lim : Nat) (i : Nat) (nn : Int) : Prop where
  stk : ∃ lv vs, StkAt W0 W W0.heap.size ib (deepP L) ss 0 nn cv mv (lim : Int) ((i * (4 + L) : Nat) : Int) lv (List.replicate i (dF L)) vs
  ok : StkOk (deepP L) ss (lim : Int) ((i * (4 + L) : Nat) : Int) (List.replicate i (dF L))
  upd : Upd [] w W
theorem DeepAt.same {w W0 W W' : World} {ib L : Nat} {ss : List Lk} {cv mv : Value} {lim i : Nat} {nn : Int} (h : DeepAt w W0 W ib L ss cv mv lim i nn) (hu : Upd [] W W') : DeepAt w W0 W' ib L ss cv mv lim i nn := by
  obtain ⟨⟨lv, vs, h1⟩, h2, h3⟩ := h
  exact ⟨⟨lv, vs, h1.same hu⟩, h2, h3.trans hu⟩
theorem dpush {w W0 W : World} {ib L : Nat} {ss : List Lk} {cv mv : Value} {lim i : Nat} {nn : Int} {E : Nat → Addr} (h : DeepAt w W0 W ib L ss cv mv lim i nn) (hS : SentAll w E) (hL : L < 8) (hlk : lookM (deepP L) (dm1 L) = .ok (ss.getD 1 default)) (hib : w.heap.size ≤ ib ∧ w.heap.size ≤ W0.heap.size) (h0 : 0 ≤ nn) (h1 : nn ≤ 900000000) :
    Calls Tryz.prog 12 #[.pointer (some ⟨W0.heap.size, 0, none⟩), .int .i64 1, .slice none 0 0] W fun e W' =>
      ((i + 1) * (4 + L) ≤ lim ∧ e = .returned .nilIface ∧ DeepAt w W0 W' ib L ss cv mv lim (i + 1) (nn + 1)) ∨ (lim < (i + 1) * (4 + L) ∧ e = .returned (sErr E 13) ∧ DeepAt w W0 W' ib L ss cv mv lim i (nn + 1)) := by
  obtain ⟨⟨lv, vs, hst⟩, hok, hu⟩ := h
  have hfw := deep_words L ss hL hlk
  have hsucc : (i + 1) * (4 + L) = i * (4 + L) + (4 + L) := Nat.succ_mul _ _
  refine (spush_any E W0 W W0.heap.size ib (deepP L) ss 0 nn cv mv (lim : Int) ((i * (4 + L) : Nat) : Int) lv _ vs 1 (.slice none 0 0) 0 [] hst hok (hS.upd hu) (show 1 < 2 by decide) (SltV.nil _ _) (.inl rfl) rfl (fun j hj => absurd hj (Nat.not_lt_zero j)) h0 h1).mono ?_
  rintro e W' ⟨hpe, T, hT, hu2⟩
  have hu3 : Upd [] w W' := hu.trans' hu2 (fun q hq hl => by rcases hT q hq with h | h <;> omega)
  rw [newFr_deep, hfw] at hpe
  rcases hpe with ⟨h2, rfl, ⟨lv', v', h3⟩, h4⟩ | ⟨h2, rfl, h3⟩
  · refine .inl ⟨by omega, rfl, ⟨lv', vs ++ [v'], ?_⟩, ?_, hu3⟩
    · rw [List.replicate_succ', show (((i + 1) * (4 + L) : Nat) : Int) = ((i * (4 + L) : Nat) : Int) + ((4 + L : Nat) : Int) by omega]
      exact h3
    · rw [List.replicate_succ', show (((i + 1) * (4 + L) : Nat) : Int) = ((i * (4 + L) : Nat) : Int) + ((4 + L : Nat) : Int) by omega]
      exact h4
  · exact .inr ⟨by omega, rfl, ⟨lv, vs, h3⟩, hok, hu3⟩
theorem dpop {w W0 W : World} {ib L : Nat} {ss : List Lk} {cv mv : Value} {lim i : Nat} {nn : Int} (h : DeepAt w W0 W ib L ss cv mv lim (i + 1) nn) (hL : L < 8) (hlk : lookM (deepP L) (dm1 L) = .ok (ss.getD 1 default)) (hib : w.heap.size ≤ ib ∧ w.heap.size ≤ W0.heap.size) (h0 : 0 ≤ nn) (h1 : nn ≤ 900000000) :
    Calls Tryz.prog 17 #[.pointer (some ⟨W0.heap.size, 0, none⟩)] W fun e W' => e = .returned (.bool true) ∧ DeepAt w W0 W' ib L ss cv mv lim i (nn + 1) := by
  obtain ⟨⟨lv, vs, hst⟩, hok, hu⟩ := h
  have hfw := deep_words L ss hL hlk
  have hsucc : (i + 1) * (4 + L) = i * (4 + L) + (4 + L) := Nat.succ_mul _ _
  have hl := hst.frs.len
  rw [List.length_replicate] at hl
  obtain ⟨vs', v, rfl⟩ : ∃ vs' v, vs = vs' ++ [v] := by
    rcases List.eq_nil_or_concat vs with rfl | ⟨a, b, rfl⟩
    · simp at hl
    · exact ⟨a, b, by simp⟩
  rw [List.replicate_succ'] at hst hok
  refine (spop_any W0 W W0.heap.size ib (deepP L) ss 0 nn cv mv (lim : Int) (((i + 1) * (4 + L) : Nat) : Int) lv _ vs' (dF L) v hst hok h0 h1).mono ?_
  rintro e W' ⟨rfl, ⟨lv', h3⟩, h4, hu2⟩
  have hm : (dF L).m = 1 := rfl
  rw [hm, hfw, show (((i + 1) * (4 + L) : Nat) : Int) - ((4 + L : Nat) : Int) = ((i * (4 + L) : Nat) : Int) by omega] at h3 h4
  exact ⟨rfl, ⟨lv', vs', h3⟩, h4, hu.trans' hu2 (fun q hq hl => by simp at hq; rcases hq with rfl | rfl <;> omega)⟩
theorem droots {w W0 W : World} {ib L : Nat} {ss : List Lk} {cv mv : Value} {lim i : Nat} {nn : Int} (h : DeepAt w W0 W ib L ss cv mv lim i nn) (hL : L < 8) :
    Calls Tryz.prog 14 #[.pointer (some ⟨W0.heap.size, 0, none⟩)] W fun e W' => (∃ p c, e = .returned (.slice p (i * L) c)) ∧ Upd [] W W' := by
  obtain ⟨⟨lv, vs, hst⟩, hok, hu⟩ := h
  have hfew := hok.few
  have hlen := deep_roots L i
  have hrl : i * L ≤ 100000000 := by
    rw [List.length_replicate] at hfew
    calc i * L ≤ 16384 * 8 := Nat.mul_le_mul hfew (by omega)
      _ ≤ 100000000 := by decide
  refine (sroots_any W0 W W0.heap.size ib (deepP L) ss 0 nn cv mv _ _ lv _ vs hst (by omega) (fun j hj r hr => by have := deep_row L i j hj r hr; omega) (by omega)).mono ?_
  rintro e W' ⟨u, rfl, hown, hu2⟩
  obtain ⟨p, c, rfl⟩ := hown.shape
  rw [hlen]
  exact ⟨⟨p, c, rfl⟩, hu2⟩
theorem dwords {w W0 W : World} {ib L : Nat} {ss : List Lk} {cv mv : Value} {lim i : Nat} {nn : Int} (h : DeepAt w W0 W ib L ss cv mv lim i nn) :
    Calls Tryz.prog 13 #[.pointer (some ⟨W0.heap.size, 0, none⟩)] W fun e W' => e = .returned (.int .i64 ((i * (4 + L) : Nat) : Int)) ∧ W = W' := by
  obtain ⟨⟨lv, vs, hst⟩, _, _⟩ := h
  exact swords_any W0 W W0.heap.size ib (deepP L) ss 0 nn cv mv _ _ lv _ vs hst
theorem dlen {w W0 W : World} {ib L : Nat} {ss : List Lk} {cv mv : Value} {lim i : Nat} {nn : Int} (h : DeepAt w W0 W ib L ss cv mv lim i nn) :
    Calls Tryz.prog 16 #[.pointer (some ⟨W0.heap.size, 0, none⟩)] W fun e W' => e = .returned (.int .i64 i) ∧ W = W' := by
  obtain ⟨⟨lv, vs, hst⟩, _, _⟩ := h
  have h1 := slen_any W0 W W0.heap.size ib (deepP L) ss 0 nn cv mv _ _ lv _ vs hst
  rwa [List.length_replicate] at h1
theorem dlenW {w W0 W : World} {ib L : Nat} {ss : List Lk} {cv mv : Value} {lim i : Nat} {nn : Int} (h : DeepAt w W0 W ib L ss cv mv lim i nn) : lenW W0.heap.size W = i := by
  obtain ⟨⟨lv, vs, hst⟩, _, _⟩ := h
  rw [hst.lenW, List.length_replicate]
theorem dpop0 {w W0 W : World} {ib L : Nat} {ss : List Lk} {cv mv : Value} {lim : Nat} {nn : Int} (h : DeepAt w W0 W ib L ss cv mv lim 0 nn) :
    Calls Tryz.prog 17 #[.pointer (some ⟨W0.heap.size, 0, none⟩)] W fun e W' => e = .returned (.bool false) ∧ Upd [] W W' := by
  obtain ⟨⟨lv, vs, hst⟩, _, _⟩ := h
  exact spop_none W0 W W0.heap.size ib (deepP L) ss 0 nn cv mv _ _ lv vs hst
end Go.Proofs.YtpmfbhoochogoaaGreatDoor

/-! FramesDeep: the walk. -/
/-! FramesDeep: the walk. -/
namespace Go.Proofs.YtpmfbhoochogoaaGreatDoor
open Go.RowKit

set_option maxRecDepth 100000 in
set_option maxHeartbeats 8000000 in
theorem deepW_any (E : Nat → Addr) (a b : Int) (w : World) (hS : SentAll w E) :
    Calls Tryz.prog 3 #[.int .i64 a, .int .i64 b] w fun e w' => e = .returned (.bool true) ∧ Upd [] w w' := by
  obtain ⟨L, hLd⟩ : ∃ L : Nat, a % 8 = (L : Int) := ⟨(a % 8).toNat, by omega⟩
  obtain ⟨lim, hMd⟩ : ∃ lim : Nat, b % 512 = (lim : Int) := ⟨(b % 512).toNat, by omega⟩
  have hL : L < 8 := by omega
  have hM : lim < 512 := by omega
  have ha : bits BinOp.and IntKind.i64 a 7 = (L : Int) := by
    have := and_mask a 3 7 (by omega) (by decide)
    rw [show ((7 : Nat) : Int) = 7 from rfl] at this
    rw [this]
    exact hLd
  have hb : bits BinOp.and IntKind.i64 b 511 = (lim : Int) := by
    have := and_mask b 9 511 (by omega) (by decide)
    rw [show ((511 : Nat) : Int) = 511 from rfl] at this
    rw [this]
    exact hMd
  clear hLd hMd
  have HF := Lib.hid (first13_any E w hS)
  have HS := Lib.hid hS
  clear hS
  go_enter Tryz.func3, Tryz.ntmps3
  go_wp2_with fail
  refine HF.out.mono ?_
  rintro e w1 ⟨rfl, hu1⟩
  have HU1 := Lib.hid hu1
  clear hu1 HF
  -- the box of the method
  have hc2 := code_lit w1 [⟨33, 0, 0, 0⟩] (by decide) (fun i hi => by
    have : i = 0 := by simpa using hi
    subst this
    show Ins.bd ⟨33, 0, 0, 0⟩
    simp only [Ins.bd]
    omega)
  have hu3 := ((Upd.refl [] w1).alloc (.cells #[.int .i64 33, .int .i64 0, .int .i64 0, .int .i64 0] 24)).alloc (.cells #[.string ⟨#[]⟩, .string ⟨#[]⟩, .string ⟨#[]⟩, .slice (some ⟨w1.heap.size, 0, none⟩) 1 1] 27)
  have hb3 := heap_alloc_new (w1.alloc (.cells #[.int .i64 33, .int .i64 0, .int .i64 0, .int .i64 0] 24)) (.cells #[.string ⟨#[]⟩, .string ⟨#[]⟩, .string ⟨#[]⟩, .slice (some ⟨w1.heap.size, 0, none⟩) 1 1] 27)
  rw [show (w1.alloc (.cells #[.int .i64 33, .int .i64 0, .int .i64 0, .int .i64 0] 24)).heap.size = w1.heap.size + 1 by simp] at hb3
  have hc3 : CodeAt ((w1.alloc (.cells #[.int .i64 33, .int .i64 0, .int .i64 0, .int .i64 0] 24)).alloc (.cells #[.string ⟨#[]⟩, .string ⟨#[]⟩, .string ⟨#[]⟩, .slice (some ⟨w1.heap.size, 0, none⟩) 1 1] 27)) (.slice (some ⟨w1.heap.size, 0, none⟩) 1 1) [⟨33, 0, 0, 0⟩] := hc2.upd ((Upd.refl [] _).alloc _)
  have HU3 := Lib.hid (HU1.out.trans hu3)
  have HC3 := Lib.hid hc3
  have HB3 := Lib.hid hb3
  have HZ1 := Lib.hid HU1.out.size
  clear hc2 hc3 hu3 hb3
  go_upto_region 5 with fail
  generalize (w1.alloc (.cells #[.int .i64 33, .int .i64 0, .int .i64 0, .int .i64 0] 24)).alloc (.cells #[.string ⟨#[]⟩, .string ⟨#[]⟩, .string ⟨#[]⟩, .slice (some ⟨w1.heap.size, 0, none⟩) 1 1] 27) = w3 at HU3 HC3 HB3 ⊢
  generalize w1.heap.size = c1 at HC3 HB3 HZ1 ⊢
  go_wp2_with fail
  go_loopw [7] (fun iv wr => ∃ i : Nat, i ≤ L ∧ iv = .int .i64 i ∧ Hid (wr.heap[c1 + 1]? = some (.cells #[.string ⟨#[]⟩, .string (dLoc i), .string ⟨#[]⟩, .slice (some ⟨c1, 0, none⟩) 1 1] 27)) ∧ Hid (Upd [c1 + 1] w3 wr)) (fun iv _ => L - (intOf iv).toNat)
  case atStart => exact ⟨0, by omega, rfl, HB3.out, Upd.refl _ _⟩
  case round =>
    clear HB3
    obtain ⟨i, hi, rfl, HB, HV⟩ := hrel
    obtain ⟨wo, rfl⟩ : ∃ wo : World, wo = wr := ⟨_, rfl⟩
    by_cases hlt : i < L
    · have hcat := dLoc_succ i
      have hsz := dLoc_size i
      have s1 : wo.cell? ⟨c1 + 1, 1, none⟩ = some (.string (dLoc i)) := by rw [cell_of HB.out]; rfl
      have f1 := froz_of HB.out 1
      have hov : ¬ (9223372036854775807 < (dLoc i).size + (⟨#[82]⟩ : ByteArray).size) := by
        rw [hsz]
        show ¬ (9223372036854775807 < i + 1)
        omega
      have hov2 : ¬ (9223372036854775807 < (dLoc i).size + 1) := by rw [hsz]; omega
      have hb2 := heap_setCell HB.out 1 (.string (dLoc (i + 1)))
      have hst : Upd [c1 + 1] wo (wo.setCell ⟨c1 + 1, 1, none⟩ (.string (dLoc (i + 1)))) := (Upd.refl [c1 + 1] wo).setCell (.inl (by simp)) _
      have HB2 : Hid ((wo.setCell ⟨c1 + 1, 1, none⟩ (.string (dLoc (i + 1)))).heap[c1 + 1]? = some (.cells #[.string ⟨#[]⟩, .string (dLoc (i + 1)), .string ⟨#[]⟩, .slice (some ⟨c1, 0, none⟩) 1 1] 27)) := by
        show _ = _
        rw [hb2]
        rfl
      have HV2 := Lib.hid (HV.out.trans hst)
      clear hsz hb2 hst
      generalize hT : dLoc (i + 1) = T at hcat HB2 HV2
      have HT := Lib.hid hT
      clear hT
      go_wp2_with fail
      go_roundw
      case rel => exact ⟨i + 1, by omega, by go_num, by rw [HT.out]; exact HB2.out, HV2.out⟩
      case measure => simp [intOf]; omega
    · have hiL : L = i := by omega
      subst hiL
      have b0 : wo.cell? ⟨c1 + 1, 0, none⟩ = some (.string ⟨#[]⟩) := by rw [cell_of HB.out]; rfl
      have b1 : wo.cell? ⟨c1 + 1, 1, none⟩ = some (.string (dLoc L)) := by rw [cell_of HB.out]; rfl
      have b2 : wo.cell? ⟨c1 + 1, 2, none⟩ = some (.string ⟨#[]⟩) := by rw [cell_of HB.out]; rfl
      have b3 : wo.cell? ⟨c1 + 1, 3, none⟩ = some (.slice (some ⟨c1, 0, none⟩) 1 1) := by rw [cell_of HB.out]; rfl
      have HUo : Hid (Upd [] w wo) := HU3.out.trans' HV.out (fun q hq hl => by rw [List.mem_singleton] at hq; have := HZ1.out; omega)
      have hc4 := code_lit wo [⟨33, 0, 0, 0⟩] (by decide) (fun i hi => by
        have : i = 0 := by simpa using hi
        subst this
        show Ins.bd ⟨33, 0, 0, 0⟩
        simp only [Ins.bd]
        omega)
      have hu4 := (Upd.refl [] wo).alloc (.cells #[.int .i64 33, .int .i64 0, .int .i64 0, .int .i64 0] 24)
      have hc4 : CodeAt (wo.alloc (.cells #[.int .i64 33, .int .i64 0, .int .i64 0, .int .i64 0] 24)) (.slice (some ⟨wo.heap.size, 0, none⟩) 1 1) [⟨33, 0, 0, 0⟩] := hc4
      have hc5 : CodeAt (wo.alloc (.cells #[.int .i64 33, .int .i64 0, .int .i64 0, .int .i64 0] 24)) (.slice (some ⟨c1, 0, none⟩) 1 1) [⟨33, 0, 0, 0⟩] := by
        have h1 : CodeAt wo (.slice (some ⟨c1, 0, none⟩) 1 1) [⟨33, 0, 0, 0⟩] := by
          obtain ⟨a1, a2, a3, a4, a5, a6⟩ := HC3.out
          refine ⟨a1, a2, a3, a4, a5, fun j hj => ?_⟩
          obtain ⟨b, o, e1, e2, e3⟩ := a6 j hj
          injection a3 with a3 _ _
          rw [e1] at a3
          injection a3 with a3
          injection a3 with a3 _
          have hb : b ∉ [c1 + 1] := by rw [List.mem_singleton]; omega
          exact ⟨b, o, e1, e2, HV.out.cell e3.1 hb, HV.out.cell e3.2.1 hb, HV.out.cell e3.2.2.1 hb, HV.out.cell e3.2.2.2 hb⟩
        exact h1.upd hu4
      have hM := meths_lit (wo.alloc (.cells #[.int .i64 33, .int .i64 0, .int .i64 0, .int .i64 0] 24)) [dm0, dm1 L] [.slice (some ⟨wo.heap.size, 0, none⟩) 1 1, .slice (some ⟨c1, 0, none⟩) 1 1] rfl (show 2 ≤ 1000 by decide) (fun i hi => by
        have : i = 0 ∨ i = 1 := by have hi : i < 2 := hi; omega
        rcases this with rfl | rfl
        · exact ⟨Nat.zero_le _, Nat.zero_le _, Nat.zero_le _⟩
        · exact ⟨Nat.zero_le _, (by show (dLoc L).size ≤ maxLen; rw [dLoc_size]; unfold maxLen; omega), Nat.zero_le _⟩) (fun i hi => by
        have : i = 0 ∨ i = 1 := by have hi : i < 2 := hi; omega
        rcases this with rfl | rfl
        · exact hc4
        · exact hc5)
      have hu5 := hu4.alloc (.cells #[.string ⟨#[]⟩, .string ⟨#[]⟩, .string ⟨#[]⟩, .slice (some ⟨wo.heap.size, 0, none⟩) 1 1, .string ⟨#[]⟩, .string (dLoc L), .string ⟨#[]⟩, .slice (some ⟨c1, 0, none⟩) 1 1] 27)
      have hz4 : (wo.alloc (.cells #[.int .i64 33, .int .i64 0, .int .i64 0, .int .i64 0] 24)).heap.size = wo.heap.size + 1 := by simp
      rw [hz4] at hM
      have hM : MethsAt ((wo.alloc (.cells #[.int .i64 33, .int .i64 0, .int .i64 0, .int .i64 0] 24)).alloc (.cells #[.string ⟨#[]⟩, .string ⟨#[]⟩, .string ⟨#[]⟩, .slice (some ⟨wo.heap.size, 0, none⟩) 1 1, .string ⟨#[]⟩, .string (dLoc L), .string ⟨#[]⟩, .slice (some ⟨c1, 0, none⟩) 1 1] 27)) (.slice (some ⟨wo.heap.size + 1, 0, none⟩) 2 2) (deepP L).ms := hM
      have HU5 := Lib.hid (HUo.out.trans hu5)
      have d0 := hu4.cell b0 (by simp)
      have d1 := hu4.cell b1 (by simp)
      have d2 := hu4.cell b2 (by simp)
      have d3 := hu4.cell b3 (by simp)
      have HOF := Lib.hid (ofV_any (deepP L) (.slice none 0 0) (.slice (some ⟨wo.heap.size + 1, 0, none⟩) 2 2) E _ (HS.out.upd HU5.out).some (class_nil _) hM)
      clear hM hc4 hc5 hu4 hu5 hz4 HC3 HU3 HU1
      go_wp2_with fail
      refine HOF.out.mono ?_
      rintro e w6 ⟨v6, rfl, hend⟩
      obtain ⟨ib, ss, hl, hlk, rfl, hinfo, hib, hu6⟩ := hend.good (deep_ok L hL) (by
        intro j hj
        have : j = 0 ∨ j = 1 := by have hj : j < 2 := hj; omega
        rcases this with rfl | rfl
        · obtain ⟨s, hs, _⟩ := look_most (deep_look0 L hL)
          exact ⟨s, hs⟩
        · obtain ⟨s, hs, _⟩ := look_most (deep_look1 L hL)
          exact ⟨s, hs⟩)
      have HLK : Hid (lookM (deepP L) (dm1 L) = .ok (ss.getD 1 default)) := hlk 1 (show 1 < 2 by decide)
      have HOK := Lib.hid (StkOk.new (limit := (lim : Int)) (deep_ok L hL) hl hlk (by omega))
      have HNW := Lib.hid (snew_any ib (deepP L) ss 0 (lim : Int) w6 hinfo (deep_ok L hL) (by omega) (by omega))
      have HIB0 : Hid (w.heap.size ≤ ib) := Nat.le_trans HU5.out.size hib
      have HU6 := Lib.hid (HU5.out.trans hu6)
      clear hend hl hlk hinfo hib hu6 HOF HU5 b0 b1 b2 b3 d0 d1 d2 d3
      go_wp2_with fail
      refine HNW.out.mono ?_
      rintro e w7 ⟨W0, cv, mv, rfl, hu60, hst, hu7⟩
      have HIB : Hid (w.heap.size ≤ ib ∧ w.heap.size ≤ W0.heap.size) := ⟨HIB0.out, (HU6.out.trans hu60).size⟩
      have HD7 : Hid (DeepAt w W0 w7 ib L ss cv mv lim 0 0) := ⟨⟨_, [], by rw [Nat.zero_mul]; exact hst⟩, by rw [Nat.zero_mul]; exact HOK.out, HU6.out.trans hu7⟩
      clear hu60 hst hu7 HNW HU6 HIB0 HOK
      have hD := Nat.div_add_mod lim (4 + L)
      have hR := Nat.mod_lt lim (show 0 < 4 + L by omega)
      have hq : (lim : Int).tdiv (4 + (L : Int)) = ((lim / (4 + L) : Nat) : Int) := (Int.ofNat_tdiv lim (4 + L)).symm
      have hDl : lim / (4 + L) ≤ lim := Nat.div_le_self _ _
      rw [Nat.mul_comm] at hD
      generalize lim / (4 + L) = D at hD hq hDl
      generalize lim % (4 + L) = R at hD hR
      have HDR := Lib.hid hD
      clear hD
      have hDw : IntKind.i64.wrap (D : Int) = (D : Int) := IntWalk.i64_in _ (by omega)
      have hs0 : ¬ (4 + (L : Int)) = 0 := by omega
      have hs1 : ((4 + (L : Int)) == 0) = false := by rw [beq_eq_false_iff_ne]; exact hs0
      go_wp2_with fail
      go_loopw [13, 14] (fun rv _ wr => ∃ (rd : Nat) (nn : Int), rd ≤ 2 ∧ rv = .int .i64 rd ∧ 0 ≤ nn ∧ nn ≤ 10000 * rd ∧ Hid (DeepAt w W0 wr ib L ss cv mv lim 0 nn)) (fun rv _ _ => 2 - (intOf rv).toNat)
      case atStart => exact ⟨0, 0, by omega, rfl, by omega, by omega, HD7.out⟩
      case round =>
        clear HD7
        obtain ⟨rd, nn, hrd, rfl, hn0, hn1, HD⟩ := hrel
        obtain ⟨w8, rfl⟩ : ∃ w8 : World, w8 = wr := ⟨_, rfl⟩
        by_cases hr2 : rd < 2
        · have hr2i : (rd : Int) < 2 := by omega
          have hr2d : decide ((rd : Int) < 2) = true := decide_eq_true hr2i
          go_wp2_with fail
          go_loopw [14] (fun iv wr => ∃ (i : Nat) (nq : Int), i ≤ D ∧ iv = .int .i64 i ∧ nn ≤ nq ∧ nq ≤ nn + i ∧ Hid (DeepAt w W0 wr ib L ss cv mv lim i nq)) (fun iv _ => D - (intOf iv).toNat)
          case atStart => exact ⟨0, nn, by omega, rfl, by omega, by omega, HD.out⟩
          case round =>
            clear HD
            obtain ⟨i, nq, hi, rfl, hq0, hq1, HD⟩ := hrel
            obtain ⟨w9, rfl⟩ : ∃ w9 : World, w9 = wr := ⟨_, rfl⟩
            by_cases hlt : i < D
            · have hmul : (i + 1) * (4 + L) ≤ D * (4 + L) := Nat.mul_le_mul_right _ (by omega)
              have hmul2 : (i + 1) * L ≤ (i + 1) * (4 + L) := Nat.mul_le_mul_left _ (by omega)
              have HPU := Lib.hid (dpush HD.out HS.out hL HLK.out HIB.out (by omega) (by omega))
              have HPQ : Hid ((i + 1) * (4 + L) ≤ lim) := by
                show _ ≤ _
                have := HDR.out
                omega
              obtain ⟨X, hX⟩ : ∃ X : Int, (((i + 1) * (4 + L) : Nat) : Int) = X := ⟨_, rfl⟩
              obtain ⟨Y, hY⟩ : ∃ Y : Nat, (i + 1) * L = Y := ⟨_, rfl⟩
              have hXp : ((i : Int) + 1) * (4 + (L : Int)) = X := by rw [← hX, Int.natCast_mul, Int.natCast_add, Int.natCast_add]; rfl
              have hYp : ((i : Int) + 1) * (L : Int) = (Y : Int) := by rw [← hY, Int.natCast_mul, Int.natCast_add]; rfl
              have hXw : IntKind.i64.wrap X = X := IntWalk.i64_in _ (by have := HPQ.out; omega)
              have hYw : IntKind.i64.wrap (Y : Int) = (Y : Int) := IntWalk.i64_in _ (by have := HPQ.out; omega)
              have HXE := Lib.hid hX
              have HYE := Lib.hid hY
              clear hX hY hmul hmul2
              go_wp2_with fail
              refine HPU.out.mono ?_
              rintro e w10 hpe
              obtain ⟨_, rfl, hd⟩ := hpe.resolve_right (fun h => by
                have h1 := h.1
                have h2 := HPQ.out
                omega)
              have HD10 := Lib.hid hd
              have HWD := Lib.hid (dwords hd)
              have HRT := Lib.hid (droots hd hL)
              rw [HXE.out] at HWD
              rw [HYE.out] at HRT
              clear hpe hd HPU HD
              go_wp2_with fail
              refine HWD.out.mono ?_
              rintro e w11 ⟨rfl, rfl⟩
              go_wp2_with fail
              refine HRT.out.mono ?_
              rintro e w12 ⟨⟨rp, rc, rfl⟩, hu12⟩
              have HD12 := Lib.hid (HD10.out.same hu12)
              clear hu12 HD10 HWD HRT
              go_wp2_with fail
              go_roundw
              case rel => exact ⟨i + 1, nq + 1, by omega, by go_num, by omega, by omega, HD12.out⟩
              case measure => simp [intOf]; omega
            · have hiD : D = i := by omega
              subst hiD
              have hsucc : (D + 1) * (4 + L) = D * (4 + L) + (4 + L) := Nat.succ_mul _ _
              have HPQ : Hid (lim < (D + 1) * (4 + L)) := by
                show _ < _
                have := HDR.out
                omega
              have HDd := Lib.hid (HD.out.same (Upd.refl [] w9).drew)
              have HPU := Lib.hid (dpush HDd.out HS.out hL HLK.out HIB.out (by omega) (by omega))
              have HIS : Hid (∀ W, SentAll W E → Calls Tryz.prog 15 #[sErr E 13, .int .i64 114] W fun e w' => e = .returned (.bool true) ∧ Upd [] W w') := fun W h => is_at E 13 (by omega) 114 W h
              clear hsucc HD
              go_wp2_with fail
              go_region_held3 (fun _ => True) (trivial)
                (first
                  | (go_at_call 12; refine HPU.out.mono ?_; rintro e wA hpe; obtain ⟨_, rfl, hd⟩ := hpe.resolve_left (fun h => by have h1 := h.1; have h2 := HPQ.out; omega); have HDA := Lib.hid hd; clear hpe hd)
                  | (go_at_call 15; refine (HIS.out _ (HS.out.upd HDA.out.upd)).mono ?_; rintro e wB ⟨rfl, huB⟩; have HDB := Lib.hid (HDA.out.same huB); clear huB)
                  | (go_at_call 16; refine (dlen HDB.out).mono ?_; rintro e wC ⟨rfl, rfl⟩))
              rename_i hheld
              clear hheld HDd HDA HPU HIS
              go_wp2_with fail
              go_loopw [] (fun wr => ∃ (i : Nat) (nq2 : Int), i ≤ D ∧ nn ≤ nq2 ∧ nq2 + i ≤ nn + 2 * D + 1 ∧ Hid (DeepAt w W0 wr ib L ss cv mv lim i nq2)) (fun wr => lenW W0.heap.size wr)
              case atStart => exact ⟨D, nq + 1, by omega, by omega, by omega, HDB.out⟩
              case round =>
                clear HDB
                obtain ⟨i, nq2, hi2, hr0, hr1, HD⟩ := hrel
                obtain ⟨wp, rfl⟩ : ∃ wp : World, wp = wr := ⟨_, rfl⟩
                have HLN := Lib.hid (dlen HD.out)
                have HLW := Lib.hid (dlenW HD.out)
                by_cases hi0 : i = 0
                · subst hi0
                  go_wp2_with fail
                  refine HLN.out.mono ?_
                  rintro e wq ⟨rfl, rfl⟩
                  go_wp2_with fail
                  go_roundw
                  case rel => exact ⟨rd + 1, nq2, by omega, by go_num, by omega, by omega, HD.out⟩
                  case measure => simp [intOf]; omega
                · obtain ⟨k, rfl⟩ : ∃ k, i = k + 1 := ⟨i - 1, by omega⟩
                  have HPO := Lib.hid (dpop HD.out hL HLK.out HIB.out (by omega) (by omega))
                  have hgt : (0 : Int) < ((k + 1 : Nat) : Int) := by omega
                  have hgt2 : decide ((0 : Int) < ((k : Int) + 1)) = true := decide_eq_true (by omega)
                  go_wp2_with fail
                  refine HLN.out.mono ?_
                  rintro e wq ⟨rfl, rfl⟩
                  go_wp2_with fail
                  refine HPO.out.mono ?_
                  rintro e ws ⟨rfl, hd⟩
                  have HDS := Lib.hid hd
                  have HLS := Lib.hid (dlenW hd)
                  clear hd HPO HLN
                  go_wp2_with fail
                  go_roundw
                  case rel => exact ⟨k, nq2 + 1, by omega, by omega, by omega, HDS.out⟩
                  case measure =>
                    rw [HLS.out, HLW.out]
                    omega
        · obtain rfl : rd = 2 := by omega
          have HWD := Lib.hid (dwords HD.out)
          have HPO := Lib.hid (dpop0 HD.out)
          have hz : 0 * (4 + L) = 0 := Nat.zero_mul _
          rw [hz] at HWD
          clear hz
          go_wp2_with fail
          refine HWD.out.mono ?_
          rintro e w9 ⟨rfl, rfl⟩
          go_wp2_with fail
          refine HPO.out.mono ?_
          rintro e w10 ⟨rfl, hu10⟩
          go_wp2_with fail
          go_ret
          exact ⟨rfl, HD.out.upd.trans hu10⟩
end Go.Proofs.YtpmfbhoochogoaaGreatDoor
