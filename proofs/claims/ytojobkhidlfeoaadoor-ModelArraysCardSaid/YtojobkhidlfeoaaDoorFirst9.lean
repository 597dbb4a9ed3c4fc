/- overdrivelaw9.first: its programs, plain. overdrivelaw9.first. -/
import Derived.Test.YtojobkhidlfeoaaDoorMdS
import Derived.Test.YtojobkhidlfeoaaDoorFirstL
import Derived.Test.YtojobkhidlfeoaaDoorMwV
/-! overdrivelaw9.first: its programs, plain. -/
namespace Go.Proofs.YtojobkhidlfeoaaDoor

def g1 : Meth := ⟨⟨#[]⟩, ⟨#[]⟩, ⟨#[73]⟩, [⟨1, 0, 0, 1⟩, ⟨1, 0, 0, 0⟩, ⟨11, 0, 0, 0⟩, ⟨33, 0, 0, 0⟩]⟩
def g2 : Meth := ⟨⟨#[]⟩, ⟨#[]⟩, ⟨#[]⟩, [⟨32, 1, 0, 0⟩, ⟨33, 0, 0, 0⟩]⟩
def pA : Prg := ⟨[], [g1]⟩
def pB : Prg := ⟨[], [g2, g2]⟩
theorem pA_run : (Mc.new pA [] 5).run pA = ⟨[⟨0, 2, [], [vi 1, vi 0]⟩], [], [], 5, [], some ⟨2, 5, 0, 2, 0⟩⟩ := by kernel_rfl
theorem pB_run : (Mc.new pB [] 3).run pB = ⟨[⟨1, 0, [], []⟩, ⟨1, 1, [], []⟩, ⟨1, 1, [], []⟩, ⟨0, 1, [], []⟩], [], [], 0, [], some ⟨3, 0, 1, 0, 0⟩⟩ := by kernel_rfl
end Go.Proofs.YtojobkhidlfeoaaDoor

/-! overdrivelaw9.first. -/
namespace Go.Proofs.YtojobkhidlfeoaaDoor
open Go.RowKit

theorem bd_small9 {a b c d : Int} (h : -1000 ≤ a ∧ a ≤ 1000 ∧ -1000 ≤ b ∧ b ≤ 1000 ∧ -1000 ≤ c ∧ c ≤ 1000 ∧ -1000 ≤ d ∧ d ≤ 1000) : (⟨a, b, c, d⟩ : Ins).bd := by
 simp only [Ins.bd]
 omega
theorem pA_bd : pA.Bd := Prg.bd_of (by
 intro m hm x hx
 simp only [pA, List.mem_singleton] at hm
 subst hm
 simp only [g1, List.mem_cons, List.not_mem_nil, or_false] at hx
 rcases hx with rfl | rfl | rfl | rfl <;> exact bd_small9 (by decide))
theorem pB_bd : pB.Bd := Prg.bd_of (by
 intro m hm x hx
 simp only [pB, List.mem_cons, List.not_mem_nil, or_false] at hm
 have hm2 : m = g2 := by rcases hm with rfl | rfl <;> rfl
 subst hm2
 simp only [g2, List.mem_cons, List.not_mem_nil, or_false] at hx
 rcases hx with rfl | rfl <;> exact bd_small9 (by decide))
theorem lng_nil (w : World) : LngV w (.slice none ([] : List Int).length 0) 0 0 [] := ⟨⟨none, 0, rfl, Nat.le_refl _, by unfold maxLen; omega, fun h => absurd rfl h⟩, by simp⟩

set_option maxRecDepth 100000 in
set_option maxHeartbeats 4000000 in
theorem first9_any (E : Nat → Addr) (w : World) (hS : SentAt w E) :
  Calls Tryd.prog 5 #[] w fun e w' => e = .returned (.bool true) ∧ Upd [] w w' := by
 have hA1 := (Upd.refl [] w).alloc (.cells (xcells g1.code).toArray 29)
 have hC1 := code_lit w g1.code (by decide) (fun i hi => by
  have : i = 0 ∨ i = 1 ∨ i = 2 ∨ i = 3 := by have h : g1.code.length = 4 := rfl; omega
  rcases this with rfl | rfl | rfl | rfl <;> exact bd_small9 (by decide))
 generalize hw1 : w.alloc (.cells (xcells g1.code).toArray 29) = w1 at hA1 hC1
 have hM1 := meths_lit w1 [g1] [.slice (some ⟨w.heap.size, 0, none⟩) 4 4] rfl (by decide) (fun i hi => by
  obtain rfl : i = 0 := by simpa using hi
  exact ⟨by decide, by decide, by decide⟩) (fun i hi => by
  obtain rfl : i = 0 := by simpa using hi
  exact hC1)
 have hA2 := hA1.alloc (.cells (mcells [g1] [.slice (some ⟨w.heap.size, 0, none⟩) 4 4]).toArray 32)
 generalize hw2 : w1.alloc (.cells (mcells [g1] [.slice (some ⟨w.heap.size, 0, none⟩) 4 4]).toArray 32) = w2 at hA2 hM1
 have hA3 := hA2.alloc (.cells #[.slice none 0 0, .slice (some ⟨w1.heap.size, 0, none⟩) 1 1] 36)
 have hB3 := heap_alloc_new w2 (.cells #[.slice none 0 0, .slice (some ⟨w1.heap.size, 0, none⟩) 1 1] 36)
 have hM1 := hM1.upd ((Upd.refl [] w2).alloc (.cells #[.slice none 0 0, .slice (some ⟨w1.heap.size, 0, none⟩) 1 1] 36))
 generalize hw3 : w2.alloc (.cells #[.slice none 0 0, .slice (some ⟨w1.heap.size, 0, none⟩) 1 1] 36) = w3 at hA3 hB3 hM1
 have hg2 : ∀ i, i < g2.code.length → (g2.code.getD i default).bd := fun i hi => by
  have : i = 0 ∨ i = 1 := by have h : g2.code.length = 2 := rfl; omega
  rcases this with rfl | rfl <;> exact bd_small9 (by decide)
 have hA4 := (Upd.refl [] w3).alloc (.cells (xcells g2.code).toArray 29)
 have hC2 := code_lit w3 g2.code (by decide) hg2
 generalize hw4 : w3.alloc (.cells (xcells g2.code).toArray 29) = w4 at hA4 hC2
 have hA5 := hA4.alloc (.cells (xcells g2.code).toArray 29)
 have hC3 := code_lit w4 g2.code (by decide) hg2
 have hC2 := hC2.upd ((Upd.refl [] w4).alloc (.cells (xcells g2.code).toArray 29))
 generalize hw5 : w4.alloc (.cells (xcells g2.code).toArray 29) = w5 at hA5 hC2 hC3
 have hM2 := meths_lit w5 [g2, g2] [.slice (some ⟨w3.heap.size, 0, none⟩) 2 2, .slice (some ⟨w4.heap.size, 0, none⟩) 2 2] rfl (by decide) (fun i hi => by
  have : i = 0 ∨ i = 1 := by have h : ([g2, g2] : List Meth).length = 2 := rfl; omega
  rcases this with rfl | rfl <;> exact ⟨by decide, by decide, by decide⟩) (fun i hi => by
  have : i = 0 ∨ i = 1 := by have h : ([g2, g2] : List Meth).length = 2 := rfl; omega
  rcases this with rfl | rfl
  ·exact hC2
  ·exact hC3)
 have hA6 := hA5.alloc (.cells (mcells [g2, g2] [.slice (some ⟨w3.heap.size, 0, none⟩) 2 2, .slice (some ⟨w4.heap.size, 0, none⟩) 2 2]).toArray 32)
 generalize hw6 : w5.alloc (.cells (mcells [g2, g2] [.slice (some ⟨w3.heap.size, 0, none⟩) 2 2, .slice (some ⟨w4.heap.size, 0, none⟩) 2 2]).toArray 32) = w6 at hA6 hM2
 have hA7 := hA6.alloc (.cells #[.slice none 0 0, .slice (some ⟨w5.heap.size, 0, none⟩) 2 2] 36)
 have hB7 := heap_alloc_new w6 (.cells #[.slice none 0 0, .slice (some ⟨w5.heap.size, 0, none⟩) 2 2] 36)
 have hM2 := hM2.upd ((Upd.refl [] w6).alloc (.cells #[.slice none 0 0, .slice (some ⟨w5.heap.size, 0, none⟩) 2 2] 36))
 generalize hw7 : w6.alloc (.cells #[.slice none 0 0, .slice (some ⟨w5.heap.size, 0, none⟩) 2 2] 36) = w7 at hA7 hB7 hM2
 have hB3 := hA7.heap hB3 (by simp)
 have hM1 := hM1.upd hA7
 have hU7 := hA3.trans hA7
 have z1 : w1.heap.size = w.heap.size + 1 := by rw [← hw1]; simp
 have z2 : w2.heap.size = w.heap.size + 1 + 1 := by rw [← hw2]; simp [z1]
 have z3 : w3.heap.size = w.heap.size + 1 + 1 + 1 := by rw [← hw3]; simp [z2]
 have z4 : w4.heap.size = w.heap.size + 1 + 1 + 1 + 1 := by rw [← hw4]; simp [z3]
 have z5 : w5.heap.size = w.heap.size + 1 + 1 + 1 + 1 + 1 := by rw [← hw5]; simp [z4]
 have z6 : w6.heap.size = w.heap.size + 1 + 1 + 1 + 1 + 1 + 1 := by rw [← hw6]; simp [z5]
 have hW7 : w7 = (((((((w.alloc (.cells #[.int .i64 1, .int .i64 0, .int .i64 0, .int .i64 1, .int .i64 1, .int .i64 0, .int .i64 0, .int .i64 0, .int .i64 11, .int .i64 0, .int .i64 0, .int .i64 0, .int .i64 33, .int .i64 0, .int .i64 0, .int .i64 0] 29)).alloc (.cells #[.string ⟨#[]⟩, .string ⟨#[]⟩, .string ⟨#[73]⟩, .slice (some ⟨w.heap.size, 0, none⟩) 4 4] 32)).alloc (.cells #[.slice none 0 0, .slice (some ⟨w.heap.size + 1, 0, none⟩) 1 1] 36)).alloc (.cells #[.int .i64 32, .int .i64 1, .int .i64 0, .int .i64 0, .int .i64 33, .int .i64 0, .int .i64 0, .int .i64 0] 29)).alloc (.cells #[.int .i64 32, .int .i64 1, .int .i64 0, .int .i64 0, .int .i64 33, .int .i64 0, .int .i64 0, .int .i64 0] 29)).alloc (.cells #[.string ⟨#[]⟩, .string ⟨#[]⟩, .string ⟨#[]⟩, .slice (some ⟨w.heap.size + 1 + 1 + 1, 0, none⟩) 2 2, .string ⟨#[]⟩, .string ⟨#[]⟩, .string ⟨#[]⟩, .slice (some ⟨w.heap.size + 1 + 1 + 1 + 1, 0, none⟩) 2 2] 32)).alloc (.cells #[.slice none 0 0, .slice (some ⟨w.heap.size + 1 + 1 + 1 + 1 + 1, 0, none⟩) 2 2] 36)) := by
  rw [← hw7, z5, ← hw6, z4, z3, ← hw5, ← hw4, ← hw3, z1, ← hw2, ← hw1]
  rfl
 go_enter Tryd.func5, Tryd.ntmps5
 go_upto_region 3 with fail
 rw [← hW7]
 rw [z2] at hB3
 rw [z1] at hB3 hM1
 rw [z6] at hB7
 rw [z5] at hB7 hM2
 have HS7 := Lib.hid (hS.upd hU7)
 have HU7 := Lib.hid hU7
 have HM2 := Lib.hid hM2
 have HB7 := Lib.hid hB7
 have p0 : w7.cell? ⟨w.heap.size + 1 + 1, 0, none⟩ = some (.slice none 0 0) := by rw [cell_of hB3]; rfl
 have p1 : w7.cell? ⟨w.heap.size + 1 + 1, 1, none⟩ = some (.slice (some ⟨w.heap.size + 1, 0, none⟩) 1 1) := by rw [cell_of hB3]; rfl
 have HO1 := Lib.hid (ofV_any pA (.slice none 0 0) (.slice (some ⟨w.heap.size + 1, 0, none⟩) 1 1) E w7 HS7.out (class_nil _) hM1)
 clear hW7 hw1 hw2 hw3 hw4 hw5 hw6 hw7 z1 z2 z3 z4 z5 z6 hA1 hA2 hA3 hA4 hA5 hA6 hA7 hC1 hC2 hC3 hB3 hM1 hU7 hM2 hB7 hg2
 go_wp2_with fail
 refine HO1.out.mono ?_
 rintro e w8 ⟨v1, rfl, hend1⟩
 have hokA : pA.Ok := Prg.ok_of (by kernel_rfl)
 obtain ⟨ib1, ss1, hl1, hlk1, rfl, hinfo1, hib1, hu8⟩ := hend1.good hokA (by
  intro j hj
  obtain rfl : j = 0 := by have h : pA.ms.length = 1 := rfl; omega
  exact lookB_ok (by decide +kernel))
 have HVA : Hid (Vf pA ss1) := ⟨hokA, ⟨hl1, hlk1⟩, pA_bd⟩
 have HI8 := Lib.hid hinfo1
 have hB8 := hu8.heap HB7.out (by simp)
 have q0 : w8.cell? ⟨w.heap.size + 1 + 1 + 1 + 1 + 1 + 1, 0, none⟩ = some (.slice none 0 0) := by rw [cell_of hB8]; rfl
 have q1 : w8.cell? ⟨w.heap.size + 1 + 1 + 1 + 1 + 1 + 1, 1, none⟩ = some (.slice (some ⟨w.heap.size + 1 + 1 + 1 + 1 + 1, 0, none⟩) 2 2) := by rw [cell_of hB8]; rfl
 have HO2 := Lib.hid (ofV_any pB (.slice none 0 0) (.slice (some ⟨w.heap.size + 1 + 1 + 1 + 1 + 1, 0, none⟩) 2 2) E w8 (HS7.out.upd hu8) (class_nil _) (HM2.out.upd hu8))
 have HU8 := Lib.hid (HU7.out.trans hu8)
 clear hend1 hl1 hlk1 hinfo1 hib1 hu8 hB8 HB7 HO1 p0 p1 hokA
 go_wp2_with fail
 refine HO2.out.mono ?_
 rintro e w9 ⟨v2, rfl, hend2⟩
 have hokB : pB.Ok := Prg.ok_of (by kernel_rfl)
 obtain ⟨ib2, ss2, hl2, hlk2, rfl, hinfo2, hib2, hu9⟩ := hend2.good hokB (by
  intro j hj
  have : j = 0 ∨ j = 1 := by have h : pB.ms.length = 2 := rfl; omega
  rcases this with rfl | rfl <;> exact lookB_ok (by decide +kernel))
 have HVB : Hid (Vf pB ss2) := ⟨hokB, ⟨hl2, hlk2⟩, pB_bd⟩
 have HI9 := Lib.hid hinfo2
 have HU9 := Lib.hid (HU8.out.trans hu9)
 have HR1 := Lib.hid (mgo_any (HI8.out.upd hu9) HVA.out none 0 0 0 [] (lng_nil w9) (fun _ => rfl) (by simp) (by simp) 5 (by omega))
 rw [pA_run] at HR1
 clear hend2 hl2 hlk2 hinfo2 hib2 hu9 HO2 q0 q1 hokB HI8
 go_wp2_with fail
 refine HR1.out.mono ?_
 rintro e w10 ⟨q3, c3, he, ho10, hu10⟩
 have he2 : e = .returned (.tuple #[.agg #[.int .i64 2, .int .i64 5, .int .i64 0, .int .i64 2, .int .i64 0, .slice q3 0 c3], .nilIface]) := he
 subst he2
 clear he
 have hA11 := (Upd.refl [] w10).alloc (.cells #[.int .i64 2, .int .i64 5, .int .i64 0, .int .i64 2, .int .i64 0, .slice q3 0 c3] 25)
 have HO11 := Lib.hid (heap_alloc_new w10 (.cells #[.int .i64 2, .int .i64 5, .int .i64 0, .int .i64 2, .int .i64 0, .slice q3 0 c3] 25))
 have HOW := Lib.hid (ho10.ints)
 have HNEW := Lib.hid (mnew_any ((HI9.out.upd hu10).upd hA11) HVB.out none 0 0 0 [] (lng_nil _) (fun _ => rfl) (by simp) 3 (by omega))
 have HU11 := Lib.hid ((HU9.out.trans hu10).trans hA11)
 have HA11 := Lib.hid hA11
 clear ho10 hu10 hA11 HI9
 go_wp2_with fail
 go_upto_region 8 with fail
 generalize w10.alloc (.cells #[.int .i64 2, .int .i64 5, .int .i64 0, .int .i64 2, .int .i64 0, .slice q3 0 c3] 25) = w11 at HO11 HNEW HU11 HA11 ⊢
 obtain ⟨ab, hab⟩ : ∃ ab, w10.heap.size = ab := ⟨_, rfl⟩
 rw [hab] at HO11 ⊢
 clear hab
 go_wp2_with fail
 refine HNEW.out.mono ?_
 rintro e w12 ⟨B, U, R, mb, X, rfl, hlow, hm, hu12⟩
 have HLOW := Lib.hid hlow
 have HSUB := Lib.hid hm.sub
 have hab1 : ab < w11.heap.size := (Array.getElem?_eq_some_iff.1 HO11.out).1
 have HRUN := Lib.hid (mrun_any hm HVB.out (Mc.Ok.new HVB.out (by simp) (by omega)))
 rw [pB_run] at HRUN
 have HU12 := Lib.hid hu12
 clear hlow hm hu12
 go_wp2_with fail
 refine HRUN.out.mono ?_
 rintro e w13 ⟨q4, c4, he, _, ⟨U', R', X', hU', hm13⟩, hu13⟩
 have he2 : e = .returned (.agg #[.int .i64 3, .int .i64 0, .int .i64 1, .int .i64 0, .int .i64 0, .slice q4 0 c4]) := he
 subst he2
 clear he
 have h1113 : Upd [] w11 w13 := HU12.out.trans' hu13 (fun b hb hl => by have := HLOW.out b (HSUB.out b hb); omega)
 have hA14 := (Upd.refl [] w13).alloc (.cells #[.int .i64 3, .int .i64 0, .int .i64 1, .int .i64 0, .int .i64 0, .slice q4 0 c4] 25)
 have HO14 := Lib.hid (heap_alloc_new w13 (.cells #[.int .i64 3, .int .i64 0, .int .i64 1, .int .i64 0, .int .i64 0, .slice q4 0 c4] 25))
 have H1114 := Lib.hid (h1113.trans hA14)
 have HM14 := Lib.hid (hm13.new hA14)
 clear hu13 hm13 hU' h1113 hA14
 go_upto_region 12 with fail
 generalize w13.alloc (.cells #[.int .i64 3, .int .i64 0, .int .i64 1, .int .i64 0, .int .i64 0, .slice q4 0 c4] 25) = w14 at HO14 H1114 HM14 ⊢
 obtain ⟨bb, hbb⟩ : ∃ bb, w13.heap.size = bb := ⟨_, rfl⟩
 rw [hbb] at HO14 ⊢
 clear hbb
 have hab14 := H1114.out.heap HO11.out (by simp)
 have a0 : w14.cell? ⟨ab, 0, none⟩ = some (.int .i64 2) := by rw [cell_of hab14]; rfl
 have a1 : w14.cell? ⟨ab, 1, none⟩ = some (.int .i64 5) := by rw [cell_of hab14]; rfl
 have a2 : w14.cell? ⟨ab, 2, none⟩ = some (.int .i64 0) := by rw [cell_of hab14]; rfl
 have a3 : w14.cell? ⟨ab, 3, none⟩ = some (.int .i64 2) := by rw [cell_of hab14]; rfl
 have a4 : w14.cell? ⟨ab, 4, none⟩ = some (.int .i64 0) := by rw [cell_of hab14]; rfl
 have a5 : w14.cell? ⟨ab, 5, none⟩ = some (.slice q3 0 c3) := by rw [cell_of hab14]; rfl
 have HSO : Hid (Calls Tryd.prog 7 #[.agg #[.int .i64 2, .int .i64 5, .int .i64 0, .int .i64 2, .int .i64 0, .slice q3 0 c3], .agg #[.int .i64 2, .int .i64 5, .int .i64 0, .int .i64 2, .int .i64 0, .slice none 0 0]] w14 fun e w' => e = .returned (.bool true) ∧ Upd [] w14 w') := by
  obtain ⟨b, h1, _⟩ := HOW.out
  have h2 : IntsV w14 (.slice none 0 0) 0 [] := ⟨.inl ⟨rfl, rfl⟩, by simp⟩
  have h3 := souts_any (h1.upd (HA11.out.trans H1114.out) (by simp)) h2 (by simp) 2 5 0 2 0 2 5 0 2 0
  exact h3
 clear hab14
 go_wp2_with fail
 refine HSO.out.mono ?_
 rintro e w15 ⟨rfl, hu15⟩
 have hbb15 := hu15.heap HO14.out (by simp)
 have b0 : w15.cell? ⟨bb, 0, none⟩ = some (.int .i64 3) := by rw [cell_of hbb15]; rfl
 have b2 : w15.cell? ⟨bb, 2, none⟩ = some (.int .i64 1) := by rw [cell_of hbb15]; rfl
 have HFR := Lib.hid (mframes_any (HM14.out.new hu15) (by decide) (fun f hf => by
  simp only [List.mem_cons, List.not_mem_nil, or_false] at hf
  rcases hf with rfl | rfl | rfl | rfl <;> simp))
 have HU15 := Lib.hid ((HU11.out.trans H1114.out).trans hu15)
 clear hu15 hbb15 a0 a1 a2 a3 a4 a5
 go_wp2_with fail
 refine HFR.out.mono ?_
 rintro e w16 ⟨v, gs, rfl, hfv, hu16⟩
 obtain ⟨fq, fcq, rfl⟩ : ∃ fq fcq, v = .slice fq 4 fcq := by
  rcases hfv.own.2 with ⟨h1, h2⟩ | ⟨g, c, cur, h1, _⟩
  ·cases h2
  ·exact ⟨_, c, h1⟩
 have HU16 := Lib.hid (HU15.out.trans hu16)
 clear hfv hu16
 go_wp2_with fail
 go_ret
 exact ⟨rfl, HU16.out⟩
end Go.Proofs.YtojobkhidlfeoaaDoor
