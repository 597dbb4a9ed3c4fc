/- overdrivelaw7.first. -/
import Derived.Test.YtpkdijbmomkdeaaGreatDoorFirstL
import Derived.Test.YtpkdijbmomkdeaaGreatDoorSeeW
import Derived.Test.YtpkdijbmomkdeaaGreatDoorAtW
import Derived.Test.YtpkdijbmomkdeaaGreatDoorMostW
namespace Go.Proofs.YtpkdijbmomkdeaaGreatDoor
open Go.RowKit

theorem bd_small {a b c d : Int} (h : -1000 ≤ a ∧ a ≤ 1000 ∧ -1000 ≤ b ∧ b ≤ 1000 ∧ -1000 ≤ c ∧ c ≤ 1000 ∧ -1000 ≤ d ∧ d ≤ 1000) : (⟨a, b, c, d⟩ : Ins).bd := by
  simp only [Ins.bd]
  omega

set_option maxRecDepth 100000 in
set_option maxHeartbeats 4000000 in
theorem first7_any (E : Nat → Addr) (w : World) (hS : SentAll w E) :
    Calls Tryz.prog 4 #[] w fun e w' => e = .returned (.bool true) ∧ Upd [] w w' := by
  have hA1 := (Upd.refl [] w).alloc (.cells (xcells f1.code).toArray 60)
  have hC1 := code_lit w f1.code (by decide) (fun i hi => by
    have : i = 0 ∨ i = 1 := by have h : f1.code.length = 2 := rfl; omega
    rcases this with rfl | rfl <;> exact bd_small (by decide))
  generalize hw1 : w.alloc (.cells (xcells f1.code).toArray 60) = w1 at hA1 hC1
  have hM1 := meths_lit w1 [f1] [.slice (some ⟨w.heap.size, 0, none⟩) 2 2] rfl (by decide) (fun i hi => by
    obtain rfl : i = 0 := by simpa using hi
    exact ⟨by decide, by decide, by decide⟩) (fun i hi => by
    obtain rfl : i = 0 := by simpa using hi
    exact hC1)
  have hA2 := hA1.alloc (.cells (mcells [f1] [.slice (some ⟨w.heap.size, 0, none⟩) 2 2]).toArray 52)
  generalize hw2 : w1.alloc (.cells (mcells [f1] [.slice (some ⟨w.heap.size, 0, none⟩) 2 2]).toArray 52) = w2 at hA2 hM1
  have hA3 := hA2.alloc (.cells #[.slice none 0 0, .slice (some ⟨w1.heap.size, 0, none⟩) 1 1] 25)
  have hB3 := heap_alloc_new w2 (.cells #[.slice none 0 0, .slice (some ⟨w1.heap.size, 0, none⟩) 1 1] 25)
  have hM1 := hM1.upd ((Upd.refl [] w2).alloc (.cells #[.slice none 0 0, .slice (some ⟨w1.heap.size, 0, none⟩) 1 1] 25))
  generalize hw3 : w2.alloc (.cells #[.slice none 0 0, .slice (some ⟨w1.heap.size, 0, none⟩) 1 1] 25) = w3 at hA3 hB3 hM1
  have hA4 := (Upd.refl [] w3).alloc (.cells (xcells f2.code).toArray 60)
  have hC2 := code_lit w3 f2.code (by decide) (fun i hi => by
    have : i = 0 ∨ i = 1 ∨ i = 2 ∨ i = 3 := by have h : f2.code.length = 4 := rfl; omega
    rcases this with rfl | rfl | rfl | rfl <;> exact bd_small (by decide))
  generalize hw4 : w3.alloc (.cells (xcells f2.code).toArray 60) = w4 at hA4 hC2
  have hM2 := meths_lit w4 [f2] [.slice (some ⟨w3.heap.size, 0, none⟩) 4 4] rfl (by decide) (fun i hi => by
    obtain rfl : i = 0 := by simpa using hi
    exact ⟨by decide, by decide, by decide⟩) (fun i hi => by
    obtain rfl : i = 0 := by simpa using hi
    exact hC2)
  have hA5 := hA4.alloc (.cells (mcells [f2] [.slice (some ⟨w3.heap.size, 0, none⟩) 4 4]).toArray 52)
  generalize hw5 : w4.alloc (.cells (mcells [f2] [.slice (some ⟨w3.heap.size, 0, none⟩) 4 4]).toArray 52) = w5 at hA5 hM2
  have hA6 := hA5.alloc (.cells #[.slice none 0 0, .slice (some ⟨w4.heap.size, 0, none⟩) 1 1] 25)
  have hB6 := heap_alloc_new w5 (.cells #[.slice none 0 0, .slice (some ⟨w4.heap.size, 0, none⟩) 1 1] 25)
  have hM2 := hM2.upd ((Upd.refl [] w5).alloc (.cells #[.slice none 0 0, .slice (some ⟨w4.heap.size, 0, none⟩) 1 1] 25))
  generalize hw6 : w5.alloc (.cells #[.slice none 0 0, .slice (some ⟨w4.heap.size, 0, none⟩) 1 1] 25) = w6 at hA6 hB6 hM2
  have hB3 := hA6.heap hB3 (by simp)
  have hM1 := hM1.upd hA6
  have hU6 := hA3.trans hA6
  have z1 : w1.heap.size = w.heap.size + 1 := by rw [← hw1]; simp
  have z2 : w2.heap.size = w.heap.size + 1 + 1 := by rw [← hw2]; simp [z1]
  have z3 : w3.heap.size = w.heap.size + 1 + 1 + 1 := by rw [← hw3]; simp [z2]
  have z4 : w4.heap.size = w.heap.size + 1 + 1 + 1 + 1 := by rw [← hw4]; simp [z3]
  have z5 : w5.heap.size = w.heap.size + 1 + 1 + 1 + 1 + 1 := by rw [← hw5]; simp [z4]
  have hW6 : w6 = (((((w.alloc (.cells #[.int .i64 1, .int .i64 0, .int .i64 0, .int .i64 1, .int .i64 33, .int .i64 0, .int .i64 0, .int .i64 0] 60)).alloc (.cells #[.string ⟨#[]⟩, .string ⟨#[]⟩, .string ⟨#[]⟩, .slice (some ⟨w.heap.size, 0, none⟩) 2 2] 52)).alloc (.cells #[.slice none 0 0, .slice (some ⟨w.heap.size + 1, 0, none⟩) 1 1] 25)).alloc
      (.cells #[.int .i64 1, .int .i64 0, .int .i64 0, .int .i64 1, .int .i64 5, .int .i64 0, .int .i64 0, .int .i64 0, .int .i64 8, .int .i64 0, .int .i64 0, .int .i64 0, .int .i64 33, .int .i64 0, .int .i64 0, .int .i64 0] 60)).alloc (.cells #[.string ⟨#[]⟩, .string ⟨#[]⟩, .string ⟨#[73]⟩, .slice (some ⟨w.heap.size + 1 + 1 + 1, 0, none⟩) 4 4] 52)).alloc (.cells #[.slice none 0 0, .slice (some ⟨w.heap.size + 1 + 1 + 1 + 1, 0, none⟩) 1 1] 25) := by
    rw [← hw6, z4, ← hw5, z3, ← hw4, ← hw3, z1, ← hw2, ← hw1]
    rfl
  go_enter Tryz.func4, Tryz.ntmps4
  go_upto_region 3 with fail
  rw [← hW6]
  rw [z1] at hB3 hM1
  rw [z4] at hB6 hM2
  rw [z2] at hB3
  rw [z5] at hB6
  have HS6 := hS.upd hU6
  have HU6 := Lib.hid hU6
  have HM2 := Lib.hid hM2
  have HB6 := Lib.hid hB6
  have p0 : w6.cell? ⟨w.heap.size + 1 + 1, 0, none⟩ = some (.slice none 0 0) := by rw [cell_of hB3]; rfl
  have p1 : w6.cell? ⟨w.heap.size + 1 + 1, 1, none⟩ = some (.slice (some ⟨w.heap.size + 1, 0, none⟩) 1 1) := by rw [cell_of hB3]; rfl
  have HO1 := Lib.hid (ofV_any ⟨[], [f1]⟩ (.slice none 0 0) (.slice (some ⟨w.heap.size + 1, 0, none⟩) 1 1) E w6 HS6 (class_nil _) hM1)
  have HS6 := Lib.hid HS6
  clear hW6 hw1 hw2 hw3 hw4 hw5 hw6 z1 z2 z3 z4 z5 hA1 hA2 hA3 hA4 hA5 hA6 hC1 hC2 hB3 hM1 hU6 hM2 hB6
  go_wp2_with fail
  refine HO1.out.mono ?_
  rintro e w7 ⟨v1, rfl, hend1⟩
  obtain ⟨ev, rfl, herr, hu7⟩ := hend1.bad f1_ok (k := 0) (c := 108) (pc := 1) (by decide) (by intro j hj; omega) f1_look
  have HERR := Lib.hid herr
  have hB7 := hu7.heap HB6.out (by simp)
  have q0 : w7.cell? ⟨w.heap.size + 1 + 1 + 1 + 1 + 1, 0, none⟩ = some (.slice none 0 0) := by rw [cell_of hB7]; rfl
  have q1 : w7.cell? ⟨w.heap.size + 1 + 1 + 1 + 1 + 1, 1, none⟩ = some (.slice (some ⟨w.heap.size + 1 + 1 + 1 + 1, 0, none⟩) 1 1) := by rw [cell_of hB7]; rfl
  have HO2 := Lib.hid (ofV_any ⟨[], [f2]⟩ (.slice none 0 0) (.slice (some ⟨w.heap.size + 1 + 1 + 1 + 1, 0, none⟩) 1 1) E w7 (HS6.out.upd hu7) (class_nil _) (HM2.out.upd hu7))
  have HU7 := Lib.hid (HU6.out.trans hu7)
  have HS7 := Lib.hid (HS6.out.upd hu7)
  obtain ⟨tz, tp, rfl⟩ : ∃ tz tp, ev = .iface tz (.pointer tp) := by
    rcases herr.2 with ⟨h, _⟩ | ⟨_, _, _, _, _, h, _⟩
    · cases h
    · exact ⟨_, _, h⟩
  clear hend1 herr hu7 hB7 HB6 HO1 HU6 HS6 p0 p1
  go_wp2_with fail
  refine HO2.out.mono ?_
  rintro e w8 ⟨v2, rfl, hend2⟩
  obtain ⟨ib, ss, hl, hlk, rfl, hinfo, hib, hu8⟩ := hend2.good f2_ok (by
    intro j hj
    obtain rfl : j = 0 := by simpa using hj
    obtain ⟨s, hs, _⟩ := f2_look
    exact ⟨s, hs⟩)
  obtain ⟨s2, hs2, hseen, hstk, hmost⟩ := f2_look
  have hss : ss.getD 0 default = s2 := by
    have h := hlk 0 (by simp)
    have h2 : lookM ⟨[], [f2]⟩ f2 = .ok (ss.getD 0 default) := h
    rw [hs2] at h2
    injection h2 with h2
    exact h2.symm
  have HI8 := Lib.hid hinfo
  have HL := Lib.hid hl
  have HER8 := Lib.hid (HERR.out.upd hu8)
  have HU8 := Lib.hid (HU7.out.trans hu8)
  have HS8 := Lib.hid (HS7.out.upd hu8)
  have HIB := Lib.hid (Nat.le_trans HU7.out.size hib)
  have HSS := Lib.hid hss
  have HAT : Hid (atV s2 4 2 = .tuple #[.string (bs [73, 73]), .bool true]) := by
    show _ = _
    unfold atV
    rw [if_pos ⟨by omega, by omega, hseen⟩]
    show Value.tuple #[.string (bs (s2.stk.getD 2 [])), .bool true] = _
    rw [hstk]
  have HMO := Lib.hid hmost
  have HST := Lib.hid (stack_in ib ⟨[], [f2]⟩ ss 0 0 2 w8 hinfo hl (by simp) (by decide) (by omega) (by omega))
  clear hend2 hinfo hib hu8 hlk hseen hstk hmost hss hs2 HERR HU7 HS7 HO2 q0 q1
  go_wp2_with fail
  refine HST.out.mono ?_
  rintro e w9 ⟨rfl, hi9, hu9⟩
  rw [show (([f2] : List Meth).getD 0 default).code.length = 4 from rfl, HSS.out, HAT.out]
  have HI9 := Lib.hid hi9
  have HU9 := Lib.hid (HU8.out.trans' hu9 (fun k hk hl => by simp at hk; have := HIB.out; omega))
  have HS9 : Hid (SentAll w9 E) := hS.upd HU9.out
  have HER9 : Hid (ErrV w9 E (.iface tz (.pointer tp)) 108 [(0 : Nat), (1 : Nat)]) := by
    refine ⟨HER8.out.1, ?_⟩
    rcases HER8.out.2 with h | ⟨b, x, y, h1, h2, h3, h4⟩
    · exact .inl h
    · refine .inr ⟨b, x, y, h1, h2, h3, hu9.heap h4 ?_⟩
      rw [List.mem_singleton]
      rintro rfl
      obtain ⟨_, _, _, hb, _⟩ := HI8.out
      rw [hb] at h4
      simp at h4
  clear hi9 hu9 HST
  go_wp2_with fail
  refine (there_fault 108 0 1 _).mono ?_
  rintro e w10 ⟨fb, rfl, hfi, hu10, _⟩
  have HI10 := Lib.hid (HI9.out.upd hu10)
  have HU10 := Lib.hid (HU9.out.trans hu10)
  have HSM := Lib.hid (same_any E (.iface tz (.pointer tp)) 108 108 [((0 : Nat) : Int), ((1 : Nat) : Int)] [0, 1] _ fb w10 (HS9.out.upd hu10) (HER9.out.upd hu10) hfi (by simp) (by simp))
  rw [decide_eq_true (⟨rfl, rfl⟩ : (108 : Int) = 108 ∧ [((0 : Nat) : Int), ((1 : Nat) : Int)] = [0, 1])] at HSM
  clear hu10 hfi
  go_wp2_with fail
  refine HSM.out.mono ?_
  rintro e w11 ⟨rfl, hu11⟩
  have HI11 := Lib.hid (HI10.out.upd hu11)
  have HU11 := Lib.hid (HU10.out.trans hu11)
  have HMS := Lib.hid (most_in ib ⟨[], [f2]⟩ ss 1 0 w11 HI11.out HL.out (by simp) (by omega) (by omega))
  rw [HSS.out, HMO.out] at HMS
  clear hu11
  have hbb : ((bs [73, 73]).toList == [73, 73]) = true := by rw [bs_list]; rfl
  generalize bs [73, 73] = tv at hbb ⊢
  go_wp2_with fail
  refine HMS.out.mono ?_
  rintro e w12 ⟨rfl, hi12, hu12⟩
  have HI12 := Lib.hid hi12
  have HU12 := Lib.hid (HU11.out.trans' hu12 (fun k hk hl => by simp at hk; have := HIB.out; omega))
  have HWD := Lib.hid (words_in ib ⟨[], [f2]⟩ ss 2 0 w12 hi12 HL.out (by simp) (by decide) (by decide) (by decide) (by rw [HSS.out, HMO.out]; omega) (by omega) (by omega))
  rw [HSS.out, HMO.out] at HWD
  clear hi12 hu12
  go_wp2_with fail
  refine HWD.out.mono ?_
  rintro e w13 ⟨rfl, hi13, hu13⟩
  have HU13 := Lib.hid (HU12.out.trans' hu13 (fun k hk hl => by simp at hk; have := HIB.out; omega))
  rw [show (4 + (((([f2] : List Meth).getD 0 default).params.size + (([f2] : List Meth).getD 0 default).locals.size : Nat) : Int) + ((2 : Nat) : Int)) = 6 from rfl]
  clear hi13 hu13
  go_wp2_with fail
  go_ret
  exact ⟨rfl, HU13.out⟩
end Go.Proofs.YtpkdijbmomkdeaaGreatDoor
