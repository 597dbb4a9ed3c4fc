/- ModelEchoes: the law. -/
import Derived.Test.YtojobkhidlfeoaaDoorMdC
import Derived.Test.YtojobkhidlfeoaaDoorMwX
import Derived.Test.YtojobkhidlfeoaaDoorFirst9
import Derived.Test.YtojobkhidlfeoaaDoorSoW
namespace Go.Proofs.YtojobkhidlfeoaaDoor
open Go.RowKit

set_option maxRecDepth 100000 in
set_option maxHeartbeats 4000000 in
theorem echW_any (E : Nat → Addr) (iv : Value) (xs : List Int) (n0 : Int) (w : World) (hS : SentAt w E) (hx : LongsAt w iv xs) :
  Calls Tryd.prog 3 #[iv, .int .i64 n0] w fun e w' => e = .returned (.bool true) ∧ Upd [] w w' := by
 have HF := Lib.hid (first9_any E w hS)
 have HS := Lib.hid hS
 obtain ⟨ip, ic, rfl, hip, hin2, ib0, io, hlng⟩ := hx
 have hcap : xs.length ≤ ic ∧ ic ≤ maxLen := by
  obtain ⟨⟨_, _, h1, h2, h3, _⟩, _⟩ := hlng
  injection h1 with _ _ e3
  subst e3
  exact ⟨h2, h3⟩
 have HIP := Lib.hid hip
 have HIN2 := Lib.hid hin2
 have HLNG := Lib.hid hlng
 have hm1 : -120 < n0.tmod 120 ∧ n0.tmod 120 < 120 := by
  have h1 := Int.tmod_lt_of_pos n0 (show (0 : Int) < 120 by omega)
  have h2 := Int.lt_tmod_of_pos n0 (show (0 : Int) < 120 by omega)
  omega
 have s1 : IntKind.i64.wrap (n0.tmod 120 + 120) = n0.tmod 120 + 120 := IntWalk.i64_in _ (by omega)
 obtain ⟨k, hk⟩ : ∃ k : Nat, (n0.tmod 120 + 120).tmod 120 = (k : Int) := by
  have := Int.tmod_nonneg 120 (show 0 ≤ n0.tmod 120 + 120 by omega)
  exact ⟨((n0.tmod 120 + 120).tmod 120).toNat, by omega⟩
 have hk2 : k < 120 := by
  have := Int.tmod_lt_of_pos (n0.tmod 120 + 120) (show (0 : Int) < 120 by omega)
  omega
 have HCAP := Lib.hid hcap
 have HK2 := Lib.hid hk2
 clear hS hip hin2 hlng hm1 hcap
 go_enter Tryd.func3, Tryd.ntmps3
 go_wp2_with fail
 refine HF.out.mono ?_
 rintro e w1 ⟨rfl, hu1⟩
 have HU1 := Lib.hid hu1
 have HSW := Lib.hid (HS.out.upd hu1)
 have HL1 := Lib.hid (HLNG.out.upd hu1 (.inr (by simp)))
 clear hu1 HF
 by_cases hlen : 100 < xs.length
 ·have d1 : decide ((xs.length : Int) > 100) = true := decide_eq_true (by omega)
  have d2 : decide (100 < xs.length) = true := decide_eq_true hlen
  clear s1 hk
  go_wp2_with fail
  go_ret
  exact ⟨rfl, HU1.out⟩
 have d1 : decide ((xs.length : Int) > 100) = false := decide_eq_false (by omega)
 have d2 : decide (100 < xs.length) = false := decide_eq_false hlen
 have hC := code_lit w1 [⟨34, 0, 0, 0⟩, ⟨35, 0, 0, 0⟩, ⟨22, 0, 0, 0⟩] (by simp) (fun i hi => by
  have h4 : i = 0 ∨ i = 1 ∨ i = 2 := by have h : i < 3 := hi; omega
  rcases h4 with rfl | rfl | rfl <;> exact ins_bd (by omega) in_0)
 have hC2 : CodeAt (w1.alloc (.cells #[.int .i64 34, .int .i64 0, .int .i64 0, .int .i64 0, .int .i64 35, .int .i64 0, .int .i64 0, .int .i64 0, .int .i64 22, .int .i64 0, .int .i64 0, .int .i64 0] 29)) (.slice (some ⟨w1.heap.size, 0, none⟩) 3 3) [⟨34, 0, 0, 0⟩, ⟨35, 0, 0, 0⟩, ⟨22, 0, 0, 0⟩] := hC
 have hML := meths_lit (w1.alloc (.cells #[.int .i64 34, .int .i64 0, .int .i64 0, .int .i64 0, .int .i64 35, .int .i64 0, .int .i64 0, .int .i64 0, .int .i64 22, .int .i64 0, .int .i64 0, .int .i64 0] 29)) echoP.ms [.slice (some ⟨w1.heap.size, 0, none⟩) 3 3] rfl (by simp [echoP]) (fun i hi => by
  obtain rfl : i = 0 := by simpa [echoP] using hi
  exact ⟨by show (0 : Nat) ≤ _; omega, by show (0 : Nat) ≤ _; omega, by show (0 : Nat) ≤ _; omega⟩) (fun i hi => by
  obtain rfl : i = 0 := by simpa [echoP] using hi
  exact hC2)
 have hsz : (w1.alloc (.cells #[.int .i64 34, .int .i64 0, .int .i64 0, .int .i64 0, .int .i64 35, .int .i64 0, .int .i64 0, .int .i64 0, .int .i64 22, .int .i64 0, .int .i64 0, .int .i64 0] 29)).heap.size = w1.heap.size + 1 := by simp
 rw [hsz] at hML
 have hML2 : MethsAt ((w1.alloc (.cells #[.int .i64 34, .int .i64 0, .int .i64 0, .int .i64 0, .int .i64 35, .int .i64 0, .int .i64 0, .int .i64 0, .int .i64 22, .int .i64 0, .int .i64 0, .int .i64 0] 29)).alloc (.cells #[.string ⟨#[]⟩, .string ⟨#[]⟩, .string ⟨#[]⟩, .slice (some ⟨w1.heap.size, 0, none⟩) 3 3] 32)) (.slice (some ⟨w1.heap.size + 1, 0, none⟩) 1 1) echoP.ms := hML
 have hua := ((Upd.refl [] w1).alloc (.cells #[.int .i64 34, .int .i64 0, .int .i64 0, .int .i64 0, .int .i64 35, .int .i64 0, .int .i64 0, .int .i64 0, .int .i64 22, .int .i64 0, .int .i64 0, .int .i64 0] 29)).alloc (.cells #[.string ⟨#[]⟩, .string ⟨#[]⟩, .string ⟨#[]⟩, .slice (some ⟨w1.heap.size, 0, none⟩) 3 3] 32)
 have hrun := echo_run xs k HIN2.out (by omega)
 have HRUN := Lib.hid (mlaw_run echoP (.slice none 0 0) (.slice (some ⟨w1.heap.size + 1, 0, none⟩) 1 1) E _ (HSW.out.upd hua) (class_nil _) hML2 echoP_ok.ok (fun j hj => ⟨_, echoP_ok.look.look j hj⟩) echoP_ok.bd ip ic ib0 io xs (HL1.out.upd hua (.inr (by simp))) HIP.out (by omega) HIN2.out k (by omega))
 have HUA := Lib.hid (HU1.out.trans hua)
 have HUA1 := Lib.hid hua
 obtain ⟨TT, hTT⟩ : ∃ TT, (Mc.new echoP xs k).run echoP = TT := ⟨_, rfl⟩
 rw [hTT] at HRUN hrun
 have HR := Lib.hid hrun
 clear hC hC2 hML hML2 hua hsz hrun hTT
 go_wp2_with fail
 refine HRUN.out.mono ?_
 rintro e w7 ⟨q, vc, he, ho7, hu7⟩
 obtain ⟨fk, ft, fm, fp, fv, hF⟩ : ∃ fk ft fm fp fv, TT.fin.getD ⟨0, 0, 0, 0, 0⟩ = ⟨fk, ft, fm, fp, fv⟩ := ⟨_, _, _, _, _, rfl⟩
 unfold outcells at he
 rw [hF] at he
 have he2 : e = .returned (.tuple #[.agg #[.int .i64 fk, .int .i64 ft, .int .i64 fm, .int .i64 fp, .int .i64 fv, .slice q TT.out.length vc], .bool true]) := he
 subst he2
 clear he
 obtain ⟨qb, hq, _⟩ := OwnI.ints ho7
 have hu8 := (Upd.refl [] w7).alloc (.cells #[.int .i64 fk, .int .i64 ft, .int .i64 fm, .int .i64 fp, .int .i64 fv, .slice q TT.out.length vc] 25)
 have HO8 := Lib.hid (heap_alloc_new w7 (.cells #[.int .i64 fk, .int .i64 ft, .int .i64 fm, .int .i64 fp, .int .i64 fv, .slice q TT.out.length vc] 25))
 have HQ8 := Lib.hid (hq.upd hu8 (by simp)).wide
 have HU8 := Lib.hid ((HUA.out.trans hu7).trans hu8)
 have HL8 := Lib.hid (HL1.out.upd (HUA1.out.trans (hu7.trans hu8)) (.inr (by simp))).wide
 have HFF := Lib.hid hF
 clear ho7 hu7 hu8 hq hF HRUN
 go_upto_region 8 with fail
 generalize w7.alloc (.cells #[.int .i64 fk, .int .i64 ft, .int .i64 fm, .int .i64 fp, .int .i64 fv, .slice q TT.out.length vc] 25) = w8 at HO8 HQ8 HU8 HL8 ⊢
 obtain ⟨rb, hrb⟩ : ∃ rb, w7.heap.size = rb := ⟨_, rfl⟩
 rw [hrb] at HO8 ⊢
 clear hrb
 have c0 : w8.cell? ⟨rb, 0, none⟩ = some (.int .i64 fk) := by rw [cell_of HO8.out]; rfl
 have c1 : w8.cell? ⟨rb, 1, none⟩ = some (.int .i64 ft) := by rw [cell_of HO8.out]; rfl
 have c2 : w8.cell? ⟨rb, 2, none⟩ = some (.int .i64 fm) := by rw [cell_of HO8.out]; rfl
 have c3 : w8.cell? ⟨rb, 3, none⟩ = some (.int .i64 fp) := by rw [cell_of HO8.out]; rfl
 have c4 : w8.cell? ⟨rb, 4, none⟩ = some (.int .i64 fv) := by rw [cell_of HO8.out]; rfl
 have c5 : w8.cell? ⟨rb, 5, none⟩ = some (.slice q TT.out.length vc) := by rw [cell_of HO8.out]; rfl
 by_cases hlt : k < xs.length
 ·obtain ⟨r1, r2⟩ := HR.out.1 hlt
  have hff := HFF.out
  rw [r1] at hff
  injection hff with e1 e2 e3 e4 e5
  have hle : xs.length ≤ ic ∧ ic ≤ maxLen := HCAP.out
  have HSO : Hid (Calls Tryd.prog 7 #[.agg #[.int .i64 fk, .int .i64 ft, .int .i64 fm, .int .i64 fp, .int .i64 fv, .slice q TT.out.length vc], .agg #[.int .i64 3, .int .i64 0, .int .i64 0, .int .i64 2, .int .i64 0, .slice ip (k + 1) ic]] w8.drew fun e w' => e = .returned (.bool true) ∧ Upd [] w8.drew w') := by
   have h3 := soutsW (HQ8.out.upd (Upd.refl [] _).drew) ((HL8.out.upd (Upd.refl [] _).drew).take (k + 1) ic (by omega)) (by rw [r2]; simp; omega) fk ft fm fp fv 3 0 0 2 0
   rw [decide_eq_true (p := fk = 3 ∧ ft = 0 ∧ fm = 0 ∧ fp = 2 ∧ fv = 0 ∧ TT.out = xs.take (k + 1)) ⟨e1.symm, e2.symm, e3.symm, e4.symm, e5.symm, r2⟩] at h3
   have e6 : (xs.take (k + 1)).length = k + 1 := by rw [List.length_take]; omega
   exact h3
  have d3 : decide ((k : Int) < (xs.length : Int)) = true := decide_eq_true (by omega)
  have d4 : decide (k < xs.length) = true := decide_eq_true hlt
  have s2 : IntKind.i64.wrap ((k : Int) + 1) = (k : Int) + 1 := IntWalk.i64_in _ (by omega)
  have f1 : k + 1 ≤ ic := by omega
  have f2 : (k : Int) + 1 ≤ (ic : Int) := by omega
  have f3 : (0 : Int) ≤ (k : Int) + 1 := by omega
  have f4 : ((k : Int) + 1).toNat = k + 1 := by omega
  have hipx : ∃ b0 o0, ip = some ⟨b0, o0, none⟩ := by
   obtain ⟨b0, o0, h1, _⟩ := HL8.out.nth k hlt
   exact ⟨b0, o0, h1⟩
  obtain ⟨b0, o0, hipe⟩ := hipx
  subst hipe
  clear e1 e2 e3 e4 e5 r1 r2 hle d1 d2 s1 hk
  go_upto_region 9 with fail
  go_region_held3 (fun w' => w'.cell? ⟨rb, 0, none⟩ = some (.int .i64 fk) ∧ w'.cell? ⟨rb, 1, none⟩ = some (.int .i64 ft) ∧ w'.cell? ⟨rb, 2, none⟩ = some (.int .i64 fm) ∧ w'.cell? ⟨rb, 3, none⟩ = some (.int .i64 fp) ∧ w'.cell? ⟨rb, 4, none⟩ = some (.int .i64 fv) ∧ w'.cell? ⟨rb, 5, none⟩ = some (.slice q TT.out.length vc)) ((first | exact ⟨c0, c1, c2, c3, c4, c5⟩ | exact ⟨x0, x1, x2, x3, x4, x5⟩)) ((go_at_call 7; refine HSO.out.mono ?_; rintro e w9 ⟨rfl, hu9⟩; have HO9 := hu9.heap (show w8.drew.heap[rb]? = _ from HO8.out) (by simp); have x0 : w9.cell? ⟨rb, 0, none⟩ = some (.int .i64 fk) := (by rw [cell_of HO9]; rfl); have x1 : w9.cell? ⟨rb, 1, none⟩ = some (.int .i64 ft) := (by rw [cell_of HO9]; rfl); have x2 : w9.cell? ⟨rb, 2, none⟩ = some (.int .i64 fm) := (by rw [cell_of HO9]; rfl); have x3 : w9.cell? ⟨rb, 3, none⟩ = some (.int .i64 fp) := (by rw [cell_of HO9]; rfl); have x4 : w9.cell? ⟨rb, 4, none⟩ = some (.int .i64 fv) := (by rw [cell_of HO9]; rfl); have x5 : w9.cell? ⟨rb, 5, none⟩ = some (.slice q TT.out.length vc) := (by rw [cell_of HO9]; rfl); have HU9 := Lib.hid (HU8.out.trans ((Upd.refl [] w8).drew.trans hu9)); clear hu9 HO9))
  go_wp2_with fail
  go_ret
  exact ⟨rfl, HU9.out⟩
 ·obtain ⟨r1, r2⟩ := HR.out.2 (by omega)
  have hff := HFF.out
  rw [r1] at hff
  injection hff with e1 e2 e3 e4 e5
  have HSO : Hid (Calls Tryd.prog 7 #[.agg #[.int .i64 fk, .int .i64 ft, .int .i64 fm, .int .i64 fp, .int .i64 fv, .slice q TT.out.length vc], .agg #[.int .i64 2, .int .i64 6, .int .i64 0, .int .i64 0, .int .i64 0, .slice ip xs.length ic]] w8 fun e w' => e = .returned (.bool true) ∧ Upd [] w8 w') := by
   have h3 := soutsW HQ8.out HL8.out (by rw [r2]; omega) fk ft fm fp fv 2 6 0 0 0
   rw [decide_eq_true (p := fk = 2 ∧ ft = 6 ∧ fm = 0 ∧ fp = 0 ∧ fv = 0 ∧ TT.out = xs) ⟨e1.symm, e2.symm, e3.symm, e4.symm, e5.symm, r2⟩] at h3
   exact h3
  have d3 : decide ((k : Int) < (xs.length : Int)) = false := decide_eq_false (by omega)
  have d4 : decide (k < xs.length) = false := decide_eq_false hlt
  clear e1 e2 e3 e4 e5 r1 r2 d1 d2 s1 hk
  go_wp2_with fail
  refine HSO.out.mono ?_
  rintro e w9 ⟨rfl, hu9⟩
  have HU9 := Lib.hid (HU8.out.trans hu9)
  clear hu9
  go_wp2_with fail
  go_ret
  exact ⟨rfl, HU9.out⟩
end Go.Proofs.YtojobkhidlfeoaaDoor
