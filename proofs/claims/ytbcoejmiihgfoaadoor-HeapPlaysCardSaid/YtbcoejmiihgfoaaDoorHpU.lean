/- HeapPlays: kind 3, and any other: a value is put. -/
import Derived.Test.YtbcoejmiihgfoaaDoorHpP
import Derived.Test.YtbcoejmiihgfoaaDoorHpR
import Derived.Test.YtbcoejmiihgfoaaDoorHpS
import Derived.Test.YtbcoejmiihgfoaaDoorHpV
import Derived.Test.YtbcoejmiihgfoaaDoorHpG
/-! HeapPlays: kind 3, and any other: a value is put. -/
namespace Go.Proofs.YtbcoejmiihgfoaaDoor
open Go.RowKit

set_option maxRecDepth 1000000 in
set_option maxHeartbeats 16000000 in
theorem hkind3 {w0 : World} {B ub pb nl lc i db dof : Nat} {L : HL} {hv hmv mv : Value} {p : Prg} {cp : Option Addr} {cc : Nat} {lim nur half ask at_ : Int} {S : Hp} {ov rv yv tv : Value} {ps : List OP} {rs : List Int} {ys : List Bool} {ts : List Int} {u0 u1 : Int} {wd : World} {kd da dby dn dv : Int} {f : Nat → Value} {J K' : Act → World → Prop} {Q' : Exit → Act → World → Prop}
  (hC : HpC w0 p cp cc mv pb lim nur half) (hM : HpW w0 wd B ub L hv hmv S ov rv yv tv ps rs ys ts u0 u1) (hT : HpT S ps rs ys ts u0 u1 nur half p.cs i) (hi : i < nl) (hn : nl ≤ 60) (hkd : kd ≠ 1 ∧ kd ≠ 2) (hd : DoIn wd db (dof + i * 5) ⟨kd, da, dby, dn, dv⟩) (hbv : -9223372036854775808 ≤ dv ∧ dv ≤ 9223372036854775807)
  (hJ : ∀ a' w', HpR w0 B L hv hmv p lim nur (some ⟨db, dof, none⟩) nl lc ask at_ pb ub half i a' w' → J a' w') (hK : ∀ a' w', Go.Met J a' w' → K' a' w') :
  (hpB 1).wp Tryd.prog (Exit.then K' Q') (hpF lim nur (some ⟨db, dof, none⟩) nl lc ask at_ pb L.hb ub half ov rv yv tv (.int .i64 i) f) wd := by
 obtain ⟨d0, d1, d2, d3, d4⟩ := hd
 simp only at d0 d1 d2 d3 d4
 have g1 : (kd == 1) = false := beq_eq_false_iff_ne.2 hkd.1
 have g2 : (kd == 2) = false := beq_eq_false_iff_ne.2 hkd.2
 have HC := Lib.hid hC
 have HJ := Lib.hid hJ
 have HK := Lib.hid hK
 have hUD := (Upd.refl [] wd).alloc (.cells #[.int .i64 kd, .int .i64 da, .int .i64 dby, .int .i64 dn, .int .i64 dv] 45)
 have HM := Lib.hid (hM.same hUD)
 have HT := Lib.hid hT
 have HX := Lib.hid (heap_alloc_new wd (.cells #[.int .i64 kd, .int .i64 da, .int .i64 dby, .int .i64 dn, .int .i64 dv] 45))
 have HXB : Hid (B ≤ wd.heap.size) := hM.bw
 have hfew := hT.few
 have hpl : ps.length ≤ 60 := by have := hT.len; omega
 clear hC hM hJ hT hUD hK hkd
 unfold hpF
 conv => arg 2; whnf
 obtain ⟨pr, cr, hrv⟩ := own_shape HM.out.refs
 by_cases hr0 : rs.length = 0
 ·have e1 : ((rs.length : Int) == 0) = true := beq_iff_eq.2 (by omega)
  subst hrv
  clear hr0
  as_aux_lemma =>
   go_wp2_with fail
   exact HK.out _ _ (Go.Met.intro (HJ.out _ _ ⟨_, _, _, _, _, _, _, _, _, _, _, HM.out, HT.out.mono (by omega), hpF_eq (by kernel_rfl)⟩))
 have e1 : ((rs.length : Int) == 0) = false := beq_eq_false_iff_ne.2 (by omega)
 obtain ⟨k, hk⟩ := Int.eq_ofNat_of_zero_le (Int.emod_nonneg da (show (rs.length : Int) ≠ 0 by omega))
 have hkl : k < rs.length := by
  have := Int.emod_lt_of_pos da (show (0 : Int) < rs.length by omega)
  omega
 have HNA := Lib.hid (fun w => number_any da rs.length w (by omega) (by omega))
 rw [hk] at HNA
 have hlen := HT.out.len
 have hkp : k < ps.length := by omega
 obtain ⟨q1, q2, q3⟩ := HT.out.at_ hkl hkp
 obtain ⟨g, oc, hov, o0, o1, o2⟩ := HM.out.mir.nth k hkp
 have hvv := (HM.out.mir.vals _ (List.getElem_mem hkp)).1
 obtain ⟨⟨c, xs, vv, vb⟩, hps⟩ : ∃ q, ps[k]'hkp = q := ⟨_, rfl⟩
 rw [hps] at q1 q2 o0 o1 o2 hvv
 simp only at q1 q2 o0 o1 o2 hvv
 subst hvv
 have hnum := valL_len S (rs.getD k 0)
 have hle := HT.out.k.ok.le (HT.out.k.isk hkl)
 have hfld := HT.out.k.ok.fields (HT.out.k.isk hkl)
 rw [HT.out.cs] at hle hfld
 rw [← q2] at hnum
 rw [← q1] at hle hfld
 obtain ⟨n, hxn⟩ : ∃ n, xs.length = n := ⟨_, rfl⟩
 rw [hxn] at o1 hnum hps
 have hmul : 2 * k = k * 2 := Nat.mul_comm _ _
 rw [hmul] at o0 o1
 have HPS := Lib.hid hps
 have HQ1 := Lib.hid q1
 have HQ2 := Lib.hid q2
 have HQ3 := Lib.hid q3
 have HXN := Lib.hid hxn
 have HHK := Lib.hid hk
 have HHL := Lib.hid hle
 have HFL := Lib.hid hfld
 have hnu : S.num (rs.getD k 0) = (n : Int) := by omega
 have HNU := Lib.hid hnu
 clear hnu
 subst hov hrv
 have hk1 : (k : Int) < (rs.length : Int) := by omega
 have hk2 : (k : Int) < (ps.length : Int) := by omega
 have hk0 : (0 : Int) ≤ (k : Int) := by omega
 have hrl : rs.length ≤ 60 := by omega
 clear hk hps q1 q2 q3 hxn hle hfld hnum hlen o2 hr0 hmul hfew
 go_wp2_with fail
 refine (HNA.out _).mono ?_
 rintro e w2 ⟨rfl, rfl⟩
 clear d0 d1 d2 d3 d4 HNA
 have hsz : (wd.alloc (.cells #[.int .i64 kd, .int .i64 da, .int .i64 dby, .int .i64 dn, .int .i64 dv] 45)).heap.size = wd.heap.size + 1 := by simp
 have hYU := (Upd.refl [] (wd.alloc (.cells #[.int .i64 kd, .int .i64 da, .int .i64 dby, .int .i64 dn, .int .i64 dv] 45))).alloc (.cells #[.int .i64 c, .slice (some ⟨vb, 0, none⟩) n n] 51)
 have hYB := heap_alloc_new (wd.alloc (.cells #[.int .i64 kd, .int .i64 da, .int .i64 dby, .int .i64 dn, .int .i64 dv] 45)) (.cells #[.int .i64 c, .slice (some ⟨vb, 0, none⟩) n n] 51)
 rw [hsz] at hYB
 have HM2 := Lib.hid (HM.out.same hYU)
 have HX2 := Lib.hid (hYU.heap HX.out (by simp))
 have HY2 := Lib.hid hYB
 clear hsz hYU hYB HM HX
 go_upto_region 26 with fail
 rename_i K1 hK1
 have HK1 := Lib.hid hK1
 clear o0 o1 hK1
 generalize (wd.alloc (.cells #[.int .i64 kd, .int .i64 da, .int .i64 dby, .int .i64 dn, .int .i64 dv] 45)).alloc (.cells #[.int .i64 c, .slice (some ⟨vb, 0, none⟩) n n] 51) = wy at HM2 HX2 HY2 ⊢
 generalize wd.heap.size = xd at *
 obtain ⟨inn, hinn⟩ : ∃ b : Bool, b = decide (0 ≤ dby ∧ dby < (n : Int)) := ⟨_, rfl⟩
 have HIN := Lib.hid hinn
 clear hinn
 have x2 : wy.cell? ⟨xd, 2, none⟩ = some (.int .i64 dby) := by rw [cell_of HX2.out]; rfl
 have y1 : wy.cell? ⟨xd + 1, 1, none⟩ = some (.slice (some ⟨vb, 0, none⟩) n n) := by rw [cell_of HY2.out]; rfl
 refine wp_cut (fun a' w' => w' = wy ∧ ∃ f, a' = hpF lim nur (some ⟨db, dof, none⟩) nl lc ask at_ pb L.hb ub half (.slice (some ⟨g, 0, none⟩) ps.length oc) (.slice pr rs.length cr) yv tv (.int .i64 i) f ∧ (f 25 = .pointer (some ⟨xd, 0, none⟩) ∧ f 33 = .int .i64 (k : Int) ∧ f 34 = .pointer (some ⟨xd + 1, 0, none⟩) ∧ f 35 = .bool inn)) ?_ ?_
 rotate_left 1
 ·intro J2 K2 hJ2 hK2
  have HJ2 := Lib.hid hJ2
  clear hJ2
  by_cases b0 : 0 ≤ dby
  ·have b1 : decide (0 ≤ dby) = true := decide_eq_true b0
   have b2 : inn = decide (dby < (n : Int)) := by rw [HIN.out, decide_eq_decide]; omega
   rw [b2] at HJ2
   clear HIN b2 b0
   as_aux_lemma =>
    go_wp2_with fail
    exact Go.Met.intro (HJ2.out _ _ ⟨rfl, hpF_eqP _ (by kernel_rfl) ⟨rfl, rfl, rfl, rfl⟩⟩)
  ·have b1 : decide (0 ≤ dby) = false := decide_eq_false b0
   have b2 : inn = false := by rw [HIN.out]; exact decide_eq_false (by omega)
   rw [b2] at HJ2
   clear HIN b2 b0
   as_aux_lemma =>
    go_wp2_with fail
    exact Go.Met.intro (HJ2.out _ _ ⟨rfl, hpF_eqP _ (by kernel_rfl) ⟨rfl, rfl, rfl, rfl⟩⟩)
 rintro a wy ⟨rfl, f, rfl, h25, h33, h34, h35⟩
 refine HK1.out _ _ ?_
 clear HK1 x2 y1
 unfold hpF
 rw [h25, h33, h34, h35]
 clear h25 h33 h34 h35 K1
 go_upto_region 27 with fail
 rename_i K1 hK1
 have HK1 := Lib.hid hK1
 clear hK1
 obtain ⟨ref, href⟩ : ∃ b : Bool, b = (inn && letR p.cs c dby) := ⟨_, rfl⟩
 have HRE := Lib.hid href
 clear href
 refine wp_cut (fun a' w' => Upd [] wy w' ∧ ∃ f, a' = hpF lim nur (some ⟨db, dof, none⟩) nl lc ask at_ pb L.hb ub half (.slice (some ⟨g, 0, none⟩) ps.length oc) (.slice pr rs.length cr) yv tv (.int .i64 i) f ∧ (f 25 = .pointer (some ⟨xd, 0, none⟩) ∧ f 33 = .int .i64 (k : Int) ∧ f 35 = .bool inn ∧ f 36 = .bool ref)) ?_ ?_
 rotate_left 1
 ·intro J2 K2 hJ2 hK2
  rw [HRE.out] at hJ2
  refine wp_hpFP (lim := lim) (nur := nur) (la := some ⟨db, dof, none⟩) (nl := nl) (lc := lc) (ask := ask) (at_ := at_) (pb := pb) (hb := L.hb) (ub := ub) (half := half) (s19 := .slice (some ⟨g, 0, none⟩) ps.length oc) (s20 := .slice pr rs.length cr) (s21 := yv) (s22 := tv) (s24 := .int .i64 i) (fun f => f 25 = .pointer (some ⟨xd, 0, none⟩) ∧ f 33 = .int .i64 (k : Int) ∧ f 34 = .pointer (some ⟨xd + 1, 0, none⟩) ∧ f 35 = .bool inn) (by kernel_rfl) ⟨rfl, rfl, rfl, rfl⟩ (fun f hf => ?_)
  refine hreg27 HC.out HM2.out.upd HX2.out HY2.out (by have := HHL.out; omega) (fun h0 => ?_) (fun h => ?_) hf.1 hf.2.1 hf.2.2.1 hf.2.2.2 hJ2 hK2
  ·have h1 := HFL.out h0
   have h2 := HNU.out
   omega
  ·rw [HIN.out] at h; exact of_decide_eq_true h
 rintro a w3 ⟨hu3, f, rfl, h25, h33, h35, h36⟩
 refine HK1.out _ _ ?_
 have HM3 := Lib.hid (HM2.out.same hu3)
 have HX3 := Lib.hid (hu3.heap HX2.out (by simp))
 clear HK1 hu3 HM2 HX2 HY2
 have x3 : w3.cell? ⟨xd, 3, none⟩ = some (.int .i64 dn) := by rw [cell_of HX3.out]; rfl
 have x4 : w3.cell? ⟨xd, 4, none⟩ = some (.int .i64 dv) := by rw [cell_of HX3.out]; rfl
 have hw1 : IntKind.i64.wrap ((rs.length : Int) + 1) = (rs.length : Int) + 1 := IntWalk.i64_in _ (by omega)
 have hq0 := Int.emod_nonneg dn (show ((rs.length : Int) + 1) ≠ 0 by omega)
 have hq1 := Int.emod_lt_of_pos dn (show (0 : Int) < (rs.length : Int) + 1 by omega)
 have HNB := Lib.hid (fun w => number_any dn ((rs.length : Int) + 1) w (by omega) (by omega))
 generalize dn % ((rs.length : Int) + 1) = qq at HNB hq0 hq1
 have hw2 : IntKind.i64.wrap (qq - 1) = qq - 1 := IntWalk.i64_in _ (by omega)
 have htl : qq - 1 < (rs.length : Int) := by omega
 clear hq0 hq1
 unfold hpF
 rw [h25, h33, h35, h36]
 clear h25 h33 h35 h36 K1
 go_wp2_with fail
 refine (HNB.out _).mono ?_
 rintro e w4 ⟨rfl, rfl⟩
 go_upto_if 201 with fail
 rename_i K1 hK1
 have HK1 := Lib.hid hK1
 clear hK1 x3 x4 hw1 hw2 HNB
 generalize qq - 1 = tt at htl ⊢
 refine wp_cut (fun a' w' => w' = w3 ∧ ∃ f, a' = hpF lim nur (some ⟨db, dof, none⟩) nl lc ask at_ pb L.hb ub half (.slice (some ⟨g, 0, none⟩) ps.length oc) (.slice pr rs.length cr) yv tv (.int .i64 i) f ∧ (f 25 = .pointer (some ⟨xd, 0, none⟩) ∧ f 33 = .int .i64 (k : Int) ∧ f 35 = .bool inn ∧ f 36 = .bool ref ∧ f 37 = .int .i64 (putV ref rs tt dv) ∧ f 38 = .int .i64 tt ∧ f 39 = .bool (putF ref dv))) ?_ ?_
 rotate_left 1
 ·intro J2 K2 hJ2 hK2
  refine wp_hpFP (lim := lim) (nur := nur) (la := some ⟨db, dof, none⟩) (nl := nl) (lc := lc) (ask := ask) (at_ := at_) (pb := pb) (hb := L.hb) (ub := ub) (half := half) (s19 := .slice (some ⟨g, 0, none⟩) ps.length oc) (s20 := .slice pr rs.length cr) (s21 := yv) (s22 := tv) (s24 := .int .i64 i) (fun f => f 25 = .pointer (some ⟨xd, 0, none⟩) ∧ f 33 = .int .i64 (k : Int) ∧ f 35 = .bool inn ∧ f 36 = .bool ref ∧ f 37 = .int .i64 dv ∧ f 38 = .int .i64 tt ∧ f 39 = .bool true ∧ f 201 = .bool ref) (by kernel_rfl) ⟨rfl, rfl, rfl, rfl, rfl, rfl, rfl, rfl⟩ (fun f hf => ?_)
  exact hif201 HM3.out.refs HX3.out htl hf.1 hf.2.1 hf.2.2.1 hf.2.2.2.1 hf.2.2.2.2.1 hf.2.2.2.2.2.1 hf.2.2.2.2.2.2.1 hf.2.2.2.2.2.2.2 hJ2 hK2
 rintro a w3 ⟨rfl, f, rfl, h25, h33, h35, h36, h37, h38, h39⟩
 refine HK1.out _ _ ?_
 clear HK1
 unfold hpF
 rw [h25, h33, h35, h36, h37, h38, h39]
 clear h25 h33 h35 h36 h37 h38 h39 K1
 go_upto_region 38 with fail
 rename_i K1 hK1
 have HK1 := Lib.hid hK1
 clear hK1
 have hmp := may_put HT.out.k hkl (dby := dby) (tt := tt) (dv := dv) htl (inn := inn) (ref := ref) (by rw [HNU.out]; exact HIN.out) (by rw [HT.out.cs, ← HQ1.out]; exact HRE.out)
 have hvb := putV_bd HT.out.k (tt := tt) (dv := dv) (ref := ref) htl hbv
 have hbr := HT.out.k.bd ((HT.out.k.is _).1 (HT.out.k.isk hkl))
 have HMP := Lib.hid hmp
 have HVB := Lib.hid hvb
 have HBR := Lib.hid hbr
 clear hmp hvb hbr
 generalize putV ref rs tt dv = v at HMP HVB ⊢
 generalize putF ref dv = fits at HMP ⊢
 refine wp_cut (fun a' w' => HpW w0 w' B ub L hv hmv (if (inn && fits) = true then S.put (rs.getD k 0) dby v else S) (.slice (some ⟨g, 0, none⟩) ps.length oc) (.slice pr rs.length cr) yv tv ps rs ys ts u0 u1 ∧ w'.heap[xd]? = some (.cells #[.int .i64 kd, .int .i64 da, .int .i64 dby, .int .i64 dn, .int .i64 dv] 45) ∧ ∃ f, a' = hpF lim nur (some ⟨db, dof, none⟩) nl lc ask at_ pb L.hb ub half (.slice (some ⟨g, 0, none⟩) ps.length oc) (.slice pr rs.length cr) yv tv (.int .i64 i) f ∧ (f 25 = .pointer (some ⟨xd, 0, none⟩) ∧ f 33 = .int .i64 (k : Int) ∧ f 35 = .bool inn ∧ f 36 = .bool ref ∧ f 37 = .int .i64 v ∧ f 38 = .int .i64 tt ∧ f 39 = .bool fits ∧ f 236 = .bool false)) ?_ ?_
 rotate_left 1
 ·intro J2 K2 hJ2 hK2
  refine wp_hpFP (lim := lim) (nur := nur) (la := some ⟨db, dof, none⟩) (nl := nl) (lc := lc) (ask := ask) (at_ := at_) (pb := pb) (hb := L.hb) (ub := ub) (half := half) (s19 := .slice (some ⟨g, 0, none⟩) ps.length oc) (s20 := .slice pr rs.length cr) (s21 := yv) (s22 := tv) (s24 := .int .i64 i) (fun f => f 25 = .pointer (some ⟨xd, 0, none⟩) ∧ f 33 = .int .i64 (k : Int) ∧ f 35 = .bool inn ∧ f 36 = .bool ref ∧ f 37 = .int .i64 v ∧ f 38 = .int .i64 tt ∧ f 39 = .bool fits) (by kernel_rfl) ⟨rfl, rfl, rfl, rfl, rfl, rfl, rfl⟩ (fun f hf => ?_)
  refine hreg38 HM3.out HX3.out (by have := HXB.out; omega) hkl rfl HMP.out.1 ?_ (by have := HBR.out; omega) HVB.out.2 hf.1 hf.2.1 hf.2.2.1 hf.2.2.2.1 hf.2.2.2.2.1 hf.2.2.2.2.2.1 hf.2.2.2.2.2.2 hJ2 hK2
  split
  ·rename_i hm
   rw [put_refB HT.out.k.ok hm]; exact HMP.out.2.1
  ·exact HMP.out.2.1
 rintro a w4 ⟨hm4, hx4, f, rfl, h25, h33, h35, h36, h37, h38, h39, h236⟩
 refine HK1.out _ _ ?_
 have HM4 := Lib.hid hm4
 have HX4 := Lib.hid hx4
 clear HK1 hm4 hx4 HM3 HX3
 unfold hpF
 rw [h25, h33, h35, h36, h37, h38, h39, h236]
 clear h25 h33 h35 h36 h37 h38 h39 h236 K1
 cases inn with
 | false =>
  simp only [Bool.false_and, Bool.false_eq_true, if_false] at HM4
  as_aux_lemma =>
   go_wp2_with fail
   exact HK.out _ _ (Go.Met.intro (HJ.out _ _ ⟨_, _, _, _, _, _, _, _, _, _, _, HM4.out, HT.out.mono (by omega), hpF_eq (by kernel_rfl)⟩))
 | true =>
  cases fits with
  | false =>
   simp only [Bool.and_false, Bool.false_eq_true, if_false] at HM4
   as_aux_lemma =>
    go_wp2_with fail
    exact HK.out _ _ (Go.Met.intro (HJ.out _ _ ⟨_, _, _, _, _, _, _, _, _, _, _, HM4.out, HT.out.mono (by omega), hpF_eq (by kernel_rfl)⟩))
  | true =>
   simp only [Bool.and_true, if_true] at HM4
   go_upto_if 240 with fail
   obtain ⟨z0, z1⟩ := of_decide_eq_true HIN.out.symm
   obtain ⟨j, rfl⟩ := Int.eq_ofNat_of_zero_le z0
   have hjn : j < n := by omega
   have HTP := Lib.hid (HT.out.put (j := j) hkl hkp HPS.out (by rw [HMP.out.1]; rfl) HVB.out (HMP.out.2.2 rfl))
   refine wp_hpFP (lim := lim) (nur := nur) (la := some ⟨db, dof, none⟩) (nl := nl) (lc := lc) (ask := ask) (at_ := at_) (pb := pb) (hb := L.hb) (ub := ub) (half := half) (s19 := .slice (some ⟨g, 0, none⟩) ps.length oc) (s20 := .slice pr rs.length cr) (s21 := yv) (s22 := tv) (s24 := .int .i64 i) (fun f => f 25 = .pointer (some ⟨xd, 0, none⟩) ∧ f 33 = .int .i64 (k : Int) ∧ f 36 = .bool ref ∧ f 37 = .int .i64 v ∧ f 38 = .int .i64 tt ∧ f 240 = .bool true) (by kernel_rfl) ⟨rfl, rfl, rfl, rfl, rfl, rfl⟩ (fun f hf => ?_)
   refine hif240 HM4.out HX4.out hkl hkp HPS.out HXN.out hjn rfl HT.out.len.2 HQ3.out htl (yt := S.inY (rs.getD tt.toNat 0)) (fun h0 => ?_) (by have := HT.out.few; omega) hf.1 hf.2.1 hf.2.2.1 hf.2.2.2.1 hf.2.2.2.2.1 hf.2.2.2.2.2 (fun a w h => ?_)
   ·have hq : tt.toNat < rs.length := by omega
    exact (HT.out.at_ hq (by have := HT.out.len; omega)).2.2
   ·obtain ⟨tv', hm5, f', rfl⟩ := h
    exact HK.out _ _ (Go.Met.intro (HJ.out _ _ ⟨_, _, _, _, _, _, _, _, _, _, _, hm5, HTP.out, f', rfl⟩))
end Go.Proofs.YtbcoejmiihgfoaaDoor
