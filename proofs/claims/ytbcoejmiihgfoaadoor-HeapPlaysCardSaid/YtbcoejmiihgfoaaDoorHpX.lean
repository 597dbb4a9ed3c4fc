/- HeapPlays: the law's first loop. HeapPlays: the law's walk. -/
import Derived.Test.YtbcoejmiihgfoaaDoorHpU
import Derived.Test.YtbcoejmiihgfoaaDoorHpO
import Derived.Test.YtbcoejmiihgfoaaDoorHpJ
import Derived.Test.YtbcoejmiihgfoaaDoorHpT
/-! HeapPlays: the law's first loop. -/
/-! HeapPlays: the law's first loop. -/
namespace Go.Proofs.YtbcoejmiihgfoaaDoor
open Go.RowKit

set_option maxRecDepth 1000000 in
set_option maxHeartbeats 16000000 in
theorem hblk0 {w0 wx : World} {B ub pb nl lc : Nat} {la : Option Addr} {L : HL} {hv hmv mv : Value} {p : Prg} {cp : Option Addr} {cc : Nat} {lim nur half ask at_ : Int} {S0 : Hp} {f : Nat → Value} {Q : Exit → Act → World → Prop}
  (hC : HpC w0 p cp cc mv pb lim nur half) (hM : HpW w0 wx B ub L hv hmv S0 (.slice none 0 0) (.slice none 0 0) (.slice none 0 0) (.slice none 0 0) [] [] [] [] 0 0) (hT : HpT S0 [] [] [] [] 0 0 nur half p.cs 0) (hn : nl ≤ 60)
  (hL : ∀ i, i < nl → ∃ b o d, la = some ⟨b, o, none⟩ ∧ Do5.bd d ∧ DoIn w0 b (o + i * 5) d)
  (hQ : ∀ a' w', (∃ (S : Hp) (ov rv yv tv : Value) (ps : List OP) (rs : List Int) (ys : List Bool) (ts : List Int) (u0 u1 : Int), HpW w0 w' B ub L hv hmv S ov rv yv tv ps rs ys ts u0 u1 ∧ HpT S ps rs ys ts u0 u1 nur half p.cs nl ∧ ∃ f, a' = hpF lim nur la nl lc ask at_ pb L.hb ub half ov rv yv tv (.int .i64 nl) f) → Q .normal a' w') :
  (hpB 0).wp Tryd.prog Q (hpF lim nur la nl lc ask at_ pb L.hb ub half (.slice none 0 0) (.slice none 0 0) (.slice none 0 0) (.slice none 0 0) (.int .i64 0) f) wx := by
 have HQ := Lib.hid hQ
 have HC := Lib.hid hC
 have HM := Lib.hid hM
 have HT := Lib.hid hT
 have HLX := Lib.hid hL
 clear hQ hC hM hT hL
 unfold hpF
 conv => arg 2; whnf
 go_wp2_with fail
 refine wp_loop (HpI w0 B L hv hmv p lim nur la nl lc ask at_ pb ub half) (fun a' _ => nl - (intOf (a'.tmps.getD 24 undef)).toNat) ?_ ?_
 ·exact ⟨S0, _, _, _, _, _, _, _, _, _, _, 0, by omega, HM.out, HT.out, hpF_eq (by kernel_rfl)⟩
 ·rintro a wo ⟨S, ov, rv, yv, tv, ps, rs, ys, ts, u0, u1, i, hi, hM, hT, f, rfl⟩
  have HM2 := Lib.hid hM
  have HT2 := Lib.hid hT
  clear hM hT HM HT
  unfold hpF
  by_cases hlt : i < nl
  ·obtain ⟨db, dof, d, rfl, hbd, hin⟩ := HLX.out i hlt
   have hd1 : (i : Int) < (nl : Int) := by omega
   go_upto_block 1 with fail
   rename_i K1 hK1
   have HK1 := Lib.hid hK1
   clear hK1
   have HIN := Lib.hid (hin.upd HM2.out.upd (by simp))
   have hbv := hbd.2.2.2.2
   clear hin hbd
   refine wp_cut (HpR w0 B L hv hmv p lim nur (some ⟨db, dof, none⟩) nl lc ask at_ pb ub half i) ?_ ?_
   rotate_left 1
   ·intro J K' hJ hK
    refine wp_hpFP (lim := lim) (nur := nur) (la := some ⟨db, dof, none⟩) (nl := nl) (lc := lc) (ask := ask) (at_ := at_) (pb := pb) (hb := L.hb) (ub := ub) (half := half) (s19 := ov) (s20 := rv) (s21 := yv) (s22 := tv) (s24 := .int .i64 i) (fun _ => True) (by kernel_rfl) trivial (fun f _ => ?_)
    have hin := HIN.out
    obtain ⟨kd, da, dby, dn, dv⟩ := d
    by_cases k1 : kd = 1
    ·subst k1
     exact hkind1 HC.out HM2.out HT2.out hlt hn hin hJ hK
    by_cases k2 : kd = 2
    ·subst k2
     exact hkind2 HC.out HM2.out HT2.out hlt hn hin hJ hK
    exact hkind3 HC.out HM2.out HT2.out hlt hn ⟨k1, k2⟩ hin hbv hJ hK
   rintro a wc ⟨S', ov, rv, yv, tv, ps, rs, ys, ts, u0, u1, hM, hT, f, rfl⟩
   refine HK1.out _ _ ?_
   have HM3 := Lib.hid hM
   have HT3 := Lib.hid hT
   clear HK1 hM hT
   unfold hpF
   as_aux_lemma =>
    go_wp2_with fail
    refine ⟨⟨S', ov, rv, yv, tv, ps, rs, ys, ts, u0, u1, i + 1, hlt, HM3.out, HT3.out, hpF_eq (by kernel_rfl)⟩, ?_⟩
    show nl - (i + 1) < nl - i
    omega
  ·obtain rfl : i = nl := by omega
   as_aux_lemma =>
    go_wp2_with fail
    exact HQ.out _ _ ⟨S, ov, rv, yv, tv, ps, rs, ys, ts, u0, u1, HM2.out, HT2.out, hpF_eq (by kernel_rfl)⟩
end Go.Proofs.YtbcoejmiihgfoaaDoor

/-! HeapPlays: the law's walk. -/
/-! HeapPlays: the law's walk. -/
namespace Go.Proofs.YtbcoejmiihgfoaaDoor
open Go.RowKit

set_option maxRecDepth 1000000 in
set_option maxHeartbeats 16000000 in
theorem hplays_any (E : Nat → Addr) (p : Prg) (cv mv : Value) (lim nur ask at_ : Int) (la : Option Addr) (nl lc : Nat) (w : World) (hS : SentAll w E) (hTz : TzAt w) (hc : ClassAt w cv p.cs) (hm : MethsAt w mv p.ms) (hl : DosAt w (.slice la nl lc) nl)
  (_hb1 : -9223372036854775808 ≤ lim ∧ lim ≤ 9223372036854775807) (_hb2 : -9223372036854775808 ≤ nur ∧ nur ≤ 9223372036854775807) (hb3 : -9223372036854775808 ≤ ask ∧ ask ≤ 9223372036854775807) (_hb4 : -9223372036854775808 ≤ at_ ∧ at_ ≤ 9223372036854775807) :
  Calls Tryd.prog 3 #[.agg #[cv, mv], .int .i64 lim, .int .i64 nur, .slice la nl lc, .int .i64 ask, .int .i64 at_] w fun e w' => e = .returned (.bool true) ∧ Upd [] w w' := by
 obtain ⟨la0, lc0, hle, hl1, hl2, hlx⟩ := hl
 injection hle with e1 _ e3
 subst e1 e3
 have HLX := Lib.hid hlx
 have HSE := Lib.hid hS
 have HTZ := Lib.hid hTz
 obtain ⟨cp, cc, rfl⟩ := (show ∃ a c, cv = .slice a p.cs.length c by obtain ⟨a, c, h, _⟩ := hc; exact ⟨a, c, h⟩)
 obtain ⟨mp, mc, rfl⟩ := (show ∃ a c, mv = .slice a p.ms.length c by obtain ⟨a, c, h, _⟩ := hm; exact ⟨a, c, h⟩)
 unfold maxLen at hl2
 have hfc := fault_code
 have HCA := Lib.hid (hc.upd ((Upd.refl [] w).alloc (.cells #[.slice cp p.cs.length cc, .slice mp p.ms.length mc] 25)))
 have HMA := Lib.hid (hm.upd ((Upd.refl [] w).alloc (.cells #[.slice cp p.cs.length cc, .slice mp p.ms.length mc] 25)))
 have HBX := Lib.hid (heap_alloc_new w (.cells #[.slice cp p.cs.length cc, .slice mp p.ms.length mc] 25))
 have HUA := Lib.hid ((Upd.refl [] w).alloc (.cells #[.slice cp p.cs.length cc, .slice mp p.ms.length mc] 25))
 clear hlx hS hTz hc hm
 go_enter Tryd.func3, Tryd.ntmps3
 go_wp2_with fail
 refine (first_any _).mono ?_
 rintro e w1 ⟨rfl, hu1⟩
 have HU1 := Lib.hid (HUA.out.trans hu1)
 have HC1 := Lib.hid (HCA.out.upd hu1)
 have HM1 := Lib.hid (HMA.out.upd hu1)
 have hb1 := hu1.heap HBX.out (by simp)
 have c0 := cell_of hb1 0
 have c1 := cell_of hb1 1
 have HB1 := Lib.hid hb1
 clear hu1 hb1
 go_wp2_with fail
 refine (light_any p _ _ _ HC1.out HM1.out).mono ?_
 rintro e w2 ⟨⟨b, rfl⟩, hu2⟩
 have HU2 := Lib.hid (HU1.out.trans hu2)
 have HC2 := Lib.hid (HC1.out.upd hu2)
 have HM2 := Lib.hid (HM1.out.upd hu2)
 have hb2 := hu2.heap HB1.out (by simp)
 have HB2 := Lib.hid hb2
 clear c0 c1 hu2
 have c0 := cell_of hb2 0
 have c1 := cell_of hb2 1
 clear hb2
 cases b with
 | false =>
  as_aux_lemma =>
   go_wp2_with fail
   go_ret
   exact ⟨rfl, HU2.out⟩
 | true =>
 go_wp2_with fail
 refine (may_any p _ _ _ HC2.out HM2.out).mono ?_
 rintro e w3 ⟨c, s, b, at3, rfl, hia, hmay, hu3⟩
 obtain ⟨sp, sc, rfl⟩ := hia.form
 have HU3 := Lib.hid (HU2.out.trans hu3)
 have HC3 := Lib.hid (HC2.out.upd hu3)
 have hb3' := hu3.heap HB2.out (by simp)
 have HB3 := Lib.hid hb3'
 clear c0 c1 hu3 hia
 have c0 := cell_of hb3' 0
 have c1 := cell_of hb3' 1
 clear hb3'
 by_cases hz : c = 0
 ·subst hz
  have hok := hmay.ok
  clear hmay
  by_cases hn : 60 < nl
  ·have d1 : decide ((60 : Int) < (nl : Int)) = true := decide_eq_true (by omega)
   have d2 : decide (60 < nl) = true := decide_eq_true hn
   as_aux_lemma =>
    go_wp2_with fail
    go_ret
    exact ⟨rfl, HU3.out⟩
  have d1 : decide ((60 : Int) < (nl : Int)) = false := decide_eq_false (by omega)
  have d2 : decide (60 < nl) = false := decide_eq_false hn
  have hnl : nl ≤ 60 := by omega
  by_cases hbad : lim < 0 ∨ 65536 < lim ∨ nur < 0 ∨ lim < nur
  ·have HNB := Lib.hid (hnew_bad E (.slice cp p.cs.length cc) (.slice mp p.ms.length mc) lim nur w3 (HSE.out.upd HU3.out) hbad)
   have HIS := Lib.hid (fun w hS => is_at E 10 (by omega) 111 w hS)
   have hor : decide (lim < 0) = true ∨ (decide (lim < 0) = false ∧ decide ((65536 : Int) < lim) = true) ∨ (decide (lim < 0) = false ∧ decide ((65536 : Int) < lim) = false ∧ decide (nur < 0) = true) ∨ (decide (lim < 0) = false ∧ decide ((65536 : Int) < lim) = false ∧ decide (nur < 0) = false ∧ decide (lim < nur) = true) := by
    simp only [decide_eq_true_eq, decide_eq_false_iff_not]
    omega
   have HOR := Lib.hid hor
   clear hbad hor hok
   as_aux_lemma =>
   go_wp2_with fail
   refine HNB.out.mono ?_
   rintro e w4 ⟨rfl, hu4⟩
   have HU4 := Lib.hid (HU3.out.trans hu4)
   have HIS4 := Lib.hid (HIS.out w4 (HSE.out.upd HU4.out))
   clear hu4 HNB HIS
   rcases HOR.out with d3 | ⟨d3, d4⟩ | ⟨d3, d4, d5⟩ | ⟨d3, d4, d5, d6⟩
   all_goals
    go_wp2_with fail
    refine HIS4.out.mono ?_
    rintro e w5 ⟨rfl, hu5⟩
    go_wp2_with fail
    go_ret
    exact ⟨rfl, HU4.out.trans hu5⟩
  have d3 : decide (lim < 0) = false := decide_eq_false (by omega)
  have d4 : decide ((65536 : Int) < lim) = false := decide_eq_false (by omega)
  have d5 : decide (nur < 0) = false := decide_eq_false (by omega)
  have d6 : decide (lim < nur) = false := decide_eq_false (by omega)
  have hln : 0 ≤ nur ∧ nur ≤ lim ∧ lim ≤ 65536 := by omega
  obtain ⟨cb, co, hcl3⟩ := HC3.out.cls
  have HNW := Lib.hid (hnew_ok (.slice cp p.cs.length cc) (.slice mp p.ms.length mc) cb co p.cs lim nur w3 hcl3 (by omega) (by omega) (by omega) hok.few hok.small (by have := lt_of_heap HB3.out; omega))
  have HCL := Lib.hid hcl3
  have HOK := Lib.hid hok
  have hw1 : IntKind.i64.wrap (lim - nur) = lim - nur := IntWalk.i64_in _ (by omega)
  have hw2 : (lim - nur).tdiv 2 = (lim - nur) / 2 := Int.tdiv_eq_ediv_of_nonneg (by omega)
  have hw3 : IntKind.i64.wrap ((lim - nur) / 2) = (lim - nur) / 2 := IntWalk.i64_in _ (by omega)
  clear hbad hok hcl3
  as_aux_lemma =>
  go_wp2_with fail
  refine HNW.out.mono ?_
  rintro e w4 ⟨L, hv, hmv, rfl, hH, hu4, hlo⟩
  have HLab : Hid (∀ i ∈ [L.hb, L.ab, L.wb, L.bb, L.bw, L.mb, L.mw], w3.heap.size ≤ i) := fun i hi => HL.above hH.nd (fun i hi => (hlo i hi).1) i hi
  have HLC : Hid (∀ i ∈ L.all, i < w4.heap.size) := fun i hi => (hlo i hi).2
  have HSZ := Lib.hid (size_any L hv hmv _ w4 hH)
  have q1 : (Hp.new p.cs lim nur).y.to - (Hp.new p.cs lim nur).y.fr = nur := by simp [Hp.new]
  have q2 : (Hp.new p.cs lim nur).h0.to - (Hp.new p.cs lim nur).h0.fr = (lim - nur) / 2 := by
   simp only [Hp.new]
   omega
  rw [q1, q2] at HSZ
  have HH := Lib.hid hH
  have HU4 := Lib.hid hu4
  clear q1 q2 hH hu4 hlo HNW c0 c1
  go_wp2_with fail
  refine HSZ.out.mono ?_
  rintro e w5 ⟨rfl, n5, rfl⟩
  clear HSZ
  as_aux_lemma =>
  go_upto_block 0 with fail
  rename_i K1 hK1
  have HK1 := Lib.hid hK1
  clear hK1 hw1 hw2 hw3 d1 d2 d3 d4 d5 d6 hfc
  have hu6 : Upd [] w4 ((w4.drewN n5).alloc (.cells #[.int .i64 0, .int .i64 0] 43)) := ((Upd.refl [] w4).drewN n5).alloc _
  have hb6 : ((w4.drewN n5).alloc (.cells #[.int .i64 0, .int .i64 0] 43)).heap[w4.heap.size]? = some (.cells #[.int .i64 0, .int .i64 0] 43) := heap_alloc_new (w4.drewN n5) (.cells #[.int .i64 0, .int .i64 0] 43)
  have hs6 : ((w4.drewN n5).alloc (.cells #[.int .i64 0, .int .i64 0] 43)).heap.size = w4.heap.size + 1 := by simp [World.drewN]
  have HC : Hid (HpC w3 p cp cc (.slice mp p.ms.length mc) w.heap.size lim nur ((lim - nur) / 2)) := ⟨HOK.out, ⟨cb, co, HCL.out⟩, HB3.out, hln, rfl⟩
  have HM : Hid (HpW w3 ((w4.drewN n5).alloc (.cells #[.int .i64 0, .int .i64 0] 43)) (w4.heap.size + 1) w4.heap.size L hv hmv (Hp.new p.cs lim nur) (.slice none 0 0) (.slice none 0 0) (.slice none 0 0) (.slice none 0 0) [] [] [] [] 0 0) :=
   ⟨HH.out.upd0 hu6, Mir.nil _ _, OwnI.nil _ _ _, World.ownsRow_nil _ _ _ _, OwnI.nil _ _ _, by simp [Value.ownBlock], hb6, HLC.out, HLab.out, ⟨HU4.out.size, by omega⟩, by omega, HU4.out.trans hu6⟩
  have HT : Hid (HpT (Hp.new p.cs lim nur) [] [] [] [] 0 0 nur ((lim - nur) / 2) p.cs 0) := ⟨HpK.start p.cs lim nur (by omega) (by omega) (by omega) HOK.out.few HOK.out.small, rfl, rfl, ⟨rfl, rfl, rfl⟩, ⟨by simp [Hp.new], by simp [Hp.new]⟩, rfl, by simp⟩
  have HDL : Hid (∀ i, i < nl → ∃ b o d, la = some ⟨b, o, none⟩ ∧ Do5.bd d ∧ DoIn w3 b (o + i * 5) d) := fun i hi => by
   obtain ⟨b, o, d, e, hb, hin⟩ := HLX.out i hi
   exact ⟨b, o, d, e, hb, hin.upd HU3.out (by simp)⟩
  have HTZ3 := Lib.hid (HTZ.out.upd HU3.out (by simp))
  clear hu6 hb6 hs6 HH HLC HLab HCA HMA HBX HUA HU1 HC1 HM1 HB1 HU2 HC2 HM2 HB2 HC3 HCL HOK HLX
  generalize (w4.drewN n5).alloc (.cells #[.int .i64 0, .int .i64 0] 43) = w6 at HM ⊢
  generalize Hp.new p.cs lim nur = S0 at HM HT
  refine wp_hpFP (lim := lim) (nur := nur) (la := la) (nl := nl) (lc := lc) (ask := ask) (at_ := at_) (pb := w.heap.size) (hb := L.hb) (ub := w4.heap.size) (half := (lim - nur) / 2) (s19 := .slice none 0 0) (s20 := .slice none 0 0) (s21 := .slice none 0 0) (s22 := .slice none 0 0) (s24 := .int .i64 0) (fun _ => True) (by kernel_rfl) trivial (fun f _ => ?_)
  refine hblk0 HC.out HM.out HT.out hnl HDL.out (fun a' w7 h => ?_)
  clear HM HT HDL HC
  obtain ⟨S, ov, rv, yv, tv, ps, rs, ys, ts, u0, u1, hM, hT, f, rfl⟩ := h
  refine HK1.out _ _ ?_
  clear HK1
  have HM := Lib.hid hM
  have HT := Lib.hid hT
  have hrl : rs.length ≤ 60 := by have := hT.few; omega
  have htl : ts.length ≤ 100 := by have := hT.few; omega
  have HRM := Lib.hid (hroom_any L hv hmv S w7 hM.hp)
  have hold : S.old = S.h0 := by unfold Hp.old; rw [if_pos hT.k.now]
  have hu0 := hT.u0
  have hu1 := hT.u1
  have q1 : S.y.to - S.y.top = nur - u0 := by omega
  have q2 : S.old.to - S.old.top = (lim - nur) / 2 - u1 := by rw [hold]; omega
  rw [q1, q2] at HRM
  have hsp0 : 0 ≤ S.y.fr ∧ S.y.fr ≤ S.y.top ∧ S.y.top ≤ S.y.to ∧ S.y.to ≤ S.A.length := hT.k.ok.sp0 0
  have hsp1 : 0 ≤ S.h0.fr ∧ S.h0.fr ≤ S.h0.top ∧ S.h0.top ≤ S.h0.to ∧ S.h0.to ≤ S.A.length := hT.k.ok.sp0 1
  have hlA := hT.k.ok.len
  have hw1 : IntKind.i64.wrap (nur - u0) = nur - u0 := IntWalk.i64_in _ (by omega)
  have hw2 : IntKind.i64.wrap ((lim - nur) / 2 - u1) = (lim - nur) / 2 - u1 := IntWalk.i64_in _ (by omega)
  have hml : (plus1 (blist S.mr)).length ≤ 70000 := by
   have h1 := bupto_len S.mr (64 * S.mr.length)
   have h2 := hT.k.ml
   have h3 : (plus1 (blist S.mr)).length = (blist S.mr).length := by simp [plus1]
   rw [h3]
   unfold blist
   omega
  have s0 : ∀ n, (w7.drewN n).cell? ⟨w4.heap.size, 0, none⟩ = some (.int .i64 u0) := fun n => by
   have h : w7.cell? ⟨w4.heap.size, 0, none⟩ = some (.int .i64 u0) := by rw [cell_of hM.us]; rfl
   exact ((Upd.refl [] w7).drewN n).cell h (by simp)
  have s1 : ∀ n, (w7.drewN n).cell? ⟨w4.heap.size, 1, none⟩ = some (.int .i64 u1) := fun n => by
   have h : w7.cell? ⟨w4.heap.size, 1, none⟩ = some (.int .i64 u1) := by rw [cell_of hM.us]; rfl
   exact ((Upd.refl [] w7).drewN n).cell h (by simp)
  clear hold hu0 hu1 q1 q2 hsp0 hsp1 hlA hM hT
  as_aux_lemma =>
  unfold hpF
  go_wp2_with fail
  refine HRM.out.mono ?_
  rintro e w8 ⟨rfl, n8, rfl⟩
  have t0 := s0 n8
  have t1 := s1 n8
  have HM8 := Lib.hid (HM.out.same ((Upd.refl [] w7).drewN n8))
  clear s0 s1 HRM HM
  generalize w7.drewN n8 = w8 at *
  as_aux_lemma =>
  go_upto_block 3 with fail
  rename_i K1 hK1
  have HK1 := Lib.hid hK1
  clear hK1 t0 t1 hw1 hw2
  refine wp_hpFP (lim := lim) (nur := nur) (la := la) (nl := nl) (lc := lc) (ask := ask) (at_ := at_) (pb := w.heap.size) (hb := L.hb) (ub := w4.heap.size) (half := (lim - nur) / 2) (s19 := ov) (s20 := rv) (s21 := yv) (s22 := tv) (s24 := .int .i64 nl) (fun f => f 42 = .int .i64 0) (by kernel_rfl) rfl (fun f hf => ?_)
  refine hblk3 HM8.out HT.out hrl hf (fun a' w9 h => ?_)
  clear hf
  obtain ⟨hu9, f, rfl⟩ := h
  refine HK1.out _ _ ?_
  clear HK1
  have HM9 := Lib.hid (HM8.out.same hu9)
  have HMK := Lib.hid (marked_any L hv hmv S w9 HM9.out.hp (HTZ3.out.upd HM9.out.upd (by simp)))
  clear hu9 HM8
  as_aux_lemma =>
  unfold hpF
  go_wp2_with fail
  refine HMK.out.mono ?_
  rintro e w10 ⟨u, rfl, ho, hu10⟩
  have HM10 := Lib.hid (HM9.out.same hu10)
  have HO := Lib.hid ho
  clear ho hu10 HMK HM9
  as_aux_lemma =>
  go_upto_block 7 with fail
  rename_i K1 hK1
  have HK1 := Lib.hid hK1
  clear hK1
  refine wp_hpFP (lim := lim) (nur := nur) (la := la) (nl := nl) (lc := lc) (ask := ask) (at_ := at_) (pb := w.heap.size) (hb := L.hb) (ub := w4.heap.size) (half := (lim - nur) / 2) (s19 := ov) (s20 := rv) (s21 := yv) (s22 := tv) (s24 := .int .i64 nl) (fun f => f 51 = u ∧ f 52 = .int .i64 0) (by kernel_rfl) ⟨rfl, rfl⟩ (fun f hf => ?_)
  refine hblk7 HM10.out HT.out htl HO.out hml hf.1 hf.2 (fun a' w11 h => ?_)
  clear hf
  obtain ⟨hu11, f, rfl, h51⟩ := h
  refine HK1.out _ _ ?_
  clear HK1
  have HM11 := Lib.hid (HM10.out.same hu11)
  have HO2 := Lib.hid (HO.out.upd hu11 (by simp))
  clear hu11 HO HM10
  as_aux_lemma =>
  unfold hpF
  rw [h51]
  clear h51
  go_upto_block 9 with fail
  rename_i K1 hK1
  have HK1 := Lib.hid hK1
  clear hK1
  refine wp_hpFP (lim := lim) (nur := nur) (la := la) (nl := nl) (lc := lc) (ask := ask) (at_ := at_) (pb := w.heap.size) (hb := L.hb) (ub := w4.heap.size) (half := (lim - nur) / 2) (s19 := ov) (s20 := rv) (s21 := yv) (s22 := tv) (s24 := .int .i64 nl) (fun f => f 51 = u ∧ f 53 = .int .i64 0) (by kernel_rfl) ⟨rfl, rfl⟩ (fun f hf => ?_)
  refine hblk9 HM11.out HT.out hrl HO2.out hml hf.1 hf.2 (fun a' w12 h => ?_)
  clear hf
  obtain ⟨hu12, f, rfl⟩ := h
  refine HK1.out _ _ ?_
  clear HK1
  have HM12 := Lib.hid (HM11.out.same hu12)
  have HUZ := Lib.hid (HU3.out.trans HM12.out.upd)
  obtain ⟨ib, hiv, _⟩ := HM12.out.refs.ints
  have HIS := Lib.hid (is_any L hv hmv S ask w12 HM12.out.hp hb3.2)
  have HGE := Lib.hid (get_any L hv hmv S ask at_ w12 HM12.out.hp hb3.2)
  have HAM := Lib.hid (among_any rv ib rs ask w12 hiv (by omega))
  have hiff := HT.out.k.is ask
  clear hu12 HM11 HO2 hiv
  as_aux_lemma =>
  unfold hpF
  cases hi : S.is ask with
  | true =>
   rw [hi] at HIS hiff
   rw [decide_eq_true (hiff.1 rfl)] at HAM
   generalize S.getV ask at_ = gv at HGE
   generalize S.hasV ask at_ = gh at HGE
   clear hiff hi
   as_aux_lemma =>
    go_wp2_with fail
    refine HIS.out.mono ?_
    rintro e w13 ⟨rfl, rfl⟩
    go_wp2_with fail
    refine HGE.out.mono ?_
    rintro e w13 ⟨rfl, rfl⟩
    go_wp2_with fail
    refine HAM.out.mono ?_
    rintro e w13 ⟨rfl, rfl⟩
    go_wp2_with fail
    go_ret
    exact ⟨rfl, HUZ.out⟩
  | false =>
   have hno : ask ∉ rs := fun hm => by have := hiff.2 hm; rw [hi] at this; cases this
   have hha : S.hasV ask at_ = false := by unfold Hp.hasV; rw [hi, Bool.false_and]
   have hmr : S.mayRaw ask at_ 0 = false := by unfold Hp.mayRaw; rw [hi, Bool.false_and, Bool.false_and]
   have hiy : S.inY ask = false := by unfold Hp.inY; rw [hi, Bool.false_and]
   have hrf : S.refB ask at_ = false := refB_has hha
   have HPU := Lib.hid (put_any L hv hmv S ask at_ 0 w12 HM12.out.hp hb3.2 (by omega))
   have HIY := Lib.hid (fun w h => inYoung_any L hv hmv S ask w h hb3.2)
   have HRE := Lib.hid (fun w h => ref_any L hv hmv S ask at_ w h hb3.2)
   rw [hi] at HIS
   rw [hha] at HGE
   rw [decide_eq_false hno] at HAM
   rw [hmr] at HPU
   rw [hiy] at HIY
   rw [hrf] at HRE
   generalize S.getV ask at_ = gv at HGE
   clear hiff hi hno hha hmr hiy hrf
   as_aux_lemma =>
    go_wp2_with fail
    refine HIS.out.mono ?_
    rintro e w13 ⟨rfl, rfl⟩
    go_wp2_with fail
    refine HGE.out.mono ?_
    rintro e w13 ⟨rfl, rfl⟩
    go_wp2_with fail
    refine HAM.out.mono ?_
    rintro e w13 ⟨rfl, rfl⟩
    go_wp2_with fail
    refine HPU.out.mono ?_
    rintro e w14 ⟨rfl, hH14, hu14⟩
    have HM14 := Lib.hid (HM12.out.heap (S' := S) (by simpa using hH14) hu14 (fun i hi => by
     simp only [List.mem_cons, List.not_mem_nil, or_false] at hi ⊢
     rcases hi with e | e <;> simp [e]))
    clear hH14 hu14 HIS HGE HAM HPU HM12
    have HIY := Lib.hid (HIY.out w14 HM14.out.hp)
    have HRE := Lib.hid (HRE.out w14 HM14.out.hp)
    go_wp2_with fail
    refine HIY.out.mono ?_
    rintro e w15 ⟨rfl, rfl⟩
    go_wp2_with fail
    refine HRE.out.mono ?_
    rintro e w15 ⟨rfl, rfl⟩
    go_wp2_with fail
    go_ret
    exact ⟨rfl, HU3.out.trans HM14.out.upd⟩
 ·have e1 : (c == 0) = false := beq_eq_false_iff_ne.2 hz
  as_aux_lemma =>
   go_wp2_with fail
   go_ret
   exact ⟨rfl, HU3.out⟩
end Go.Proofs.YtbcoejmiihgfoaaDoor
