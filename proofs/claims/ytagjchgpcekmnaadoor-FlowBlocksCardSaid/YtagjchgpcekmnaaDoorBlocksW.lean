/- FlowBlocks: the law's walk. -/
import Derived.Test.YtagjchgpcekmnaaDoorCoverW
import Derived.Test.YtagjchgpcekmnaaDoorRefW
namespace Go.Proofs.YtagjchgpcekmnaaDoor
open Go.RowKit

set_option maxRecDepth 100000 in
set_option maxHeartbeats 8000000 in
theorem blocksW_any (p : Prg) (cv mv : Value) (w : World) (hc : ClassAt w cv p.cs) (hm : MethsAt w mv p.ms) (hT : TzAt w) :
    Calls Tryd.prog 3 #[.agg #[cv, mv]] w fun e w' => e = .returned (.bool true) ∧ Upd [] w w' := by
  have hcs := hc
  have hms := hm
  obtain ⟨cp, cc, rfl, _, _, hccm, _⟩ := hcs
  obtain ⟨mp, mc, rfl, hml, hmm, hmx⟩ := hms
  unfold maxLen at hmm hccm
  have HMX := Lib.hid hmx
  have HT := Lib.hid hT
  clear hmx hT
  have hUA := (Upd.refl [] w).alloc (.cells #[.slice cp p.cs.length cc, .slice mp p.ms.length mc] 25)
  have hcA := hc.upd hUA
  have hmA := hm.upd hUA
  have hbox := heap_alloc_new w (.cells #[.slice cp p.cs.length cc, .slice mp p.ms.length mc] 25)
  have HUA := Lib.hid hUA
  clear hc hm hUA
  have hfc := fault_code
  go_enter Tryd.func3, Tryd.ntmps3
  go_wp2_with fail
  refine (first5_any _ (HT.out.upd HUA.out (by simp))).mono ?_
  rintro e w1 ⟨rfl, hu1⟩
  have hc1 := hcA.upd hu1
  have hm1 := hmA.upd hu1
  have hb1 := hu1.heap hbox (by simp)
  have HU1 := Lib.hid (HUA.out.trans hu1)
  clear hcA hmA hbox HUA hu1
  have hb10 := cell_of hb1 0
  have hb11 := cell_of hb1 1
  go_wp2_with fail
  refine (light_any p _ _ _ hc1 hm1).mono ?_
  rintro e w2 ⟨⟨b, rfl⟩, hu2⟩
  have hc2 := hc1.upd hu2
  have hm2 := hm1.upd hu2
  have hb2 := hu2.heap hb1 (by simp)
  have HU2 := Lib.hid (HU1.out.trans hu2)
  clear hc1 hm1 hb10 hb11 hb1 HU1 hu2
  have hb20 := cell_of hb2 0
  have hb21 := cell_of hb2 1
  cases b with
  | false =>
    go_wp2_with fail
    go_ret
    exact ⟨rfl, HU2.out⟩
  | true =>
    go_wp2_with fail
    refine (may_any p _ _ _ hc2 hm2).mono ?_
    rintro e w3 ⟨c, s, b, at_, rfl, hia, hmay, hu3⟩
    obtain ⟨sp, sc, rfl⟩ := hia.form
    clear hia
    have hb3 := hu3.heap hb2 (by simp)
    have HU3 := Lib.hid (HU2.out.trans hu3)
    clear hc2 hm2 hb20 hb21 hb2 HU2 hu3
    have HB3 := Lib.hid hb3
    clear hb3
    by_cases hz : c = 0
    · subst hz
      have HOK := Lib.hid hmay.ok
      have hmany := HOK.out.many
      clear hmay
      go_wp2_with fail
      go_loopw [4] (fun iv wr => ∃ i : Nat, i ≤ p.ms.length ∧ iv = .int .i64 i ∧ Hid (Upd [] w3 wr)) (fun iv _ => p.ms.length - (intOf iv).toNat)
      case atStart => exact ⟨0, by omega, rfl, Upd.refl _ _⟩
      case round =>
        obtain ⟨i, hi, rfl, HU⟩ := hrel
        obtain ⟨wo, rfl⟩ : ∃ wo : World, wo = wr := ⟨_, rfl⟩
        have hbo := HU.out.heap HB3.out (by simp)
        have hbo0 := cell_of hbo 0
        have hbo1 := cell_of hbo 1
        have hbo2 := hbo
        clear hbo
        by_cases hlt : i < p.ms.length
        · obtain ⟨b, o, rfl, _, hme0⟩ := HMX.out i hlt
          obtain ⟨hk1, hk2, hk3⟩ := HOK.out.code i hlt
          have HK3 := Lib.hid hk3
          obtain ⟨hm0, hm1, hm2, kv, hm3, hcode⟩ := hme0
          have hUo := HU3.out.trans HU.out
          have hn0 := hUo.cell hm0 (by simp)
          have hn1 := hUo.cell hm1 (by simp)
          have hn2 := hUo.cell hm2 (by simp)
          have hn3 := hUo.cell hm3 (by simp)
          have HCODE := Lib.hid (hcode.upd hUo)
          obtain ⟨ka, kc, rfl, _, hkm, hkx⟩ := hcode
          unfold maxLen at hkm
          have HKX := Lib.hid hkx
          have HUo := Lib.hid hUo
          clear hm0 hm1 hm2 hm3 hkx hk3 hUo
          generalize (p.ms.getD i default).params = sp1 at hn0
          generalize (p.ms.getD i default).locals = sl1 at hn1
          generalize (p.ms.getD i default).ret = sr1 at hn2
          generalize (p.ms.getD i default).code = xs at hn3 HCODE HKX HK3 hk1 hk2 hkm
          go_wp2_with fail
          refine (of_any _ _ _ _ xs _ HCODE.out (by omega) hk1 (HT.out.upd HUo.out (by simp)) (fun j hj hop => (HK3.out j hj hop).1)).mono ?_
          rintro e wz ⟨G, B, gb, vs, capo, rfl, hC, hG, hUz⟩
          have HC := Lib.hid hC
          have hbz := hUz.heap hbo2 (by simp)
          have hbz0 := cell_of hbz 0
          have hbz1 := cell_of hbz 1
          have hn0 := hUz.cell hn0 (by simp)
          have hn1 := hUz.cell hn1 (by simp)
          have hn2 := hUz.cell hn2 (by simp)
          have hn3 := hUz.cell hn3 (by simp)
          have HUz := Lib.hid (HU.out.trans hUz)
          have HCODE2 := Lib.hid (HCODE.out.upd hUz)
          clear hC hUz hbo0 hbo1 hbo2 hbz HCODE HKX HUo
          go_wp2_with fail
          refine (rof_any _ _ _ _ xs _ HCODE2.out (by omega) hk1 HK3.out).mono ?_
          rintro e wy ⟨G2, B2, gd, vd, capd, rfl, hD, hG2, hUy⟩
          have HD := Lib.hid hD
          have HC2 := Lib.hid (HC.out.upd hUy (by simp) (by simp))
          have HUy := Lib.hid (HUz.out.trans hUy)
          have HRR := Lib.hid (fun q hq => ref_rows xs q hq)
          have HRM := Lib.hid (rmax_est xs (begL xs).length)
          have hpl : (begL xs).length ≤ xs.length := by
            have := List.length_filter_le (begU xs xs.length) (List.range xs.length)
            rw [List.length_range] at this
            exact this
          clear hD hUy hbz0 hbz1 hn0 hn1 hn2 hn3 HCODE2 HC HUz
          generalize hL : (begL xs).length = L at hpl HRR HRM ⊢
          have HLL := Lib.hid hL
          clear hL
          generalize hE : est xs L = ra at HRR HRM
          have HEE := Lib.hid hE
          clear hE
          generalize hE : prd xs L = rb at HRR
          have HPP := Lib.hid hE
          clear hE
          go_wp2_with fail
          go_loopw [7] (fun qv wr => ∃ q : Nat, q ≤ L ∧ qv = .int .i64 q ∧ Hid (Upd [] wy wr)) (fun qv _ => L - (intOf qv).toNat)
          case atStart => exact ⟨0, by omega, rfl, Upd.refl _ _⟩
          case round =>
            clear HU
            obtain ⟨q, hq, rfl, HU⟩ := hrel
            obtain ⟨wq, rfl⟩ : ∃ wq : World, wq = wr := ⟨_, rfl⟩
            by_cases hql : q < L
            · have hq2 : q < (begL xs).length := by rw [HLL.out]; exact hql
              have HA := Lib.hid (HC2.out.upd HU.out (by simp) (by simp))
              have HB := Lib.hid (HD.out.upd HU.out (by simp) (by simp))
              have haf := HA.out.fr q hq2
              have hat := HA.out.to q hq2
              have hbf := HB.out.fr q hq2
              have hbt := HB.out.to q hq2
              have ha2 : wq.cell? ⟨gb, q * 4 + 2, none⟩ = some (vs.getD (2 * q) undef) := HA.out.row q 0 hq2 (by omega)
              have ha3 : wq.cell? ⟨gb, q * 4 + 3, none⟩ = some (vs.getD (2 * q + 1) undef) := HA.out.row q 1 hq2 (by omega)
              have hb2 : wq.cell? ⟨gd, q * 4 + 2, none⟩ = some (vd.getD (2 * q) undef) := HB.out.row q 0 hq2 (by omega)
              have hb3 : wq.cell? ⟨gd, q * 4 + 3, none⟩ = some (vd.getD (2 * q + 1) undef) := HB.out.row q 1 hq2 (by omega)
              have oa2 := HA.out.own (2 * q) (by rw [HA.out.two]; omega)
              have oa3 := HA.out.own (2 * q + 1) (by rw [HA.out.two]; omega)
              have ob2 := HB.out.own (2 * q) (by rw [HB.out.two]; omega)
              have ob3 := HB.out.own (2 * q + 1) (by rw [HB.out.two]; omega)
              obtain ⟨e2, e3⟩ := HRR.out q hql
              rw [HLL.out, HEE.out] at oa2 oa3
              rw [HLL.out, HPP.out, ← e2] at ob2
              rw [HLL.out, HPP.out, ← e3] at ob3
              have hl2 := HRM.out (2 * q)
              have hl3 := HRM.out (2 * q + 1)
              generalize ra.getD (2 * q) [] = r2 at oa2 ob2 hl2
              generalize ra.getD (2 * q + 1) [] = r3 at oa3 ob3 hl3
              obtain ⟨pa2, ca2, va2⟩ := oa2.shape
              obtain ⟨pa3, ca3, va3⟩ := oa3.shape
              obtain ⟨pb2, cb2, vb2⟩ := ob2.shape
              obtain ⟨pb3, cb3, vb3⟩ := ob3.shape
              obtain ⟨ia2, ja2, _⟩ := oa2.ints
              obtain ⟨ia3, ja3, _⟩ := oa3.ints
              obtain ⟨ib2, jb2, _⟩ := ob2.ints
              obtain ⟨ib3, jb3, _⟩ := ob3.ints
              rw [va2] at ha2 ja2
              rw [va3] at ha3 ja3
              rw [vb2] at hb2 jb2
              rw [vb3] at hb3 jb3
              have HJ2 := Lib.hid (sints _ _ ia2 ib2 r2 r2 wq.drew (ja2.upd ((Upd.refl [] wq).drew) (Or.inr (by simp))) (jb2.upd ((Upd.refl [] wq).drew) (Or.inr (by simp))) (by omega))
              have HV3 : Hid (IntsV wq (.slice pa3 r3.length ca3) ia3 r3 ∧ IntsV wq (.slice pb3 r3.length cb3) ib3 r3) := ⟨ja3, jb3⟩
              have hl3b : r3.length ≤ 1000000 := by omega
              generalize (begL xs).getD q 0 = f at haf hbf
              generalize (begL xs).getD (q + 1) xs.length = tt at hat hbt
              clear oa2 oa3 ob2 ob3 va2 va3 vb2 vb3 ja2 ja3 jb2 jb3 e2 e3 hl2 hl3 hq2 HA HB
              go_wp2_with fail
              go_region_held3 (fun w' => w'.cell? ⟨gb, q * 4 + 2, none⟩ = some (.slice pa2 r2.length ca2) ∧ w'.cell? ⟨gd, q * 4 + 2, none⟩ = some (.slice pb2 r2.length cb2))
                (first | exact ⟨hk0, hk1⟩ | exact ⟨ha2, hb2⟩)
                ((go_at_call 14; refine HJ2.out.mono ?_; rintro e w5 ⟨rfl, hu5⟩; have hk0 := hu5.cell (p := ⟨gb, q * 4 + 2, none⟩) ha2 (by simp); have hk1 := hu5.cell (p := ⟨gd, q * 4 + 2, none⟩) hb2 (by simp)))
              try simp only [decide_true]
              have hv5 : Upd [] wq w5 := ((Upd.refl [] wq).drew).trans hu5
              have ha3 := hv5.cell ha3 (by simp)
              have hb3 := hv5.cell hb3 (by simp)
              have haf := hv5.cell haf (by simp)
              have hat := hv5.cell hat (by simp)
              have hbf := hv5.cell hbf (by simp)
              have hbt := hv5.cell hbt (by simp)
              have HJ3 := Lib.hid (sints _ _ ia3 ib3 r3 r3 w5.drew ((HV3.out.1.upd hv5 (Or.inr (by simp))).upd ((Upd.refl [] w5).drew) (Or.inr (by simp))) ((HV3.out.2.upd hv5 (Or.inr (by simp))).upd ((Upd.refl [] w5).drew) (Or.inr (by simp))) hl3b)
              have HU5 := Lib.hid (HU.out.trans hv5)
              clear hk0 hk1 ha2 hb2 hu5 hv5 HV3 HJ2
              go_wp2_with fail
              go_region_held3 (fun w' => w'.cell? ⟨gb, q * 4 + 3, none⟩ = some (.slice pa3 r3.length ca3) ∧ w'.cell? ⟨gd, q * 4 + 3, none⟩ = some (.slice pb3 r3.length cb3))
                (first | exact ⟨hk0, hk1⟩ | exact ⟨ha3, hb3⟩)
                ((go_at_call 14; refine HJ3.out.mono ?_; rintro e w6 ⟨rfl, hu6⟩; have hk0 := hu6.cell (p := ⟨gb, q * 4 + 3, none⟩) ha3 (by simp); have hk1 := hu6.cell (p := ⟨gd, q * 4 + 3, none⟩) hb3 (by simp)))
              try simp only [decide_true]
              have hv6 : Upd [] w5 w6 := ((Upd.refl [] w5).drew).trans hu6
              have haf := hv6.cell haf (by simp)
              have hat := hv6.cell hat (by simp)
              have hbf := hv6.cell hbf (by simp)
              have hbt := hv6.cell hbt (by simp)
              have HU6 := Lib.hid (HU5.out.trans hv6)
              clear hk0 hk1 ha3 hb3 hu6 hv6 HJ3
              go_wp2_with fail
              go_quiet (fail)
              go_wp2_with fail
              go_roundw
              case rel => exact ⟨q + 1, by omega, by go_num, HU6.out.drewN _⟩
              case measure => simp [intOf]; omega
            · obtain rfl : q = L := by omega
              go_wp2_with fail
              go_roundw
              case rel => exact ⟨i + 1, by omega, by go_num, HUy.out.trans HU.out⟩
              case measure => simp [intOf]; omega
        · obtain rfl : i = p.ms.length := by omega
          go_wp2_with fail
          go_ret
          exact ⟨rfl, HU3.out.trans HU.out⟩
    · have d0 : (c == 0) = false := by rw [beq_eq_false_iff_ne]; exact hz
      clear hmay
      go_wp2_with fail
      go_ret
      exact ⟨rfl, HU3.out⟩

end Go.Proofs.YtagjchgpcekmnaaDoor
