/- VerifySays: the law. -/
import Derived.Test.YtpkdijbmomkdeaaGreatDoorSyW
/-! VerifySays: the law. -/
namespace Go.Proofs.YtpkdijbmomkdeaaGreatDoor
open Go.RowKit

set_option maxRecDepth 100000 in
set_option maxHeartbeats 8000000 in
theorem saysV_any (E : Nat → Addr) (p : Prg) (cv mv : Value) (mq pc : Int) (w : World) (hS : SentAll w E) (hc : ClassAt w cv p.cs) (hm : MethsAt w mv p.ms) :
    Calls Tryz.prog 3 #[.agg #[cv, mv], .int .i64 mq, .int .i64 pc] w fun e w' => e = .returned (.bool true) ∧ Upd [] w w' := by
  have HS := Lib.hid hS
  have HC := Lib.hid hc
  have HM := Lib.hid hm
  obtain ⟨cp, cc, rfl, _, hccl, hccm, _⟩ := hc
  obtain ⟨mp, mc, rfl, hml, hmm, hmx⟩ := hm
  have HMX := Lib.hid hmx
  clear hmx
  unfold maxLen at hccm hmm
  clear hS
  have HU0 := Lib.hid ((Upd.refl [] w).alloc (.cells #[.slice cp p.cs.length cc, .slice mp p.ms.length mc] 25))
  have hB0 := heap_alloc_new w (.cells #[.slice cp p.cs.length cc, .slice mp p.ms.length mc] 25)
  go_enter Tryz.func3, Tryz.ntmps3
  go_wp2_with fail
  refine (first7_any E _ (HS.out.upd HU0.out)).mono ?_
  rintro e w1 ⟨rfl, hu1⟩
  have HU1 := Lib.hid (HU0.out.trans hu1)
  have hB1 := hu1.heap hB0 (by simp)
  clear hu1 hB0 HU0
  have c0 : w1.cell? ⟨w.heap.size, 0, none⟩ = some (.slice cp p.cs.length cc) := by rw [cell_of hB1]; rfl
  have c1 : w1.cell? ⟨w.heap.size, 1, none⟩ = some (.slice mp p.ms.length mc) := by rw [cell_of hB1]; rfl
  clear hB1
  go_wp2_with fail
  refine (light_any p _ _ w1 (HC.out.upd HU1.out) (HM.out.upd HU1.out)).mono ?_
  rintro e w2 ⟨⟨b, rfl⟩, hu2⟩
  have HU2 := Lib.hid (HU1.out.trans hu2)
  have c0 := hu2.cell c0 (by simp)
  have c1 := hu2.cell c1 (by simp)
  clear hu2 HU1
  cases b with
  | false =>
    go_wp2_with fail
    go_ret
    exact ⟨rfl, HU2.out⟩
  | true =>
  go_wp2_with fail
  refine (ofV_any p _ _ E w2 (HS.out.upd HU2.out).some (HC.out.upd HU2.out) (HM.out.upd HU2.out)).mono ?_
  rintro e w3 ⟨v3, rfl, hend⟩
  have hu3 := hend.2
  obtain ⟨pa, ev, rfl⟩ := hend.form
  have HEND := Lib.hid hend
  have HU3 := Lib.hid (HU2.out.trans hu3)
  have HPB : Hid (w.heap.size < w2.heap.size) := World.block_lt_of_cell? _ _ c0
  have c0 := hu3.cell c0 (by simp)
  have c1 := hu3.cell c1 (by simp)
  have HZ3 := Lib.hid hu3.size
  clear hend hu3
  go_wp2_with fail
  refine (rof_any p _ _ w3 (HC.out.upd HU3.out) (HM.out.upd HU3.out)).mono ?_
  rintro e w4 ⟨rp, rn, rc, c, lp, ln, lc, rfl, hrend, hu4⟩
  have HRE := Lib.hid hrend
  have HU34 := Lib.hid hu4
  have hx := ((Upd.refl [] (w4.alloc (.cells #[.slice cp p.cs.length cc, .slice mp p.ms.length mc, .slice rp rn rc] 35))).alloc (.cells #[.int .i64 c, .slice lp ln lc] 38)).heap (heap_alloc_new w4 (.cells #[.slice cp p.cs.length cc, .slice mp p.ms.length mc, .slice rp rn rc] 35)) (by simp)
  have hf := heap_alloc_new (w4.alloc (.cells #[.slice cp p.cs.length cc, .slice mp p.ms.length mc, .slice rp rn rc] 35)) (.cells #[.int .i64 c, .slice lp ln lc] 38)
  rw [show (w4.alloc (.cells #[.slice cp p.cs.length cc, .slice mp p.ms.length mc, .slice rp rn rc] 35)).heap.size = w4.heap.size + 1 by simp] at hf
  have hua := (((Upd.refl [] w4).alloc (.cells #[.slice cp p.cs.length cc, .slice mp p.ms.length mc, .slice rp rn rc] 35))).alloc (.cells #[.int .i64 c, .slice lp ln lc] 38)
  have c0 := (hu4.trans hua).cell c0 (by simp)
  have c1 := (hu4.trans hua).cell c1 (by simp)
  have HUA := Lib.hid hua
  clear hrend hu4 hua
  go_upto_region 6 with fail
  generalize (w4.alloc (.cells #[.slice cp p.cs.length cc, .slice mp p.ms.length mc, .slice rp rn rc] 35)).alloc (.cells #[.int .i64 c, .slice lp ln lc] 38) = w5 at c0 c1 hx hf HUA ⊢
  have HX4 : Hid (w3.heap.size ≤ w4.heap.size) := HU34.out.size
  generalize w4.heap.size = xb at hx hf HX4 ⊢
  have f0 : w5.cell? ⟨xb + 1, 0, none⟩ = some (.int .i64 c) := by rw [cell_of hf]; rfl
  have f1 : w5.cell? ⟨xb + 1, 1, none⟩ = some (.slice lp ln lc) := by rw [cell_of hf]; rfl
  have HU5 := Lib.hid ((HU3.out.trans HU34.out).trans HUA.out)
  clear hf
  rcases ends_meet HEND.out HRE.out with ⟨hne, ev', at_, fb, hv, hev, hiv, hlen⟩ | ⟨hok, hc0, hsl, ib, ss, hl, hlk, hv, hinfo, hib, hib2, hlt, hlN⟩
  · injection hv with hv
    obtain ⟨rfl, rfl⟩ : pa = none ∧ ev = ev' := by simpa using hv
    clear hv
    have HSM := Lib.hid (same_any E ev c c at_ at_ _ fb w5 (HS.out.upd HU5.out) (hev.upd (HU34.out.trans HUA.out)) (hiv.upd HUA.out (.inr (by simp))) (by omega) (by omega))
    rw [decide_eq_true (⟨rfl, rfl⟩ : c = c ∧ at_ = at_)] at HSM
    have hcn : (c == 0) = false := by simpa using hne
    clear hev hiv hlen HEND HRE
    go_wp2_with fail
    refine HSM.out.mono ?_
    rintro e w6 ⟨rfl, hu6⟩
    have HU6 := Lib.hid (HU5.out.trans hu6)
    have f0 := hu6.cell f0 (by simp)
    clear f1 hu6
    go_wp2_with fail
    go_ret
    exact ⟨rfl, HU6.out⟩
  · injection hv with hv
    obtain ⟨rfl, rfl⟩ : pa = some ⟨ib, 0, none⟩ ∧ ev = .nilIface := by simpa using hv
    clear hv
    injection hsl with e1 e2 e3
    subst e1 e2 e3 hc0
    have HSM := Lib.hid (same_any E .nilIface 0 0 [] [] _ 0 w5 (HS.out.upd HU5.out) ⟨.inl rfl, .inl ⟨rfl, rfl⟩⟩ ⟨.inl ⟨rfl, rfl⟩, fun i hi => by simp at hi⟩ (by simp) (by simp))
    rw [decide_eq_true (⟨rfl, rfl⟩ : (0 : Int) = 0 ∧ ([] : List Int) = [])] at HSM
    have HL := Lib.hid hl
    have HLK := Lib.hid hlk
    have HOK := Lib.hid hok
    have hmany := hok.many
    have hfew := hok.few
    have HI5 := Lib.hid (hinfo.upd (HU34.out.trans HUA.out))
    have HLX5 : Hid (LksT (offW w5 ib) (.slice rp rn rc) p.ms ss) := by
      obtain ⟨_, _, _, hb, _⟩ := hinfo
      exact (hlN ib _ (offW w4 ib) (HU34.out.heap hb (by simp)) (offW_at w4 ib)).upd (offW_upd (HUA.out.mono (by simp)))
    have HIB : Hid (w2.heap.size ≤ ib ∧ ib < xb) := ⟨hib, by have := HX4.out; omega⟩
    clear hl hlk hok hinfo hlN hlt hib hib2 HEND HRE
    go_wp2_with fail
    refine HSM.out.mono ?_
    rintro e w6 ⟨rfl, hu6⟩
    have HU6 := Lib.hid (HU5.out.trans hu6)
    have HS6 : Hid (SayB w6 w6 ib p ss 0) := ⟨HI5.out.upd hu6, Upd.refl _ _⟩
    have HCC : Hid (∀ W, Upd [ib] w6 W → W.cell? ⟨w.heap.size, 0, none⟩ = some (.slice cp p.cs.length cc) ∧ W.cell? ⟨w.heap.size, 1, none⟩ = some (.slice mp p.ms.length mc)) := fun W hu =>
      ⟨hu.cell (hu6.cell c0 (by simp)) (by have := HIB.out; have := HPB.out; simp; omega), hu.cell (hu6.cell c1 (by simp)) (by have := HIB.out; have := HPB.out; simp; omega)⟩
    have HXX : Hid (∀ W, Upd [ib] w6 W → W.cell? ⟨xb, 0, none⟩ = some (.slice cp p.cs.length cc) ∧ W.cell? ⟨xb, 1, none⟩ = some (.slice mp p.ms.length mc) ∧ W.cell? ⟨xb, 2, none⟩ = some (.slice rp rn rc)) := fun W hu => by
      have h6 := hu.heap (hu6.heap hx (by simp)) (by have := HIB.out; simp; omega)
      exact ⟨by rw [cell_of h6]; rfl, by rw [cell_of h6]; rfl, by rw [cell_of h6]; rfl⟩
    have HUW : Hid (∀ W, Upd [ib] w6 W → Upd [] w W) := fun W hu => HU6.out.trans' hu (fun q hq hlt => by rw [List.mem_singleton] at hq; have := HIB.out; have := HU2.out.size; omega)
    have HCL : Hid (∀ W, Upd [ib] w6 W → ClassAt W (.slice cp p.cs.length cc) p.cs) := fun W hu => HC.out.upd (HUW.out W hu)
    have HME : Hid (∀ W, Upd [ib] w6 W → MethsAt W (.slice mp p.ms.length mc) p.ms) := fun W hu => HM.out.upd (HUW.out W hu)
    have HLX : Hid (∀ W, Upd [ib] w6 W → LksT (offW W ib) (.slice rp rn rc) p.ms ss) := fun W hu => (HLX5.out.upd (offW_upd (hu6.mono (by simp)))).upd (offW_upd hu)
    have HLT : Hid (∀ W, Upd [ib] w6 W → LksT W (.slice rp rn rc) p.ms ss) := fun W hu => (HLX.out W hu).reads (offW_reads W ib)
    have f0 := hu6.cell f0 (by simp)
    obtain rfl : rn = ss.length := by
      obtain ⟨_, _, h, _⟩ := HLX5.out
      injection h
    have HUF := Lib.hid HU6.out
    clear f1 hu6 c0 c1 hx HI5 HLX5 HU5 HU6 HSM HUA HU34 HU3 HX4 HZ3
    go_wp2_with fail
    have hpc0 := HCC.out _ HS6.out.upd
    have HSd := Lib.hid (HS6.out.same (Upd.refl [] w6).drew)
    go_region_held3 (fun W => W.cell? ⟨w.heap.size, 0, none⟩ = some (.slice cp p.cs.length cc) ∧ W.cell? ⟨w.heap.size, 1, none⟩ = some (.slice mp p.ms.length mc))
      (first | exact HCC.out _ HSB.out.upd | exact HCC.out _ HSA.out.upd | exact HCC.out _ HSd.out.upd | exact HCC.out _ HS6.out.upd)
      (first
        | (go_at_call 10; refine (iprog_any ib p ss 0 _ HSd.out.info (by omega) (by omega) (fun j hj => by have := HOK.out.code1 j hj; omega)).mono ?_; rintro e wA ⟨cv', mv', rfl, hcA, hmA, huA⟩; have HSA := Lib.hid (HSd.out.same huA); have HCA := Lib.hid hcA; have HMA := Lib.hid hmA; clear hcA hmA huA)
        | (go_at_call 9; refine (sprogram_any p _ _ _ _ _ HCA.out HMA.out (HCL.out _ HSA.out.upd) (HME.out _ HSA.out.upd)).mono ?_; rintro e wB ⟨rfl, huB⟩; have HSB := Lib.hid (HSA.out.same huB); clear huB)
        | (go_at_call 11; refine (asked_any ib p ss 0 _ HSB.out.info).mono ?_; rintro e wC ⟨rfl, rfl⟩))
    rename_i hheld
    clear hheld hpc0 HSd HSA HCA HMA f0
    have HQ := Lib.hid hmany
    go_wp2_with fail
    go_loopw [12, 13, 14, 15, 16] (fun nv kv _ _ _ wr => ∃ (kk : Nat) (nn : Int), kk ≤ p.ms.length ∧ kv = .int .i64 kk ∧ nv = .int .i64 nn ∧ 0 ≤ nn ∧ nn ≤ 1000 * kk ∧ Hid (SayB w6 wr ib p ss nn)) (fun _ kv _ _ _ _ => p.ms.length - (intOf kv).toNat)
    case atStart => exact ⟨0, 0, by omega, rfl, rfl, by omega, by omega, HSB.out⟩
    case round =>
      clear HSB
      obtain ⟨kk, nn, hkk, rfl, rfl, hn0, hn1, HSB⟩ := hrel
      obtain ⟨wo, rfl⟩ : ∃ wo : World, wo = wr := ⟨_, rfl⟩
      obtain ⟨c0, c1⟩ := HCC.out _ HSB.out.upd
      by_cases hlt : kk < p.ms.length
      · have HP : Hid (SyP p ss kk (p.ms.getD kk default) (ss.getD kk default)) := ⟨HOK.out, hlt, HL.out, HLK.out kk hlt, rfl, rfl⟩
        obtain ⟨_, _, hva, _, hx⟩ := HLX.out w6 (Upd.refl _ _)
        injection hva with hva hve hvc
        clear hve hvc
        obtain ⟨b, o, gs, gb, hab, z0, z1, z2, hlk⟩ := hx kk (by rw [HL.out]; exact hlt)
        obtain rfl : rp = some ⟨b, o, none⟩ := hva.trans hab
        clear hx hva hab z0
        obtain ⟨bm, mo, rfl, _, q0, q1, q2, kv, q3, hcode⟩ := HMX.out kk hlt
        generalize hmk : p.ms.getD kk default = m at q0 q1 q2 q3 hcode HP z1 hlk
        generalize hsk : ss.getD kk default = s at HP z2 hlk
        have hz := HP.out.sizes
        have HMK := Lib.hid hmk
        have HSK := Lib.hid hsk
        have HMO : Hid (∀ W, Upd [ib] w6 W → W.cell? ⟨xb, 0, none⟩ = some (.slice cp p.cs.length cc) ∧ W.cell? ⟨xb, 1, none⟩ = some (.slice (some ⟨bm, mo, none⟩) p.ms.length mc) ∧ W.cell? ⟨xb, 2, none⟩ = some (.slice (some ⟨b, o, none⟩) ss.length rc) ∧ W.cell? ⟨b, o + kk * 3 + 2, none⟩ = some (.int .i64 s.most)) := fun W hu =>
          ⟨(HXX.out W hu).1, (HXX.out W hu).2.1, (HXX.out W hu).2.2, hu.cell (offW_cell z2).2 (by simpa using (offW_cell z2).1)⟩
        have HRO : Hid (∀ W, Upd [ib] w6 W → W.cell? ⟨b, o + kk * 3 + 1, none⟩ = some (.slice (some ⟨gs, 0, none⟩) m.code.length m.code.length)) := fun W hu => hu.cell (offW_cell z1).2 (by simpa using (offW_cell z1).1)
        have HST : Hid (∀ i, i < m.code.length → ∀ W, Upd [ib] w6 W → W.cell? ⟨gs, i, none⟩ = some (.string (bs (s.stk.getD i [])))) := fun i hi W hu => hu.cell (offW_cell (hlk i hi).1).2 (by simpa using (offW_cell (hlk i hi).1).1)
        have HQ3 : Hid (∀ W, Upd [ib] w6 W → W.cell? ⟨bm, mo + kk * 4 + 3, none⟩ = some kv) := fun W hu => (HUW.out W hu).cell q3 (by simp)
        obtain ⟨ka, kc, rfl, _⟩ := hcode
        have hlss : kk < ss.length := by rw [HL.out]; exact hlt
        clear hmk hsk z1 z2 hlk q0 q1 q2 q3
        have HSd := Lib.hid (HSB.out.same (Upd.refl [] wo).drew)
        have hm0 := HMO.out _ HSB.out.upd
        have e1 : (p.ms.getD kk default).code.length = m.code.length := by rw [HMK.out]
        have e2 : (p.ms.getD kk default).params.size = m.params.size := by rw [HMK.out]
        have e3 : (p.ms.getD kk default).locals.size = m.locals.size := by rw [HMK.out]
        have e4 : (ss.getD kk default).most = s.most := by rw [HSK.out]
        have HMOST := Lib.hid (fun W (h : InfoAt W ib p ss nn) => most_in ib p ss nn kk W h HL.out hlt (by omega) (by omega))
        have HWRD := Lib.hid (fun W (h : InfoAt W ib p ss (nn + 1)) => words_in ib p ss (nn + 1) kk W h HL.out hlt (by omega) (by omega) (by omega) (by omega) (by omega) (by omega))
        have HRWD := Lib.hid (fun W (hu : Upd [ib] w6 W) => rwords_any p ss cp (some ⟨bm, mo, none⟩) p.cs.length cc mc _ kk W (HLT.out W hu) (HME.out W hu) HL.out hlt (by omega) (by omega) (by omega))
        rw [e4] at HMOST
        rw [e2, e3, e4] at HWRD HRWD
        generalize (4 + ((m.params.size + m.locals.size : Nat) : Int) + (s.most : Int)) = wd at HWRD HRWD
        generalize (s.most : Int) = mst at HMOST HMO hm0
        clear e1 e2 e3 e4
        go_wp2_with fail
        go_region_held3 (fun W => W.cell? ⟨xb, 0, none⟩ = some (.slice cp p.cs.length cc) ∧ W.cell? ⟨xb, 1, none⟩ = some (.slice (some ⟨bm, mo, none⟩) p.ms.length mc) ∧ W.cell? ⟨xb, 2, none⟩ = some (.slice (some ⟨b, o, none⟩) ss.length rc) ∧ W.cell? ⟨b, o + kk * 3 + 2, none⟩ = some (.int .i64 mst))
          (first | exact HMO.out _ HSC.out.upd | exact HMO.out _ HSB2.out.upd | exact HMO.out _ HSA.out.upd | exact HMO.out _ HSd.out.upd | exact HMO.out _ HSB.out.upd)
          (first
            | (go_at_call 12; refine (HMOST.out _ HSd.out.info).mono ?_; rintro e wA ⟨rfl, hiA, huA⟩; have HSA := Lib.hid (HSd.out.step hiA huA); clear hiA huA)
            | (go_at_call 13; refine (HWRD.out _ HSA.out.info).mono ?_; rintro e wB ⟨rfl, hiB, huB⟩; have HSB2 := Lib.hid (HSA.out.step hiB huB); clear hiB huB)
            | (go_at_call 14; refine (HRWD.out _ HSB2.out.upd).mono ?_; rintro e wC ⟨rfl, huC⟩; have HSC := Lib.hid (HSB2.out.same huC); clear huC))
        rename_i hheld
        clear hheld hm0 HSd HSA HSB2 HMOST HWRD HRWD c0 c1 HSB
        obtain ⟨c0, c1⟩ := HCC.out _ HSC.out.upd
        have hk3 := HQ3.out _ HSC.out.upd
        have hw2 : IntKind.i64.wrap (nn + 2) = nn + 2 := IntWalk.i64_in _ (by omega)
        have hn2 : nn + 1 + 1 = nn + 2 := by omega
        rw [hn2] at HSC
        clear hn2
        go_wp2_with fail
        go_loopw [12, 14, 15, 16] (fun nv iv _ _ wr => ∃ (i : Nat) (nq : Int), i ≤ m.code.length ∧ iv = .int .i64 i ∧ nv = .int .i64 nq ∧ nn + 2 ≤ nq ∧ nq ≤ nn + 2 + 2 * i ∧ Hid (SayB w6 wr ib p ss nq)) (fun _ iv _ _ _ => m.code.length - (intOf iv).toNat)
        case atStart => exact ⟨0, nn + 2, by omega, rfl, rfl, by omega, by omega, HSC.out⟩
        case round =>
          clear HSC c0 c1 hk3
          obtain ⟨i, nq, hi, rfl, rfl, hq0, hq1, HSD⟩ := hrel
          obtain ⟨w8, rfl⟩ : ∃ w8 : World, w8 = wr := ⟨_, rfl⟩
          obtain ⟨c0, c1⟩ := HCC.out _ HSD.out.upd
          have hk3 := HQ3.out _ HSD.out.upd
          by_cases hil : i < m.code.length
          · have e1 : (p.ms.getD kk default).code.length = m.code.length := by rw [HMK.out]
            have HSTK := Lib.hid (stack_in ib p ss nq kk i w8 HSD.out.info HL.out hlt (by omega) (by omega) (by omega))
            rw [HMK.out, HSK.out] at HSTK
            have HVR := Lib.hid (fun W (h : InfoAt W ib p ss (nq + 1)) => vrefs_any ib p ss (nq + 1) kk m s i W HP.out h hil (by omega) (by omega))
            have HRR := Lib.hid (fun W (hu : Upd [ib] w6 W) => rrefs_any p ss cp (some ⟨bm, mo, none⟩) p.cs.length cc mc _ kk i W (HLT.out W hu) (HME.out W hu) HL.out hlt (by omega) (by omega) (by rw [HMK.out]; omega) (by rw [HMK.out]; omega) (by rw [HSK.out]; exact hz.2.2.2.2.2.2.1))
            have HRC := Lib.hid (fun W (hu : Upd [ib] w6 W) => rreached_any p ss cp (some ⟨bm, mo, none⟩) p.cs.length cc p.ms.length mc _ kk i W (HLT.out W hu) HL.out hlt (by omega) (by omega))
            rw [HMK.out, HSK.out] at HRR HRC
            have hrl : (rrefL m s i).length ≤ 36 := rrefL_len hz.2.2.2.2.1 hz.2.2.2.2.2.2.1
            generalize rrefL m s i = R at HVR HRR hrl
            have HKE : Hid (∀ W, Upd [ib] w6 W → W.cell? ⟨xb, 0, none⟩ = some (.slice cp p.cs.length cc) ∧ W.cell? ⟨xb, 1, none⟩ = some (.slice (some ⟨bm, mo, none⟩) p.ms.length mc) ∧ W.cell? ⟨xb, 2, none⟩ = some (.slice (some ⟨b, o, none⟩) ss.length rc) ∧ W.cell? ⟨b, o + kk * 3 + 1, none⟩ = some (.slice (some ⟨gs, 0, none⟩) m.code.length m.code.length) ∧ W.cell? ⟨gs, i, none⟩ = some (.string (bs (s.stk.getD i [])))) := fun W hu =>
              ⟨(HXX.out W hu).1, (HXX.out W hu).2.1, (HXX.out W hu).2.2, HRO.out W hu, HST.out i hil W hu⟩
            have hw3 : IntKind.i64.wrap (nq + 2) = nq + 2 := IntWalk.i64_in _ (by omega)
            have hq2 : nq + 1 + 1 = nq + 2 := by omega
            cases hs : s.seen.getD i false with
            | true =>
              have hav : atV s m.code.length i = .tuple #[.string (bs (s.stk.getD i [])), .bool true] := by
                unfold atV
                rw [Int.toNat_natCast, if_pos ⟨by omega, by omega, hs⟩]
              have hrs : rseen s m.code.length i = true := by
                unfold rseen seenF
                rw [Int.toNat_natCast, decide_eq_true ⟨by omega, by omega⟩, hs]
                rfl
              rw [hav] at HSTK
              rw [hrs] at HRC
              generalize bs (s.stk.getD i []) = T at HSTK HKE
              clear hav hrs hs e1
              have hTT : (T.toList == T.toList) = true := by rw [beq_iff_eq]
              go_wp2_with fail
              refine HSTK.out.mono ?_
              rintro e wA ⟨rfl, hiA, huA⟩
              have HSA := Lib.hid (HSD.out.step hiA huA)
              clear hiA huA HSTK HSD c0 c1 hk3
              have hk := HKE.out _ HSA.out.upd
              have HSd := Lib.hid (HSA.out.same (Upd.refl [] wA).drew)
              go_wp2_with fail
              refine wp_region_noPanic ?_
              refine wp_region_held_drew (S := (fun W => W.cell? ⟨xb, 0, none⟩ = some (.slice cp p.cs.length cc) ∧ W.cell? ⟨xb, 1, none⟩ = some (.slice (some ⟨bm, mo, none⟩) p.ms.length mc) ∧ W.cell? ⟨xb, 2, none⟩ = some (.slice (some ⟨b, o, none⟩) ss.length rc) ∧ W.cell? ⟨b, o + kk * 3 + 1, none⟩ = some (.slice (some ⟨gs, 0, none⟩) m.code.length m.code.length) ∧ W.cell? ⟨gs, i, none⟩ = some (.string T))) (by kernel_rfl) ?_ (fun hHeld => ?_)
              · (try dsimp only); first | exact HKE.out _ HSF.out.upd | exact HKE.out _ HSE.out.upd | exact HKE.out _ HSC2.out.upd | exact HKE.out _ HSB2.out.upd | exact HKE.out _ HSd.out.upd | exact HKE.out _ HSA.out.upd
              refine wpAnyH_take (i := 0) (oi := ?_) (v := ?_) ?_ (by kernel_rfl) (by kernel_rfl) (by kernel_rfl) (fun _ _ _ h => h) (Or.inl ⟨?_, ?_⟩) hHeld ?_
              rotate_left 2
              · simp only [List.getElem?_toArray, List.getElem?_cons_zero]; rfl
              · rfl
              · intro _ hSw; (try dsimp only at hSw); go_simp <;> with_reducible rfl
              (try simp only [Act.put, List.setIfInBounds_toArray, List.set_cons_zero, List.set_cons_succ])
              refine wpAnyH_take (i := 1) (oi := ?_) (v := ?_) ?_ (by kernel_rfl) (by kernel_rfl) (by kernel_rfl) (fun _ _ _ h => h) (Or.inl ⟨?_, ?_⟩) hHeld ?_
              rotate_left 2
              · simp only [List.getElem?_toArray, List.getElem?_cons_zero, List.getElem?_cons_succ]; rfl
              · rfl
              · intro _ hSw; (try dsimp only at hSw); go_simp <;> with_reducible rfl
              (try simp only [Act.put, List.setIfInBounds_toArray, List.set_cons_zero, List.set_cons_succ])
              refine wpAnyH_take (i := 2) (oi := ?_) (v := ?_) ?_ (by kernel_rfl) (by kernel_rfl) (by kernel_rfl) (fun _ _ _ h => h) (Or.inl ⟨?_, ?_⟩) hHeld ?_
              rotate_left 2
              · simp only [List.getElem?_toArray, List.getElem?_cons_zero, List.getElem?_cons_succ]; rfl
              · rfl
              · intro _ hSw; (try dsimp only at hSw); go_simp <;> with_reducible rfl
              (try simp only [Act.put, List.setIfInBounds_toArray, List.set_cons_zero, List.set_cons_succ])
              refine wpAnyH_take (i := 3) (oi := ?_) (v := ?_) ?_ (by kernel_rfl) (by kernel_rfl) (by kernel_rfl) (fun _ _ _ h => h) (Or.inl ⟨?_, ?_⟩) hHeld ?_
              rotate_left 2
              · simp only [List.getElem?_toArray, List.getElem?_cons_zero, List.getElem?_cons_succ]; rfl
              · rfl
              · intro _ hSw; (try dsimp only at hSw); go_simp <;> with_reducible rfl
              (try simp only [Act.put, List.setIfInBounds_toArray, List.set_cons_zero, List.set_cons_succ])
              refine wpAnyH_ready (rs := [4]) (by kernel_rfl) (by simp) ?_
              refine AllReadyH.cons (o := ?_) ?_ (fun K hK => ?_) AllReadyH.nil
              rotate_left 1
              · simp only [List.getElem?_toArray, List.getElem?_cons_zero, List.getElem?_cons_succ]; rfl
              clear hHeld
              go_simp; go_at_call 16; refine (HRC.out _ HSd.out.upd).mono ?_; rintro e wB ⟨rfl, huB⟩; have HSB2 := Lib.hid (HSd.out.same huB); clear huB
              refine hK.out _ _ ?_ (fun hHeld => ?_)
              · (try dsimp only); first | exact HKE.out _ HSF.out.upd | exact HKE.out _ HSE.out.upd | exact HKE.out _ HSC2.out.upd | exact HKE.out _ HSB2.out.upd | exact HKE.out _ HSd.out.upd | exact HKE.out _ HSA.out.upd
              clear hK K
              (try simp only [Act.put, List.setIfInBounds_toArray, List.set_cons_zero, List.set_cons_succ])
              refine wpAnyH_take (i := 5) (oi := ?_) (v := ?_) ?_ (by kernel_rfl) (by kernel_rfl) (by kernel_rfl) (fun _ _ _ h => h) (Or.inl ⟨?_, ?_⟩) hHeld ?_
              rotate_left 2
              · simp only [List.getElem?_toArray, List.getElem?_cons_zero, List.getElem?_cons_succ]; rfl
              · rfl
              · intro _ hSw; (try dsimp only at hSw); go_simp <;> with_reducible rfl
              (try simp only [Act.put, List.setIfInBounds_toArray, List.set_cons_zero, List.set_cons_succ])
              refine wpAnyH_take (i := 6) (oi := ?_) (v := ?_) ?_ (by kernel_rfl) (by kernel_rfl) (by kernel_rfl) (fun _ _ _ h => h) (Or.inl ⟨?_, ?_⟩) hHeld ?_
              rotate_left 2
              · simp only [List.getElem?_toArray, List.getElem?_cons_zero, List.getElem?_cons_succ]; rfl
              · rfl
              · intro _ hSw; (try dsimp only at hSw); go_simp <;> with_reducible rfl
              (try simp only [Act.put, List.setIfInBounds_toArray, List.set_cons_zero, List.set_cons_succ])
              refine wpAnyH_take (i := 7) (oi := ?_) (v := ?_) ?_ (by kernel_rfl) (by kernel_rfl) (by kernel_rfl) (fun _ _ _ h => h) (Or.inl ⟨?_, ?_⟩) hHeld ?_
              rotate_left 2
              · simp only [List.getElem?_toArray, List.getElem?_cons_zero, List.getElem?_cons_succ]; rfl
              · rfl
              · intro _ hSw; (try dsimp only at hSw); go_simp <;> with_reducible rfl
              (try simp only [Act.put, List.setIfInBounds_toArray, List.set_cons_zero, List.set_cons_succ])
              refine wpAnyH_take (i := 8) (oi := ?_) (v := ?_) ?_ (by kernel_rfl) (by kernel_rfl) (by kernel_rfl) (fun _ _ _ h => h) (Or.inl ⟨?_, ?_⟩) hHeld ?_
              rotate_left 2
              · simp only [List.getElem?_toArray, List.getElem?_cons_zero, List.getElem?_cons_succ]; rfl
              · rfl
              · intro _ hSw; (try dsimp only at hSw); go_simp <;> with_reducible rfl
              (try simp only [Act.put, List.setIfInBounds_toArray, List.set_cons_zero, List.set_cons_succ])
              refine wpAnyH_take (i := 9) (oi := ?_) (v := ?_) ?_ (by kernel_rfl) (by kernel_rfl) (by kernel_rfl) (fun _ _ _ h => h) (Or.inl ⟨?_, ?_⟩) hHeld ?_
              rotate_left 2
              · simp only [List.getElem?_toArray, List.getElem?_cons_zero, List.getElem?_cons_succ]; rfl
              · rfl
              · intro _ hSw; (try dsimp only at hSw); go_simp <;> with_reducible rfl
              (try simp only [Act.put, List.setIfInBounds_toArray, List.set_cons_zero, List.set_cons_succ])
              refine wpAnyH_take (i := 10) (oi := ?_) (v := ?_) ?_ (by kernel_rfl) (by kernel_rfl) (by kernel_rfl) (fun _ _ _ h => h) (Or.inl ⟨?_, ?_⟩) hHeld ?_
              rotate_left 2
              · simp only [List.getElem?_toArray, List.getElem?_cons_zero, List.getElem?_cons_succ]; rfl
              · rfl
              · intro _ hSw; (try dsimp only at hSw); go_simp <;> with_reducible rfl
              (try simp only [Act.put, List.setIfInBounds_toArray, List.set_cons_zero, List.set_cons_succ])
              refine wpAnyH_take (i := 11) (oi := ?_) (v := ?_) ?_ (by kernel_rfl) (by kernel_rfl) (by kernel_rfl) (fun _ _ _ h => h) (Or.inl ⟨?_, ?_⟩) hHeld ?_
              rotate_left 2
              · simp only [List.getElem?_toArray, List.getElem?_cons_zero, List.getElem?_cons_succ]; rfl
              · rfl
              · intro _ hSw; (try dsimp only at hSw); go_simp <;> with_reducible rfl
              (try simp only [Act.put, List.setIfInBounds_toArray, List.set_cons_zero, List.set_cons_succ])
              refine wpAnyH_take (i := 12) (oi := ?_) (v := ?_) ?_ (by kernel_rfl) (by kernel_rfl) (by kernel_rfl) (fun _ _ _ h => h) (Or.inl ⟨?_, ?_⟩) hHeld ?_
              rotate_left 2
              · simp only [List.getElem?_toArray, List.getElem?_cons_zero, List.getElem?_cons_succ]; rfl
              · rfl
              · intro _ hSw; (try dsimp only at hSw); go_simp <;> with_reducible rfl
              (try simp only [Act.put, List.setIfInBounds_toArray, List.set_cons_zero, List.set_cons_succ])
              refine wpAnyH_take (i := 13) (oi := ?_) (v := ?_) ?_ (by kernel_rfl) (by kernel_rfl) (by kernel_rfl) (fun _ _ _ h => h) (Or.inl ⟨?_, ?_⟩) hHeld ?_
              rotate_left 2
              · simp only [List.getElem?_toArray, List.getElem?_cons_zero, List.getElem?_cons_succ]; rfl
              · rfl
              · intro _ hSw; (try dsimp only at hSw); go_simp <;> with_reducible rfl
              (try simp only [Act.put, List.setIfInBounds_toArray, List.set_cons_zero, List.set_cons_succ])
              refine wpAnyH_take (i := 14) (oi := ?_) (v := ?_) ?_ (by kernel_rfl) (by kernel_rfl) (by kernel_rfl) (fun _ _ _ h => h) (Or.inl ⟨?_, ?_⟩) hHeld ?_
              rotate_left 2
              · simp only [List.getElem?_toArray, List.getElem?_cons_zero, List.getElem?_cons_succ]; rfl
              · rfl
              · intro _ hSw; (try dsimp only at hSw); go_simp <;> with_reducible rfl
              (try simp only [Act.put, List.setIfInBounds_toArray, List.set_cons_zero, List.set_cons_succ])
              refine wpAnyH_take (i := 15) (oi := ?_) (v := ?_) ?_ (by kernel_rfl) (by kernel_rfl) (by kernel_rfl) (fun _ _ _ h => h) (Or.inl ⟨?_, ?_⟩) hHeld ?_
              rotate_left 2
              · simp only [List.getElem?_toArray, List.getElem?_cons_zero, List.getElem?_cons_succ]; rfl
              · rfl
              · intro _ hSw; (try dsimp only at hSw); go_simp <;> with_reducible rfl
              (try simp only [Act.put, List.setIfInBounds_toArray, List.set_cons_zero, List.set_cons_succ])
              refine wpAnyH_take (i := 16) (oi := ?_) (v := ?_) ?_ (by kernel_rfl) (by kernel_rfl) (by kernel_rfl) (fun _ _ _ h => h) (Or.inl ⟨?_, ?_⟩) hHeld ?_
              rotate_left 2
              · simp only [List.getElem?_toArray, List.getElem?_cons_zero, List.getElem?_cons_succ]; rfl
              · rfl
              · intro _ hSw; (try dsimp only at hSw); go_simp <;> with_reducible rfl
              (try simp only [Act.put, List.setIfInBounds_toArray, List.set_cons_zero, List.set_cons_succ])
              refine wpAnyH_take (i := 17) (oi := ?_) (v := ?_) ?_ (by kernel_rfl) (by kernel_rfl) (by kernel_rfl) (fun _ _ _ h => h) (Or.inl ⟨?_, ?_⟩) hHeld ?_
              rotate_left 2
              · simp only [List.getElem?_toArray, List.getElem?_cons_zero, List.getElem?_cons_succ]; rfl
              · rfl
              · intro _ hSw; (try dsimp only at hSw); go_simp <;> with_reducible rfl
              (try simp only [Act.put, List.setIfInBounds_toArray, List.set_cons_zero, List.set_cons_succ])
              refine wpAnyH_take (i := 18) (oi := ?_) (v := ?_) ?_ (by kernel_rfl) (by kernel_rfl) (by kernel_rfl) (fun _ _ _ h => h) (Or.inl ⟨?_, ?_⟩) hHeld ?_
              rotate_left 2
              · simp only [List.getElem?_toArray, List.getElem?_cons_zero, List.getElem?_cons_succ]; rfl
              · rfl
              · intro _ hSw; (try dsimp only at hSw); go_simp <;> with_reducible rfl
              (try simp only [Act.put, List.setIfInBounds_toArray, List.set_cons_zero, List.set_cons_succ])
              refine wpAnyH_take (i := 19) (oi := ?_) (v := undef) ?_ (by kernel_rfl) (by kernel_rfl) (by kernel_rfl) (fun _ _ _ h => h) (Or.inr ⟨?_, rfl⟩) hHeld ?_
              rotate_left 1
              · simp only [List.getElem?_toArray, List.getElem?_cons_zero, List.getElem?_cons_succ]; rfl
              · rfl
              (try simp only [Act.put, List.setIfInBounds_toArray, List.set_cons_zero, List.set_cons_succ])
              refine wpAnyH_take (i := 20) (oi := ?_) (v := ?_) ?_ (by kernel_rfl) (by kernel_rfl) (by kernel_rfl) (fun _ _ _ h => h) (Or.inl ⟨?_, ?_⟩) hHeld ?_
              rotate_left 2
              · simp only [List.getElem?_toArray, List.getElem?_cons_zero, List.getElem?_cons_succ]; rfl
              · rfl
              · intro _ hSw; (try dsimp only at hSw); go_simp <;> with_reducible rfl
              (try simp only [Act.put, List.setIfInBounds_toArray, List.set_cons_zero, List.set_cons_succ])
              refine wpAnyH_take (i := 21) (oi := ?_) (v := ?_) ?_ (by kernel_rfl) (by kernel_rfl) (by kernel_rfl) (fun _ _ _ h => h) (Or.inl ⟨?_, ?_⟩) hHeld ?_
              rotate_left 2
              · simp only [List.getElem?_toArray, List.getElem?_cons_zero, List.getElem?_cons_succ]; rfl
              · rfl
              · intro _ hSw; (try dsimp only at hSw); go_simp <;> with_reducible rfl
              (try simp only [Act.put, List.setIfInBounds_toArray, List.set_cons_zero, List.set_cons_succ])
              refine wpAnyH_take (i := 22) (oi := ?_) (v := ?_) ?_ (by kernel_rfl) (by kernel_rfl) (by kernel_rfl) (fun _ _ _ h => h) (Or.inl ⟨?_, ?_⟩) hHeld ?_
              rotate_left 2
              · simp only [List.getElem?_toArray, List.getElem?_cons_zero, List.getElem?_cons_succ]; rfl
              · rfl
              · intro _ hSw; (try dsimp only at hSw); go_simp <;> with_reducible rfl
              (try simp only [Act.put, List.setIfInBounds_toArray, List.set_cons_zero, List.set_cons_succ])
              refine wpAnyH_take (i := 23) (oi := ?_) (v := ?_) ?_ (by kernel_rfl) (by kernel_rfl) (by kernel_rfl) (fun _ _ _ h => h) (Or.inl ⟨?_, ?_⟩) hHeld ?_
              rotate_left 2
              · simp only [List.getElem?_toArray, List.getElem?_cons_zero, List.getElem?_cons_succ]; rfl
              · rfl
              · intro _ hSw; (try dsimp only at hSw); go_simp <;> with_reducible rfl
              (try simp only [Act.put, List.setIfInBounds_toArray, List.set_cons_zero, List.set_cons_succ])
              refine wpAnyH_take (i := 24) (oi := ?_) (v := ?_) ?_ (by kernel_rfl) (by kernel_rfl) (by kernel_rfl) (fun _ _ _ h => h) (Or.inl ⟨?_, ?_⟩) hHeld ?_
              rotate_left 2
              · simp only [List.getElem?_toArray, List.getElem?_cons_zero, List.getElem?_cons_succ]; rfl
              · rfl
              · intro _ hSw; (try dsimp only at hSw); go_simp <;> with_reducible rfl
              (try simp only [Act.put, List.setIfInBounds_toArray, List.set_cons_zero, List.set_cons_succ])
              refine wpAnyH_take (i := 25) (oi := ?_) (v := ?_) ?_ (by kernel_rfl) (by kernel_rfl) (by kernel_rfl) (fun _ _ _ h => h) (Or.inl ⟨?_, ?_⟩) hHeld ?_
              rotate_left 2
              · simp only [List.getElem?_toArray, List.getElem?_cons_zero, List.getElem?_cons_succ]; rfl
              · rfl
              · intro _ hSw; (try dsimp only at hSw); go_simp <;> with_reducible rfl
              (try simp only [Act.put, List.setIfInBounds_toArray, List.set_cons_zero, List.set_cons_succ])
              refine wpAnyH_take (i := 26) (oi := ?_) (v := undef) ?_ (by kernel_rfl) (by kernel_rfl) (by kernel_rfl) (fun _ _ _ h => h) (Or.inr ⟨?_, rfl⟩) hHeld ?_
              rotate_left 1
              · simp only [List.getElem?_toArray, List.getElem?_cons_zero, List.getElem?_cons_succ]; rfl
              · rfl
              (try simp only [Act.put, List.setIfInBounds_toArray, List.set_cons_zero, List.set_cons_succ])
              refine wpAnyH_take (i := 27) (oi := ?_) (v := undef) ?_ (by kernel_rfl) (by kernel_rfl) (by kernel_rfl) (fun _ _ _ h => h) (Or.inr ⟨?_, rfl⟩) hHeld ?_
              rotate_left 1
              · simp only [List.getElem?_toArray, List.getElem?_cons_zero, List.getElem?_cons_succ]; rfl
              · rfl
              (try simp only [Act.put, List.setIfInBounds_toArray, List.set_cons_zero, List.set_cons_succ])
              refine wpAnyH_take (i := 28) (oi := ?_) (v := ?_) ?_ (by kernel_rfl) (by kernel_rfl) (by kernel_rfl) (fun _ _ _ h => h) (Or.inl ⟨?_, ?_⟩) hHeld ?_
              rotate_left 2
              · simp only [List.getElem?_toArray, List.getElem?_cons_zero, List.getElem?_cons_succ]; rfl
              · rfl
              · intro _ hSw; (try dsimp only at hSw); go_simp <;> with_reducible rfl
              (try simp only [Act.put, List.setIfInBounds_toArray, List.set_cons_zero, List.set_cons_succ])
              refine wpAnyH_take (i := 29) (oi := ?_) (v := ?_) ?_ (by kernel_rfl) (by kernel_rfl) (by kernel_rfl) (fun _ _ _ h => h) (Or.inl ⟨?_, ?_⟩) hHeld ?_
              rotate_left 2
              · simp only [List.getElem?_toArray, List.getElem?_cons_zero, List.getElem?_cons_succ]; rfl
              · rfl
              · intro _ hSw; (try dsimp only at hSw); go_simp <;> with_reducible rfl
              (try simp only [Act.put, List.setIfInBounds_toArray, List.set_cons_zero, List.set_cons_succ])
              refine wpAnyH_take (i := 30) (oi := ?_) (v := ?_) ?_ (by kernel_rfl) (by kernel_rfl) (by kernel_rfl) (fun _ _ _ h => h) (Or.inl ⟨?_, ?_⟩) hHeld ?_
              rotate_left 2
              · simp only [List.getElem?_toArray, List.getElem?_cons_zero, List.getElem?_cons_succ]; rfl
              · rfl
              · intro _ hSw; (try dsimp only at hSw); go_simp <;> with_reducible rfl
              (try simp only [Act.put, List.setIfInBounds_toArray, List.set_cons_zero, List.set_cons_succ])
              refine wpAnyH_take (i := 31) (oi := ?_) (v := ?_) ?_ (by kernel_rfl) (by kernel_rfl) (by kernel_rfl) (fun _ _ _ h => h) (Or.inl ⟨?_, ?_⟩) hHeld ?_
              rotate_left 2
              · simp only [List.getElem?_toArray, List.getElem?_cons_zero, List.getElem?_cons_succ]; rfl
              · rfl
              · intro _ hSw; (try dsimp only at hSw); go_simp <;> with_reducible rfl
              (try simp only [Act.put, List.setIfInBounds_toArray, List.set_cons_zero, List.set_cons_succ])
              refine wpAnyH_take (i := 32) (oi := ?_) (v := ?_) ?_ (by kernel_rfl) (by kernel_rfl) (by kernel_rfl) (fun _ _ _ h => h) (Or.inl ⟨?_, ?_⟩) hHeld ?_
              rotate_left 2
              · simp only [List.getElem?_toArray, List.getElem?_cons_zero, List.getElem?_cons_succ]; rfl
              · rfl
              · intro _ hSw; (try dsimp only at hSw); go_simp <;> with_reducible rfl
              (try simp only [Act.put, List.setIfInBounds_toArray, List.set_cons_zero, List.set_cons_succ])
              refine wpAnyH_take (i := 33) (oi := ?_) (v := ?_) ?_ (by kernel_rfl) (by kernel_rfl) (by kernel_rfl) (fun _ _ _ h => h) (Or.inl ⟨?_, ?_⟩) hHeld ?_
              rotate_left 2
              · simp only [List.getElem?_toArray, List.getElem?_cons_zero, List.getElem?_cons_succ]; rfl
              · rfl
              · intro _ hSw; (try dsimp only at hSw); go_simp <;> with_reducible rfl
              (try simp only [Act.put, List.setIfInBounds_toArray, List.set_cons_zero, List.set_cons_succ])
              refine wpAnyH_take (i := 35) (oi := ?_) (v := ?_) ?_ (by kernel_rfl) (by kernel_rfl) (by kernel_rfl) (fun _ _ _ h => h) (Or.inl ⟨?_, ?_⟩) hHeld ?_
              rotate_left 2
              · simp only [List.getElem?_toArray, List.getElem?_cons_zero, List.getElem?_cons_succ]; rfl
              · rfl
              · intro _ hSw; (try dsimp only at hSw); go_simp <;> with_reducible rfl
              (try simp only [Act.put, List.setIfInBounds_toArray, List.set_cons_zero, List.set_cons_succ])
              refine wpAnyH_take (i := 36) (oi := ?_) (v := ?_) ?_ (by kernel_rfl) (by kernel_rfl) (by kernel_rfl) (fun _ _ _ h => h) (Or.inl ⟨?_, ?_⟩) hHeld ?_
              rotate_left 2
              · simp only [List.getElem?_toArray, List.getElem?_cons_zero, List.getElem?_cons_succ]; rfl
              · rfl
              · intro _ hSw; (try dsimp only at hSw); go_simp <;> with_reducible rfl
              (try simp only [Act.put, List.setIfInBounds_toArray, List.set_cons_zero, List.set_cons_succ])
              refine wpAnyH_take (i := 37) (oi := ?_) (v := ?_) ?_ (by kernel_rfl) (by kernel_rfl) (by kernel_rfl) (fun _ _ _ h => h) (Or.inl ⟨?_, ?_⟩) hHeld ?_
              rotate_left 2
              · simp only [List.getElem?_toArray, List.getElem?_cons_zero, List.getElem?_cons_succ]; rfl
              · rfl
              · intro _ hSw; (try dsimp only at hSw); go_simp <;> with_reducible rfl
              (try simp only [Act.put, List.setIfInBounds_toArray, List.set_cons_zero, List.set_cons_succ])
              refine wpAnyH_ready (rs := [34]) (by kernel_rfl) (by simp) ?_
              refine AllReadyH.cons (o := ?_) ?_ (fun K hK => ?_) AllReadyH.nil
              rotate_left 1
              · simp only [List.getElem?_toArray, List.getElem?_cons_zero, List.getElem?_cons_succ]; rfl
              clear hHeld
              go_simp; go_at_call 18; refine (HVR.out _ HSB2.out.info).mono ?_; rintro e wC ⟨u1, rfl, hm1, hiC, huC⟩; have HSC2 := Lib.hid (HSB2.out.step hiC huC); have HM1 := Lib.hid hm1; clear hiC huC hm1
              refine hK.out _ _ ?_ (fun hHeld => ?_)
              · (try dsimp only); first | exact HKE.out _ HSF.out.upd | exact HKE.out _ HSE.out.upd | exact HKE.out _ HSC2.out.upd | exact HKE.out _ HSB2.out.upd | exact HKE.out _ HSd.out.upd | exact HKE.out _ HSA.out.upd
              clear hK K
              (try simp only [Act.put, List.setIfInBounds_toArray, List.set_cons_zero, List.set_cons_succ])
              refine wpAnyH_ready (rs := [38]) (by kernel_rfl) (by simp) ?_
              refine AllReadyH.cons (o := ?_) ?_ (fun K hK => ?_) AllReadyH.nil
              rotate_left 1
              · simp only [List.getElem?_toArray, List.getElem?_cons_zero, List.getElem?_cons_succ]; rfl
              clear hHeld
              go_simp; go_at_call 19; refine (HRR.out _ HSC2.out.upd).mono ?_; rintro e wE ⟨u2, rfl, hoE, huE⟩; have HSE := Lib.hid (HSC2.out.same huE); have HM1E := Lib.hid (HM1.out.upd huE (by simp)); have HM2E := Lib.hid (MineI.of hoE HSC2.out.lt); clear huE hoE
              refine hK.out _ _ ?_ (fun hHeld => ?_)
              · (try dsimp only); first | exact HKE.out _ HSF.out.upd | exact HKE.out _ HSE.out.upd | exact HKE.out _ HSC2.out.upd | exact HKE.out _ HSB2.out.upd | exact HKE.out _ HSd.out.upd | exact HKE.out _ HSA.out.upd
              clear hK K
              (try simp only [Act.put, List.setIfInBounds_toArray, List.set_cons_zero, List.set_cons_succ])
              refine wpAnyH_ready (rs := [39]) (by kernel_rfl) (by simp) ?_
              refine AllReadyH.cons (o := ?_) ?_ (fun K hK => ?_) AllReadyH.nil
              rotate_left 1
              · simp only [List.getElem?_toArray, List.getElem?_cons_zero, List.getElem?_cons_succ]; rfl
              clear hHeld
              go_simp; go_at_call 17; refine (same_mine HM1E.out HM2E.out (by omega)).mono ?_; rintro e wF ⟨rfl, huF⟩; have HSF := Lib.hid (HSE.out.same huF); clear huF
              refine hK.out _ _ ?_ (fun hHeld => ?_)
              · (try dsimp only); first | exact HKE.out _ HSF.out.upd | exact HKE.out _ HSE.out.upd | exact HKE.out _ HSC2.out.upd | exact HKE.out _ HSB2.out.upd | exact HKE.out _ HSd.out.upd | exact HKE.out _ HSA.out.upd
              clear hK K
              (try simp only [Act.put, List.setIfInBounds_toArray, List.set_cons_zero, List.set_cons_succ])
              refine wpAnyH_take (i := 40) (oi := ?_) (v := ?_) ?_ (by kernel_rfl) (by kernel_rfl) (by kernel_rfl) (fun _ _ _ h => h) (Or.inl ⟨?_, ?_⟩) hHeld ?_
              rotate_left 2
              · simp only [List.getElem?_toArray, List.getElem?_cons_zero, List.getElem?_cons_succ]; rfl
              · rfl
              · intro _ hSw; (try dsimp only at hSw); go_simp <;> with_reducible rfl
              (try simp only [Act.put, List.setIfInBounds_toArray, List.set_cons_zero, List.set_cons_succ])
              refine wpAnyH_take (i := 41) (oi := ?_) (v := ?_) ?_ (by kernel_rfl) (by kernel_rfl) (by kernel_rfl) (fun _ _ _ h => h) (Or.inl ⟨?_, ?_⟩) hHeld ?_
              rotate_left 2
              · simp only [List.getElem?_toArray, List.getElem?_cons_zero, List.getElem?_cons_succ]; rfl
              · rfl
              · intro _ hSw; (try dsimp only at hSw); go_simp <;> with_reducible rfl
              (try simp only [Act.put, List.setIfInBounds_toArray, List.set_cons_zero, List.set_cons_succ])
              refine wpAnyH_done (by kernel_rfl) ?_ _
              refine NoPanic.normal ?_
              clear hHeld HSd HSA HSB2 HSC2 HSE HM1 HM1E HM2E HVR HRR HRC HKE
              rw [hq2] at HSF
              go_wp2_with fail
              go_roundw
              case rel => exact ⟨i + 1, nq + 2, by omega, by go_num, rfl, by omega, by omega, HSF.out⟩
              case measure => simp [intOf]; omega
            | false =>
              have hav : atV s m.code.length i = .tuple #[.string ⟨#[]⟩, .bool false] := by
                unfold atV
                rw [Int.toNat_natCast, if_neg (fun hh => by rw [hs] at hh; cases hh.2.2)]
                rfl
              have hrs : rseen s m.code.length i = false := by
                unfold rseen seenF
                rw [Int.toNat_natCast, hs, Bool.and_false]
              rw [hav] at HSTK
              rw [hrs] at HRC
              generalize bs (s.stk.getD i []) = T at HKE
              clear hav hrs hs e1
              cases hTE : T.toList.isEmpty with
              | true =>
                go_wp2_with fail
                refine HSTK.out.mono ?_
                rintro e wA ⟨rfl, hiA, huA⟩
                have HSA := Lib.hid (HSD.out.step hiA huA)
                clear hiA huA HSTK HSD c0 c1 hk3
                have hk := HKE.out _ HSA.out.upd
                have HSd := Lib.hid (HSA.out.same (Upd.refl [] wA).drew)
                go_wp2_with fail
                refine wp_region_noPanic ?_
                refine wp_region_held_drew (S := (fun W => W.cell? ⟨xb, 0, none⟩ = some (.slice cp p.cs.length cc) ∧ W.cell? ⟨xb, 1, none⟩ = some (.slice (some ⟨bm, mo, none⟩) p.ms.length mc) ∧ W.cell? ⟨xb, 2, none⟩ = some (.slice (some ⟨b, o, none⟩) ss.length rc) ∧ W.cell? ⟨b, o + kk * 3 + 1, none⟩ = some (.slice (some ⟨gs, 0, none⟩) m.code.length m.code.length) ∧ W.cell? ⟨gs, i, none⟩ = some (.string T))) (by kernel_rfl) ?_ (fun hHeld => ?_)
                · (try dsimp only); first | exact HKE.out _ HSF.out.upd | exact HKE.out _ HSE.out.upd | exact HKE.out _ HSC2.out.upd | exact HKE.out _ HSB2.out.upd | exact HKE.out _ HSd.out.upd | exact HKE.out _ HSA.out.upd
                refine wpAnyH_take (i := 0) (oi := ?_) (v := ?_) ?_ (by kernel_rfl) (by kernel_rfl) (by kernel_rfl) (fun _ _ _ h => h) (Or.inl ⟨?_, ?_⟩) hHeld ?_
                rotate_left 2
                · simp only [List.getElem?_toArray, List.getElem?_cons_zero]; rfl
                · rfl
                · intro _ hSw; (try dsimp only at hSw); go_simp <;> with_reducible rfl
                (try simp only [Act.put, List.setIfInBounds_toArray, List.set_cons_zero, List.set_cons_succ])
                refine wpAnyH_take (i := 1) (oi := ?_) (v := ?_) ?_ (by kernel_rfl) (by kernel_rfl) (by kernel_rfl) (fun _ _ _ h => h) (Or.inl ⟨?_, ?_⟩) hHeld ?_
                rotate_left 2
                · simp only [List.getElem?_toArray, List.getElem?_cons_zero, List.getElem?_cons_succ]; rfl
                · rfl
                · intro _ hSw; (try dsimp only at hSw); go_simp <;> with_reducible rfl
                (try simp only [Act.put, List.setIfInBounds_toArray, List.set_cons_zero, List.set_cons_succ])
                refine wpAnyH_take (i := 2) (oi := ?_) (v := ?_) ?_ (by kernel_rfl) (by kernel_rfl) (by kernel_rfl) (fun _ _ _ h => h) (Or.inl ⟨?_, ?_⟩) hHeld ?_
                rotate_left 2
                · simp only [List.getElem?_toArray, List.getElem?_cons_zero, List.getElem?_cons_succ]; rfl
                · rfl
                · intro _ hSw; (try dsimp only at hSw); go_simp <;> with_reducible rfl
                (try simp only [Act.put, List.setIfInBounds_toArray, List.set_cons_zero, List.set_cons_succ])
                refine wpAnyH_take (i := 3) (oi := ?_) (v := ?_) ?_ (by kernel_rfl) (by kernel_rfl) (by kernel_rfl) (fun _ _ _ h => h) (Or.inl ⟨?_, ?_⟩) hHeld ?_
                rotate_left 2
                · simp only [List.getElem?_toArray, List.getElem?_cons_zero, List.getElem?_cons_succ]; rfl
                · rfl
                · intro _ hSw; (try dsimp only at hSw); go_simp <;> with_reducible rfl
                (try simp only [Act.put, List.setIfInBounds_toArray, List.set_cons_zero, List.set_cons_succ])
                refine wpAnyH_ready (rs := [4]) (by kernel_rfl) (by simp) ?_
                refine AllReadyH.cons (o := ?_) ?_ (fun K hK => ?_) AllReadyH.nil
                rotate_left 1
                · simp only [List.getElem?_toArray, List.getElem?_cons_zero, List.getElem?_cons_succ]; rfl
                clear hHeld
                go_simp; go_at_call 16; refine (HRC.out _ HSd.out.upd).mono ?_; rintro e wB ⟨rfl, huB⟩; have HSB2 := Lib.hid (HSd.out.same huB); clear huB
                refine hK.out _ _ ?_ (fun hHeld => ?_)
                · (try dsimp only); first | exact HKE.out _ HSF.out.upd | exact HKE.out _ HSE.out.upd | exact HKE.out _ HSC2.out.upd | exact HKE.out _ HSB2.out.upd | exact HKE.out _ HSd.out.upd | exact HKE.out _ HSA.out.upd
                clear hK K
                (try simp only [Act.put, List.setIfInBounds_toArray, List.set_cons_zero, List.set_cons_succ])
                refine wpAnyH_take (i := 5) (oi := ?_) (v := ?_) ?_ (by kernel_rfl) (by kernel_rfl) (by kernel_rfl) (fun _ _ _ h => h) (Or.inl ⟨?_, ?_⟩) hHeld ?_
                rotate_left 2
                · simp only [List.getElem?_toArray, List.getElem?_cons_zero, List.getElem?_cons_succ]; rfl
                · rfl
                · intro _ hSw; (try dsimp only at hSw); go_simp <;> with_reducible rfl
                (try simp only [Act.put, List.setIfInBounds_toArray, List.set_cons_zero, List.set_cons_succ])
                refine wpAnyH_take (i := 6) (oi := ?_) (v := ?_) ?_ (by kernel_rfl) (by kernel_rfl) (by kernel_rfl) (fun _ _ _ h => h) (Or.inl ⟨?_, ?_⟩) hHeld ?_
                rotate_left 2
                · simp only [List.getElem?_toArray, List.getElem?_cons_zero, List.getElem?_cons_succ]; rfl
                · rfl
                · intro _ hSw; (try dsimp only at hSw); go_simp <;> with_reducible rfl
                (try simp only [Act.put, List.setIfInBounds_toArray, List.set_cons_zero, List.set_cons_succ])
                refine wpAnyH_take (i := 7) (oi := ?_) (v := ?_) ?_ (by kernel_rfl) (by kernel_rfl) (by kernel_rfl) (fun _ _ _ h => h) (Or.inl ⟨?_, ?_⟩) hHeld ?_
                rotate_left 2
                · simp only [List.getElem?_toArray, List.getElem?_cons_zero, List.getElem?_cons_succ]; rfl
                · rfl
                · intro _ hSw; (try dsimp only at hSw); go_simp <;> with_reducible rfl
                (try simp only [Act.put, List.setIfInBounds_toArray, List.set_cons_zero, List.set_cons_succ])
                refine wpAnyH_take (i := 8) (oi := ?_) (v := ?_) ?_ (by kernel_rfl) (by kernel_rfl) (by kernel_rfl) (fun _ _ _ h => h) (Or.inl ⟨?_, ?_⟩) hHeld ?_
                rotate_left 2
                · simp only [List.getElem?_toArray, List.getElem?_cons_zero, List.getElem?_cons_succ]; rfl
                · rfl
                · intro _ hSw; (try dsimp only at hSw); go_simp <;> with_reducible rfl
                (try simp only [Act.put, List.setIfInBounds_toArray, List.set_cons_zero, List.set_cons_succ])
                refine wpAnyH_take (i := 9) (oi := ?_) (v := ?_) ?_ (by kernel_rfl) (by kernel_rfl) (by kernel_rfl) (fun _ _ _ h => h) (Or.inl ⟨?_, ?_⟩) hHeld ?_
                rotate_left 2
                · simp only [List.getElem?_toArray, List.getElem?_cons_zero, List.getElem?_cons_succ]; rfl
                · rfl
                · intro _ hSw; (try dsimp only at hSw); go_simp <;> with_reducible rfl
                (try simp only [Act.put, List.setIfInBounds_toArray, List.set_cons_zero, List.set_cons_succ])
                refine wpAnyH_take (i := 10) (oi := ?_) (v := ?_) ?_ (by kernel_rfl) (by kernel_rfl) (by kernel_rfl) (fun _ _ _ h => h) (Or.inl ⟨?_, ?_⟩) hHeld ?_
                rotate_left 2
                · simp only [List.getElem?_toArray, List.getElem?_cons_zero, List.getElem?_cons_succ]; rfl
                · rfl
                · intro _ hSw; (try dsimp only at hSw); go_simp <;> with_reducible rfl
                (try simp only [Act.put, List.setIfInBounds_toArray, List.set_cons_zero, List.set_cons_succ])
                refine wpAnyH_take (i := 11) (oi := ?_) (v := ?_) ?_ (by kernel_rfl) (by kernel_rfl) (by kernel_rfl) (fun _ _ _ h => h) (Or.inl ⟨?_, ?_⟩) hHeld ?_
                rotate_left 2
                · simp only [List.getElem?_toArray, List.getElem?_cons_zero, List.getElem?_cons_succ]; rfl
                · rfl
                · intro _ hSw; (try dsimp only at hSw); go_simp <;> with_reducible rfl
                (try simp only [Act.put, List.setIfInBounds_toArray, List.set_cons_zero, List.set_cons_succ])
                refine wpAnyH_take (i := 12) (oi := ?_) (v := ?_) ?_ (by kernel_rfl) (by kernel_rfl) (by kernel_rfl) (fun _ _ _ h => h) (Or.inl ⟨?_, ?_⟩) hHeld ?_
                rotate_left 2
                · simp only [List.getElem?_toArray, List.getElem?_cons_zero, List.getElem?_cons_succ]; rfl
                · rfl
                · intro _ hSw; (try dsimp only at hSw); go_simp <;> with_reducible rfl
                (try simp only [Act.put, List.setIfInBounds_toArray, List.set_cons_zero, List.set_cons_succ])
                refine wpAnyH_take (i := 13) (oi := ?_) (v := ?_) ?_ (by kernel_rfl) (by kernel_rfl) (by kernel_rfl) (fun _ _ _ h => h) (Or.inl ⟨?_, ?_⟩) hHeld ?_
                rotate_left 2
                · simp only [List.getElem?_toArray, List.getElem?_cons_zero, List.getElem?_cons_succ]; rfl
                · rfl
                · intro _ hSw; (try dsimp only at hSw); go_simp <;> with_reducible rfl
                (try simp only [Act.put, List.setIfInBounds_toArray, List.set_cons_zero, List.set_cons_succ])
                refine wpAnyH_take (i := 14) (oi := ?_) (v := ?_) ?_ (by kernel_rfl) (by kernel_rfl) (by kernel_rfl) (fun _ _ _ h => h) (Or.inl ⟨?_, ?_⟩) hHeld ?_
                rotate_left 2
                · simp only [List.getElem?_toArray, List.getElem?_cons_zero, List.getElem?_cons_succ]; rfl
                · rfl
                · intro _ hSw; (try dsimp only at hSw); go_simp <;> with_reducible rfl
                (try simp only [Act.put, List.setIfInBounds_toArray, List.set_cons_zero, List.set_cons_succ])
                refine wpAnyH_take (i := 15) (oi := ?_) (v := ?_) ?_ (by kernel_rfl) (by kernel_rfl) (by kernel_rfl) (fun _ _ _ h => h) (Or.inl ⟨?_, ?_⟩) hHeld ?_
                rotate_left 2
                · simp only [List.getElem?_toArray, List.getElem?_cons_zero, List.getElem?_cons_succ]; rfl
                · rfl
                · intro _ hSw; (try dsimp only at hSw); go_simp <;> with_reducible rfl
                (try simp only [Act.put, List.setIfInBounds_toArray, List.set_cons_zero, List.set_cons_succ])
                refine wpAnyH_take (i := 16) (oi := ?_) (v := ?_) ?_ (by kernel_rfl) (by kernel_rfl) (by kernel_rfl) (fun _ _ _ h => h) (Or.inl ⟨?_, ?_⟩) hHeld ?_
                rotate_left 2
                · simp only [List.getElem?_toArray, List.getElem?_cons_zero, List.getElem?_cons_succ]; rfl
                · rfl
                · intro _ hSw; (try dsimp only at hSw); go_simp <;> with_reducible rfl
                (try simp only [Act.put, List.setIfInBounds_toArray, List.set_cons_zero, List.set_cons_succ])
                refine wpAnyH_take (i := 17) (oi := ?_) (v := ?_) ?_ (by kernel_rfl) (by kernel_rfl) (by kernel_rfl) (fun _ _ _ h => h) (Or.inl ⟨?_, ?_⟩) hHeld ?_
                rotate_left 2
                · simp only [List.getElem?_toArray, List.getElem?_cons_zero, List.getElem?_cons_succ]; rfl
                · rfl
                · intro _ hSw; (try dsimp only at hSw); go_simp <;> with_reducible rfl
                (try simp only [Act.put, List.setIfInBounds_toArray, List.set_cons_zero, List.set_cons_succ])
                refine wpAnyH_take (i := 18) (oi := ?_) (v := ?_) ?_ (by kernel_rfl) (by kernel_rfl) (by kernel_rfl) (fun _ _ _ h => h) (Or.inl ⟨?_, ?_⟩) hHeld ?_
                rotate_left 2
                · simp only [List.getElem?_toArray, List.getElem?_cons_zero, List.getElem?_cons_succ]; rfl
                · rfl
                · intro _ hSw; (try dsimp only at hSw); go_simp <;> with_reducible rfl
                (try simp only [Act.put, List.setIfInBounds_toArray, List.set_cons_zero, List.set_cons_succ])
                refine wpAnyH_take (i := 19) (oi := ?_) (v := undef) ?_ (by kernel_rfl) (by kernel_rfl) (by kernel_rfl) (fun _ _ _ h => h) (Or.inr ⟨?_, rfl⟩) hHeld ?_
                rotate_left 1
                · simp only [List.getElem?_toArray, List.getElem?_cons_zero, List.getElem?_cons_succ]; rfl
                · rfl
                (try simp only [Act.put, List.setIfInBounds_toArray, List.set_cons_zero, List.set_cons_succ])
                refine wpAnyH_take (i := 20) (oi := ?_) (v := ?_) ?_ (by kernel_rfl) (by kernel_rfl) (by kernel_rfl) (fun _ _ _ h => h) (Or.inl ⟨?_, ?_⟩) hHeld ?_
                rotate_left 2
                · simp only [List.getElem?_toArray, List.getElem?_cons_zero, List.getElem?_cons_succ]; rfl
                · rfl
                · intro _ hSw; (try dsimp only at hSw); go_simp <;> with_reducible rfl
                (try simp only [Act.put, List.setIfInBounds_toArray, List.set_cons_zero, List.set_cons_succ])
                refine wpAnyH_take (i := 21) (oi := ?_) (v := ?_) ?_ (by kernel_rfl) (by kernel_rfl) (by kernel_rfl) (fun _ _ _ h => h) (Or.inl ⟨?_, ?_⟩) hHeld ?_
                rotate_left 2
                · simp only [List.getElem?_toArray, List.getElem?_cons_zero, List.getElem?_cons_succ]; rfl
                · rfl
                · intro _ hSw; (try dsimp only at hSw); go_simp <;> with_reducible rfl
                (try simp only [Act.put, List.setIfInBounds_toArray, List.set_cons_zero, List.set_cons_succ])
                refine wpAnyH_take (i := 22) (oi := ?_) (v := ?_) ?_ (by kernel_rfl) (by kernel_rfl) (by kernel_rfl) (fun _ _ _ h => h) (Or.inl ⟨?_, ?_⟩) hHeld ?_
                rotate_left 2
                · simp only [List.getElem?_toArray, List.getElem?_cons_zero, List.getElem?_cons_succ]; rfl
                · rfl
                · intro _ hSw; (try dsimp only at hSw); go_simp <;> with_reducible rfl
                (try simp only [Act.put, List.setIfInBounds_toArray, List.set_cons_zero, List.set_cons_succ])
                refine wpAnyH_take (i := 23) (oi := ?_) (v := ?_) ?_ (by kernel_rfl) (by kernel_rfl) (by kernel_rfl) (fun _ _ _ h => h) (Or.inl ⟨?_, ?_⟩) hHeld ?_
                rotate_left 2
                · simp only [List.getElem?_toArray, List.getElem?_cons_zero, List.getElem?_cons_succ]; rfl
                · rfl
                · intro _ hSw; (try dsimp only at hSw); go_simp <;> with_reducible rfl
                (try simp only [Act.put, List.setIfInBounds_toArray, List.set_cons_zero, List.set_cons_succ])
                refine wpAnyH_take (i := 24) (oi := ?_) (v := ?_) ?_ (by kernel_rfl) (by kernel_rfl) (by kernel_rfl) (fun _ _ _ h => h) (Or.inl ⟨?_, ?_⟩) hHeld ?_
                rotate_left 2
                · simp only [List.getElem?_toArray, List.getElem?_cons_zero, List.getElem?_cons_succ]; rfl
                · rfl
                · intro _ hSw; (try dsimp only at hSw); go_simp <;> with_reducible rfl
                (try simp only [Act.put, List.setIfInBounds_toArray, List.set_cons_zero, List.set_cons_succ])
                refine wpAnyH_take (i := 25) (oi := ?_) (v := ?_) ?_ (by kernel_rfl) (by kernel_rfl) (by kernel_rfl) (fun _ _ _ h => h) (Or.inl ⟨?_, ?_⟩) hHeld ?_
                rotate_left 2
                · simp only [List.getElem?_toArray, List.getElem?_cons_zero, List.getElem?_cons_succ]; rfl
                · rfl
                · intro _ hSw; (try dsimp only at hSw); go_simp <;> with_reducible rfl
                (try simp only [Act.put, List.setIfInBounds_toArray, List.set_cons_zero, List.set_cons_succ])
                refine wpAnyH_take (i := 26) (oi := ?_) (v := ?_) ?_ (by kernel_rfl) (by kernel_rfl) (by kernel_rfl) (fun _ _ _ h => h) (Or.inl ⟨?_, ?_⟩) hHeld ?_
                rotate_left 2
                · simp only [List.getElem?_toArray, List.getElem?_cons_zero, List.getElem?_cons_succ]; rfl
                · rfl
                · intro _ hSw; (try dsimp only at hSw); go_simp <;> with_reducible rfl
                (try simp only [Act.put, List.setIfInBounds_toArray, List.set_cons_zero, List.set_cons_succ])
                refine wpAnyH_take (i := 27) (oi := ?_) (v := ?_) ?_ (by kernel_rfl) (by kernel_rfl) (by kernel_rfl) (fun _ _ _ h => h) (Or.inl ⟨?_, ?_⟩) hHeld ?_
                rotate_left 2
                · simp only [List.getElem?_toArray, List.getElem?_cons_zero, List.getElem?_cons_succ]; rfl
                · rfl
                · intro _ hSw; (try dsimp only at hSw); go_simp <;> with_reducible rfl
                (try simp only [Act.put, List.setIfInBounds_toArray, List.set_cons_zero, List.set_cons_succ])
                refine wpAnyH_take (i := 28) (oi := ?_) (v := ?_) ?_ (by kernel_rfl) (by kernel_rfl) (by kernel_rfl) (fun _ _ _ h => h) (Or.inl ⟨?_, ?_⟩) hHeld ?_
                rotate_left 2
                · simp only [List.getElem?_toArray, List.getElem?_cons_zero, List.getElem?_cons_succ]; rfl
                · rfl
                · intro _ hSw; (try dsimp only at hSw); go_simp <;> with_reducible rfl
                (try simp only [Act.put, List.setIfInBounds_toArray, List.set_cons_zero, List.set_cons_succ])
                refine wpAnyH_take (i := 29) (oi := ?_) (v := ?_) ?_ (by kernel_rfl) (by kernel_rfl) (by kernel_rfl) (fun _ _ _ h => h) (Or.inl ⟨?_, ?_⟩) hHeld ?_
                rotate_left 2
                · simp only [List.getElem?_toArray, List.getElem?_cons_zero, List.getElem?_cons_succ]; rfl
                · rfl
                · intro _ hSw; (try dsimp only at hSw); go_simp <;> with_reducible rfl
                (try simp only [Act.put, List.setIfInBounds_toArray, List.set_cons_zero, List.set_cons_succ])
                refine wpAnyH_take (i := 30) (oi := ?_) (v := ?_) ?_ (by kernel_rfl) (by kernel_rfl) (by kernel_rfl) (fun _ _ _ h => h) (Or.inl ⟨?_, ?_⟩) hHeld ?_
                rotate_left 2
                · simp only [List.getElem?_toArray, List.getElem?_cons_zero, List.getElem?_cons_succ]; rfl
                · rfl
                · intro _ hSw; (try dsimp only at hSw); go_simp <;> with_reducible rfl
                (try simp only [Act.put, List.setIfInBounds_toArray, List.set_cons_zero, List.set_cons_succ])
                refine wpAnyH_take (i := 31) (oi := ?_) (v := ?_) ?_ (by kernel_rfl) (by kernel_rfl) (by kernel_rfl) (fun _ _ _ h => h) (Or.inl ⟨?_, ?_⟩) hHeld ?_
                rotate_left 2
                · simp only [List.getElem?_toArray, List.getElem?_cons_zero, List.getElem?_cons_succ]; rfl
                · rfl
                · intro _ hSw; (try dsimp only at hSw); go_simp <;> with_reducible rfl
                (try simp only [Act.put, List.setIfInBounds_toArray, List.set_cons_zero, List.set_cons_succ])
                refine wpAnyH_take (i := 32) (oi := ?_) (v := ?_) ?_ (by kernel_rfl) (by kernel_rfl) (by kernel_rfl) (fun _ _ _ h => h) (Or.inl ⟨?_, ?_⟩) hHeld ?_
                rotate_left 2
                · simp only [List.getElem?_toArray, List.getElem?_cons_zero, List.getElem?_cons_succ]; rfl
                · rfl
                · intro _ hSw; (try dsimp only at hSw); go_simp <;> with_reducible rfl
                (try simp only [Act.put, List.setIfInBounds_toArray, List.set_cons_zero, List.set_cons_succ])
                refine wpAnyH_take (i := 33) (oi := ?_) (v := ?_) ?_ (by kernel_rfl) (by kernel_rfl) (by kernel_rfl) (fun _ _ _ h => h) (Or.inl ⟨?_, ?_⟩) hHeld ?_
                rotate_left 2
                · simp only [List.getElem?_toArray, List.getElem?_cons_zero, List.getElem?_cons_succ]; rfl
                · rfl
                · intro _ hSw; (try dsimp only at hSw); go_simp <;> with_reducible rfl
                (try simp only [Act.put, List.setIfInBounds_toArray, List.set_cons_zero, List.set_cons_succ])
                refine wpAnyH_take (i := 35) (oi := ?_) (v := ?_) ?_ (by kernel_rfl) (by kernel_rfl) (by kernel_rfl) (fun _ _ _ h => h) (Or.inl ⟨?_, ?_⟩) hHeld ?_
                rotate_left 2
                · simp only [List.getElem?_toArray, List.getElem?_cons_zero, List.getElem?_cons_succ]; rfl
                · rfl
                · intro _ hSw; (try dsimp only at hSw); go_simp <;> with_reducible rfl
                (try simp only [Act.put, List.setIfInBounds_toArray, List.set_cons_zero, List.set_cons_succ])
                refine wpAnyH_take (i := 36) (oi := ?_) (v := ?_) ?_ (by kernel_rfl) (by kernel_rfl) (by kernel_rfl) (fun _ _ _ h => h) (Or.inl ⟨?_, ?_⟩) hHeld ?_
                rotate_left 2
                · simp only [List.getElem?_toArray, List.getElem?_cons_zero, List.getElem?_cons_succ]; rfl
                · rfl
                · intro _ hSw; (try dsimp only at hSw); go_simp <;> with_reducible rfl
                (try simp only [Act.put, List.setIfInBounds_toArray, List.set_cons_zero, List.set_cons_succ])
                refine wpAnyH_take (i := 37) (oi := ?_) (v := ?_) ?_ (by kernel_rfl) (by kernel_rfl) (by kernel_rfl) (fun _ _ _ h => h) (Or.inl ⟨?_, ?_⟩) hHeld ?_
                rotate_left 2
                · simp only [List.getElem?_toArray, List.getElem?_cons_zero, List.getElem?_cons_succ]; rfl
                · rfl
                · intro _ hSw; (try dsimp only at hSw); go_simp <;> with_reducible rfl
                (try simp only [Act.put, List.setIfInBounds_toArray, List.set_cons_zero, List.set_cons_succ])
                refine wpAnyH_ready (rs := [34]) (by kernel_rfl) (by simp) ?_
                refine AllReadyH.cons (o := ?_) ?_ (fun K hK => ?_) AllReadyH.nil
                rotate_left 1
                · simp only [List.getElem?_toArray, List.getElem?_cons_zero, List.getElem?_cons_succ]; rfl
                clear hHeld
                go_simp; go_at_call 18; refine (HVR.out _ HSB2.out.info).mono ?_; rintro e wC ⟨u1, rfl, hm1, hiC, huC⟩; have HSC2 := Lib.hid (HSB2.out.step hiC huC); have HM1 := Lib.hid hm1; clear hiC huC hm1
                refine hK.out _ _ ?_ (fun hHeld => ?_)
                · (try dsimp only); first | exact HKE.out _ HSF.out.upd | exact HKE.out _ HSE.out.upd | exact HKE.out _ HSC2.out.upd | exact HKE.out _ HSB2.out.upd | exact HKE.out _ HSd.out.upd | exact HKE.out _ HSA.out.upd
                clear hK K
                (try simp only [Act.put, List.setIfInBounds_toArray, List.set_cons_zero, List.set_cons_succ])
                refine wpAnyH_ready (rs := [38]) (by kernel_rfl) (by simp) ?_
                refine AllReadyH.cons (o := ?_) ?_ (fun K hK => ?_) AllReadyH.nil
                rotate_left 1
                · simp only [List.getElem?_toArray, List.getElem?_cons_zero, List.getElem?_cons_succ]; rfl
                clear hHeld
                go_simp; go_at_call 19; refine (HRR.out _ HSC2.out.upd).mono ?_; rintro e wE ⟨u2, rfl, hoE, huE⟩; have HSE := Lib.hid (HSC2.out.same huE); have HM1E := Lib.hid (HM1.out.upd huE (by simp)); have HM2E := Lib.hid (MineI.of hoE HSC2.out.lt); clear huE hoE
                refine hK.out _ _ ?_ (fun hHeld => ?_)
                · (try dsimp only); first | exact HKE.out _ HSF.out.upd | exact HKE.out _ HSE.out.upd | exact HKE.out _ HSC2.out.upd | exact HKE.out _ HSB2.out.upd | exact HKE.out _ HSd.out.upd | exact HKE.out _ HSA.out.upd
                clear hK K
                (try simp only [Act.put, List.setIfInBounds_toArray, List.set_cons_zero, List.set_cons_succ])
                refine wpAnyH_ready (rs := [39]) (by kernel_rfl) (by simp) ?_
                refine AllReadyH.cons (o := ?_) ?_ (fun K hK => ?_) AllReadyH.nil
                rotate_left 1
                · simp only [List.getElem?_toArray, List.getElem?_cons_zero, List.getElem?_cons_succ]; rfl
                clear hHeld
                go_simp; go_at_call 17; refine (same_mine HM1E.out HM2E.out (by omega)).mono ?_; rintro e wF ⟨rfl, huF⟩; have HSF := Lib.hid (HSE.out.same huF); clear huF
                refine hK.out _ _ ?_ (fun hHeld => ?_)
                · (try dsimp only); first | exact HKE.out _ HSF.out.upd | exact HKE.out _ HSE.out.upd | exact HKE.out _ HSC2.out.upd | exact HKE.out _ HSB2.out.upd | exact HKE.out _ HSd.out.upd | exact HKE.out _ HSA.out.upd
                clear hK K
                (try simp only [Act.put, List.setIfInBounds_toArray, List.set_cons_zero, List.set_cons_succ])
                refine wpAnyH_take (i := 40) (oi := ?_) (v := ?_) ?_ (by kernel_rfl) (by kernel_rfl) (by kernel_rfl) (fun _ _ _ h => h) (Or.inl ⟨?_, ?_⟩) hHeld ?_
                rotate_left 2
                · simp only [List.getElem?_toArray, List.getElem?_cons_zero, List.getElem?_cons_succ]; rfl
                · rfl
                · intro _ hSw; (try dsimp only at hSw); go_simp <;> with_reducible rfl
                (try simp only [Act.put, List.setIfInBounds_toArray, List.set_cons_zero, List.set_cons_succ])
                refine wpAnyH_take (i := 41) (oi := ?_) (v := ?_) ?_ (by kernel_rfl) (by kernel_rfl) (by kernel_rfl) (fun _ _ _ h => h) (Or.inl ⟨?_, ?_⟩) hHeld ?_
                rotate_left 2
                · simp only [List.getElem?_toArray, List.getElem?_cons_zero, List.getElem?_cons_succ]; rfl
                · rfl
                · intro _ hSw; (try dsimp only at hSw); go_simp <;> with_reducible rfl
                (try simp only [Act.put, List.setIfInBounds_toArray, List.set_cons_zero, List.set_cons_succ])
                refine wpAnyH_done (by kernel_rfl) ?_ _
                refine NoPanic.normal ?_
                clear hHeld HSd HSA HSB2 HSC2 HSE HM1 HM1E HM2E HVR HRR HRC HKE
                rw [hq2] at HSF
                go_wp2_with fail
                go_roundw
                case rel => exact ⟨i + 1, nq + 2, by omega, by go_num, rfl, by omega, by omega, HSF.out⟩
                case measure => simp [intOf]; omega
              | false =>
                go_wp2_with fail
                refine HSTK.out.mono ?_
                rintro e wA ⟨rfl, hiA, huA⟩
                have HSA := Lib.hid (HSD.out.step hiA huA)
                clear hiA huA HSTK HSD c0 c1 hk3
                have hk := HKE.out _ HSA.out.upd
                have HSd := Lib.hid (HSA.out.same (Upd.refl [] wA).drew)
                go_wp2_with fail
                refine wp_region_noPanic ?_
                refine wp_region_held_drew (S := (fun W => W.cell? ⟨xb, 0, none⟩ = some (.slice cp p.cs.length cc) ∧ W.cell? ⟨xb, 1, none⟩ = some (.slice (some ⟨bm, mo, none⟩) p.ms.length mc) ∧ W.cell? ⟨xb, 2, none⟩ = some (.slice (some ⟨b, o, none⟩) ss.length rc) ∧ W.cell? ⟨b, o + kk * 3 + 1, none⟩ = some (.slice (some ⟨gs, 0, none⟩) m.code.length m.code.length) ∧ W.cell? ⟨gs, i, none⟩ = some (.string T))) (by kernel_rfl) ?_ (fun hHeld => ?_)
                · (try dsimp only); first | exact HKE.out _ HSF.out.upd | exact HKE.out _ HSE.out.upd | exact HKE.out _ HSC2.out.upd | exact HKE.out _ HSB2.out.upd | exact HKE.out _ HSd.out.upd | exact HKE.out _ HSA.out.upd
                refine wpAnyH_take (i := 0) (oi := ?_) (v := ?_) ?_ (by kernel_rfl) (by kernel_rfl) (by kernel_rfl) (fun _ _ _ h => h) (Or.inl ⟨?_, ?_⟩) hHeld ?_
                rotate_left 2
                · simp only [List.getElem?_toArray, List.getElem?_cons_zero]; rfl
                · rfl
                · intro _ hSw; (try dsimp only at hSw); go_simp <;> with_reducible rfl
                (try simp only [Act.put, List.setIfInBounds_toArray, List.set_cons_zero, List.set_cons_succ])
                refine wpAnyH_take (i := 1) (oi := ?_) (v := ?_) ?_ (by kernel_rfl) (by kernel_rfl) (by kernel_rfl) (fun _ _ _ h => h) (Or.inl ⟨?_, ?_⟩) hHeld ?_
                rotate_left 2
                · simp only [List.getElem?_toArray, List.getElem?_cons_zero, List.getElem?_cons_succ]; rfl
                · rfl
                · intro _ hSw; (try dsimp only at hSw); go_simp <;> with_reducible rfl
                (try simp only [Act.put, List.setIfInBounds_toArray, List.set_cons_zero, List.set_cons_succ])
                refine wpAnyH_take (i := 2) (oi := ?_) (v := ?_) ?_ (by kernel_rfl) (by kernel_rfl) (by kernel_rfl) (fun _ _ _ h => h) (Or.inl ⟨?_, ?_⟩) hHeld ?_
                rotate_left 2
                · simp only [List.getElem?_toArray, List.getElem?_cons_zero, List.getElem?_cons_succ]; rfl
                · rfl
                · intro _ hSw; (try dsimp only at hSw); go_simp <;> with_reducible rfl
                (try simp only [Act.put, List.setIfInBounds_toArray, List.set_cons_zero, List.set_cons_succ])
                refine wpAnyH_take (i := 3) (oi := ?_) (v := ?_) ?_ (by kernel_rfl) (by kernel_rfl) (by kernel_rfl) (fun _ _ _ h => h) (Or.inl ⟨?_, ?_⟩) hHeld ?_
                rotate_left 2
                · simp only [List.getElem?_toArray, List.getElem?_cons_zero, List.getElem?_cons_succ]; rfl
                · rfl
                · intro _ hSw; (try dsimp only at hSw); go_simp <;> with_reducible rfl
                (try simp only [Act.put, List.setIfInBounds_toArray, List.set_cons_zero, List.set_cons_succ])
                refine wpAnyH_ready (rs := [4]) (by kernel_rfl) (by simp) ?_
                refine AllReadyH.cons (o := ?_) ?_ (fun K hK => ?_) AllReadyH.nil
                rotate_left 1
                · simp only [List.getElem?_toArray, List.getElem?_cons_zero, List.getElem?_cons_succ]; rfl
                clear hHeld
                go_simp; go_at_call 16; refine (HRC.out _ HSd.out.upd).mono ?_; rintro e wB ⟨rfl, huB⟩; have HSB2 := Lib.hid (HSd.out.same huB); clear huB
                refine hK.out _ _ ?_ (fun hHeld => ?_)
                · (try dsimp only); first | exact HKE.out _ HSF.out.upd | exact HKE.out _ HSE.out.upd | exact HKE.out _ HSC2.out.upd | exact HKE.out _ HSB2.out.upd | exact HKE.out _ HSd.out.upd | exact HKE.out _ HSA.out.upd
                clear hK K
                (try simp only [Act.put, List.setIfInBounds_toArray, List.set_cons_zero, List.set_cons_succ])
                refine wpAnyH_take (i := 5) (oi := ?_) (v := ?_) ?_ (by kernel_rfl) (by kernel_rfl) (by kernel_rfl) (fun _ _ _ h => h) (Or.inl ⟨?_, ?_⟩) hHeld ?_
                rotate_left 2
                · simp only [List.getElem?_toArray, List.getElem?_cons_zero, List.getElem?_cons_succ]; rfl
                · rfl
                · intro _ hSw; (try dsimp only at hSw); go_simp <;> with_reducible rfl
                (try simp only [Act.put, List.setIfInBounds_toArray, List.set_cons_zero, List.set_cons_succ])
                refine wpAnyH_take (i := 6) (oi := ?_) (v := ?_) ?_ (by kernel_rfl) (by kernel_rfl) (by kernel_rfl) (fun _ _ _ h => h) (Or.inl ⟨?_, ?_⟩) hHeld ?_
                rotate_left 2
                · simp only [List.getElem?_toArray, List.getElem?_cons_zero, List.getElem?_cons_succ]; rfl
                · rfl
                · intro _ hSw; (try dsimp only at hSw); go_simp <;> with_reducible rfl
                (try simp only [Act.put, List.setIfInBounds_toArray, List.set_cons_zero, List.set_cons_succ])
                refine wpAnyH_take (i := 7) (oi := ?_) (v := ?_) ?_ (by kernel_rfl) (by kernel_rfl) (by kernel_rfl) (fun _ _ _ h => h) (Or.inl ⟨?_, ?_⟩) hHeld ?_
                rotate_left 2
                · simp only [List.getElem?_toArray, List.getElem?_cons_zero, List.getElem?_cons_succ]; rfl
                · rfl
                · intro _ hSw; (try dsimp only at hSw); go_simp <;> with_reducible rfl
                (try simp only [Act.put, List.setIfInBounds_toArray, List.set_cons_zero, List.set_cons_succ])
                refine wpAnyH_take (i := 8) (oi := ?_) (v := ?_) ?_ (by kernel_rfl) (by kernel_rfl) (by kernel_rfl) (fun _ _ _ h => h) (Or.inl ⟨?_, ?_⟩) hHeld ?_
                rotate_left 2
                · simp only [List.getElem?_toArray, List.getElem?_cons_zero, List.getElem?_cons_succ]; rfl
                · rfl
                · intro _ hSw; (try dsimp only at hSw); go_simp <;> with_reducible rfl
                (try simp only [Act.put, List.setIfInBounds_toArray, List.set_cons_zero, List.set_cons_succ])
                refine wpAnyH_take (i := 9) (oi := ?_) (v := ?_) ?_ (by kernel_rfl) (by kernel_rfl) (by kernel_rfl) (fun _ _ _ h => h) (Or.inl ⟨?_, ?_⟩) hHeld ?_
                rotate_left 2
                · simp only [List.getElem?_toArray, List.getElem?_cons_zero, List.getElem?_cons_succ]; rfl
                · rfl
                · intro _ hSw; (try dsimp only at hSw); go_simp <;> with_reducible rfl
                (try simp only [Act.put, List.setIfInBounds_toArray, List.set_cons_zero, List.set_cons_succ])
                refine wpAnyH_take (i := 10) (oi := ?_) (v := ?_) ?_ (by kernel_rfl) (by kernel_rfl) (by kernel_rfl) (fun _ _ _ h => h) (Or.inl ⟨?_, ?_⟩) hHeld ?_
                rotate_left 2
                · simp only [List.getElem?_toArray, List.getElem?_cons_zero, List.getElem?_cons_succ]; rfl
                · rfl
                · intro _ hSw; (try dsimp only at hSw); go_simp <;> with_reducible rfl
                (try simp only [Act.put, List.setIfInBounds_toArray, List.set_cons_zero, List.set_cons_succ])
                refine wpAnyH_take (i := 11) (oi := ?_) (v := ?_) ?_ (by kernel_rfl) (by kernel_rfl) (by kernel_rfl) (fun _ _ _ h => h) (Or.inl ⟨?_, ?_⟩) hHeld ?_
                rotate_left 2
                · simp only [List.getElem?_toArray, List.getElem?_cons_zero, List.getElem?_cons_succ]; rfl
                · rfl
                · intro _ hSw; (try dsimp only at hSw); go_simp <;> with_reducible rfl
                (try simp only [Act.put, List.setIfInBounds_toArray, List.set_cons_zero, List.set_cons_succ])
                refine wpAnyH_take (i := 12) (oi := ?_) (v := ?_) ?_ (by kernel_rfl) (by kernel_rfl) (by kernel_rfl) (fun _ _ _ h => h) (Or.inl ⟨?_, ?_⟩) hHeld ?_
                rotate_left 2
                · simp only [List.getElem?_toArray, List.getElem?_cons_zero, List.getElem?_cons_succ]; rfl
                · rfl
                · intro _ hSw; (try dsimp only at hSw); go_simp <;> with_reducible rfl
                (try simp only [Act.put, List.setIfInBounds_toArray, List.set_cons_zero, List.set_cons_succ])
                refine wpAnyH_take (i := 13) (oi := ?_) (v := ?_) ?_ (by kernel_rfl) (by kernel_rfl) (by kernel_rfl) (fun _ _ _ h => h) (Or.inl ⟨?_, ?_⟩) hHeld ?_
                rotate_left 2
                · simp only [List.getElem?_toArray, List.getElem?_cons_zero, List.getElem?_cons_succ]; rfl
                · rfl
                · intro _ hSw; (try dsimp only at hSw); go_simp <;> with_reducible rfl
                (try simp only [Act.put, List.setIfInBounds_toArray, List.set_cons_zero, List.set_cons_succ])
                refine wpAnyH_take (i := 14) (oi := ?_) (v := ?_) ?_ (by kernel_rfl) (by kernel_rfl) (by kernel_rfl) (fun _ _ _ h => h) (Or.inl ⟨?_, ?_⟩) hHeld ?_
                rotate_left 2
                · simp only [List.getElem?_toArray, List.getElem?_cons_zero, List.getElem?_cons_succ]; rfl
                · rfl
                · intro _ hSw; (try dsimp only at hSw); go_simp <;> with_reducible rfl
                (try simp only [Act.put, List.setIfInBounds_toArray, List.set_cons_zero, List.set_cons_succ])
                refine wpAnyH_take (i := 15) (oi := ?_) (v := ?_) ?_ (by kernel_rfl) (by kernel_rfl) (by kernel_rfl) (fun _ _ _ h => h) (Or.inl ⟨?_, ?_⟩) hHeld ?_
                rotate_left 2
                · simp only [List.getElem?_toArray, List.getElem?_cons_zero, List.getElem?_cons_succ]; rfl
                · rfl
                · intro _ hSw; (try dsimp only at hSw); go_simp <;> with_reducible rfl
                (try simp only [Act.put, List.setIfInBounds_toArray, List.set_cons_zero, List.set_cons_succ])
                refine wpAnyH_take (i := 16) (oi := ?_) (v := ?_) ?_ (by kernel_rfl) (by kernel_rfl) (by kernel_rfl) (fun _ _ _ h => h) (Or.inl ⟨?_, ?_⟩) hHeld ?_
                rotate_left 2
                · simp only [List.getElem?_toArray, List.getElem?_cons_zero, List.getElem?_cons_succ]; rfl
                · rfl
                · intro _ hSw; (try dsimp only at hSw); go_simp <;> with_reducible rfl
                (try simp only [Act.put, List.setIfInBounds_toArray, List.set_cons_zero, List.set_cons_succ])
                refine wpAnyH_take (i := 17) (oi := ?_) (v := ?_) ?_ (by kernel_rfl) (by kernel_rfl) (by kernel_rfl) (fun _ _ _ h => h) (Or.inl ⟨?_, ?_⟩) hHeld ?_
                rotate_left 2
                · simp only [List.getElem?_toArray, List.getElem?_cons_zero, List.getElem?_cons_succ]; rfl
                · rfl
                · intro _ hSw; (try dsimp only at hSw); go_simp <;> with_reducible rfl
                (try simp only [Act.put, List.setIfInBounds_toArray, List.set_cons_zero, List.set_cons_succ])
                refine wpAnyH_take (i := 18) (oi := ?_) (v := ?_) ?_ (by kernel_rfl) (by kernel_rfl) (by kernel_rfl) (fun _ _ _ h => h) (Or.inl ⟨?_, ?_⟩) hHeld ?_
                rotate_left 2
                · simp only [List.getElem?_toArray, List.getElem?_cons_zero, List.getElem?_cons_succ]; rfl
                · rfl
                · intro _ hSw; (try dsimp only at hSw); go_simp <;> with_reducible rfl
                (try simp only [Act.put, List.setIfInBounds_toArray, List.set_cons_zero, List.set_cons_succ])
                refine wpAnyH_take (i := 19) (oi := ?_) (v := ?_) ?_ (by kernel_rfl) (by kernel_rfl) (by kernel_rfl) (fun _ _ _ h => h) (Or.inl ⟨?_, ?_⟩) hHeld ?_
                rotate_left 2
                · simp only [List.getElem?_toArray, List.getElem?_cons_zero, List.getElem?_cons_succ]; rfl
                · rfl
                · intro _ hSw; (try dsimp only at hSw); go_simp <;> with_reducible rfl
                (try simp only [Act.put, List.setIfInBounds_toArray, List.set_cons_zero, List.set_cons_succ])
                refine wpAnyH_take (i := 20) (oi := ?_) (v := ?_) ?_ (by kernel_rfl) (by kernel_rfl) (by kernel_rfl) (fun _ _ _ h => h) (Or.inl ⟨?_, ?_⟩) hHeld ?_
                rotate_left 2
                · simp only [List.getElem?_toArray, List.getElem?_cons_zero, List.getElem?_cons_succ]; rfl
                · rfl
                · intro _ hSw; (try dsimp only at hSw); go_simp <;> with_reducible rfl
                (try simp only [Act.put, List.setIfInBounds_toArray, List.set_cons_zero, List.set_cons_succ])
                refine wpAnyH_take (i := 21) (oi := ?_) (v := ?_) ?_ (by kernel_rfl) (by kernel_rfl) (by kernel_rfl) (fun _ _ _ h => h) (Or.inl ⟨?_, ?_⟩) hHeld ?_
                rotate_left 2
                · simp only [List.getElem?_toArray, List.getElem?_cons_zero, List.getElem?_cons_succ]; rfl
                · rfl
                · intro _ hSw; (try dsimp only at hSw); go_simp <;> with_reducible rfl
                (try simp only [Act.put, List.setIfInBounds_toArray, List.set_cons_zero, List.set_cons_succ])
                refine wpAnyH_take (i := 22) (oi := ?_) (v := ?_) ?_ (by kernel_rfl) (by kernel_rfl) (by kernel_rfl) (fun _ _ _ h => h) (Or.inl ⟨?_, ?_⟩) hHeld ?_
                rotate_left 2
                · simp only [List.getElem?_toArray, List.getElem?_cons_zero, List.getElem?_cons_succ]; rfl
                · rfl
                · intro _ hSw; (try dsimp only at hSw); go_simp <;> with_reducible rfl
                (try simp only [Act.put, List.setIfInBounds_toArray, List.set_cons_zero, List.set_cons_succ])
                refine wpAnyH_take (i := 23) (oi := ?_) (v := ?_) ?_ (by kernel_rfl) (by kernel_rfl) (by kernel_rfl) (fun _ _ _ h => h) (Or.inl ⟨?_, ?_⟩) hHeld ?_
                rotate_left 2
                · simp only [List.getElem?_toArray, List.getElem?_cons_zero, List.getElem?_cons_succ]; rfl
                · rfl
                · intro _ hSw; (try dsimp only at hSw); go_simp <;> with_reducible rfl
                (try simp only [Act.put, List.setIfInBounds_toArray, List.set_cons_zero, List.set_cons_succ])
                refine wpAnyH_take (i := 24) (oi := ?_) (v := ?_) ?_ (by kernel_rfl) (by kernel_rfl) (by kernel_rfl) (fun _ _ _ h => h) (Or.inl ⟨?_, ?_⟩) hHeld ?_
                rotate_left 2
                · simp only [List.getElem?_toArray, List.getElem?_cons_zero, List.getElem?_cons_succ]; rfl
                · rfl
                · intro _ hSw; (try dsimp only at hSw); go_simp <;> with_reducible rfl
                (try simp only [Act.put, List.setIfInBounds_toArray, List.set_cons_zero, List.set_cons_succ])
                refine wpAnyH_take (i := 25) (oi := ?_) (v := ?_) ?_ (by kernel_rfl) (by kernel_rfl) (by kernel_rfl) (fun _ _ _ h => h) (Or.inl ⟨?_, ?_⟩) hHeld ?_
                rotate_left 2
                · simp only [List.getElem?_toArray, List.getElem?_cons_zero, List.getElem?_cons_succ]; rfl
                · rfl
                · intro _ hSw; (try dsimp only at hSw); go_simp <;> with_reducible rfl
                (try simp only [Act.put, List.setIfInBounds_toArray, List.set_cons_zero, List.set_cons_succ])
                refine wpAnyH_take (i := 26) (oi := ?_) (v := ?_) ?_ (by kernel_rfl) (by kernel_rfl) (by kernel_rfl) (fun _ _ _ h => h) (Or.inl ⟨?_, ?_⟩) hHeld ?_
                rotate_left 2
                · simp only [List.getElem?_toArray, List.getElem?_cons_zero, List.getElem?_cons_succ]; rfl
                · rfl
                · intro _ hSw; (try dsimp only at hSw); go_simp <;> with_reducible rfl
                (try simp only [Act.put, List.setIfInBounds_toArray, List.set_cons_zero, List.set_cons_succ])
                refine wpAnyH_take (i := 27) (oi := ?_) (v := ?_) ?_ (by kernel_rfl) (by kernel_rfl) (by kernel_rfl) (fun _ _ _ h => h) (Or.inl ⟨?_, ?_⟩) hHeld ?_
                rotate_left 2
                · simp only [List.getElem?_toArray, List.getElem?_cons_zero, List.getElem?_cons_succ]; rfl
                · rfl
                · intro _ hSw; (try dsimp only at hSw); go_simp <;> with_reducible rfl
                (try simp only [Act.put, List.setIfInBounds_toArray, List.set_cons_zero, List.set_cons_succ])
                refine wpAnyH_take (i := 28) (oi := ?_) (v := ?_) ?_ (by kernel_rfl) (by kernel_rfl) (by kernel_rfl) (fun _ _ _ h => h) (Or.inl ⟨?_, ?_⟩) hHeld ?_
                rotate_left 2
                · simp only [List.getElem?_toArray, List.getElem?_cons_zero, List.getElem?_cons_succ]; rfl
                · rfl
                · intro _ hSw; (try dsimp only at hSw); go_simp <;> with_reducible rfl
                (try simp only [Act.put, List.setIfInBounds_toArray, List.set_cons_zero, List.set_cons_succ])
                refine wpAnyH_take (i := 29) (oi := ?_) (v := ?_) ?_ (by kernel_rfl) (by kernel_rfl) (by kernel_rfl) (fun _ _ _ h => h) (Or.inl ⟨?_, ?_⟩) hHeld ?_
                rotate_left 2
                · simp only [List.getElem?_toArray, List.getElem?_cons_zero, List.getElem?_cons_succ]; rfl
                · rfl
                · intro _ hSw; (try dsimp only at hSw); go_simp <;> with_reducible rfl
                (try simp only [Act.put, List.setIfInBounds_toArray, List.set_cons_zero, List.set_cons_succ])
                refine wpAnyH_take (i := 30) (oi := ?_) (v := ?_) ?_ (by kernel_rfl) (by kernel_rfl) (by kernel_rfl) (fun _ _ _ h => h) (Or.inl ⟨?_, ?_⟩) hHeld ?_
                rotate_left 2
                · simp only [List.getElem?_toArray, List.getElem?_cons_zero, List.getElem?_cons_succ]; rfl
                · rfl
                · intro _ hSw; (try dsimp only at hSw); go_simp <;> with_reducible rfl
                (try simp only [Act.put, List.setIfInBounds_toArray, List.set_cons_zero, List.set_cons_succ])
                refine wpAnyH_take (i := 31) (oi := ?_) (v := ?_) ?_ (by kernel_rfl) (by kernel_rfl) (by kernel_rfl) (fun _ _ _ h => h) (Or.inl ⟨?_, ?_⟩) hHeld ?_
                rotate_left 2
                · simp only [List.getElem?_toArray, List.getElem?_cons_zero, List.getElem?_cons_succ]; rfl
                · rfl
                · intro _ hSw; (try dsimp only at hSw); go_simp <;> with_reducible rfl
                (try simp only [Act.put, List.setIfInBounds_toArray, List.set_cons_zero, List.set_cons_succ])
                refine wpAnyH_take (i := 32) (oi := ?_) (v := ?_) ?_ (by kernel_rfl) (by kernel_rfl) (by kernel_rfl) (fun _ _ _ h => h) (Or.inl ⟨?_, ?_⟩) hHeld ?_
                rotate_left 2
                · simp only [List.getElem?_toArray, List.getElem?_cons_zero, List.getElem?_cons_succ]; rfl
                · rfl
                · intro _ hSw; (try dsimp only at hSw); go_simp <;> with_reducible rfl
                (try simp only [Act.put, List.setIfInBounds_toArray, List.set_cons_zero, List.set_cons_succ])
                refine wpAnyH_take (i := 33) (oi := ?_) (v := ?_) ?_ (by kernel_rfl) (by kernel_rfl) (by kernel_rfl) (fun _ _ _ h => h) (Or.inl ⟨?_, ?_⟩) hHeld ?_
                rotate_left 2
                · simp only [List.getElem?_toArray, List.getElem?_cons_zero, List.getElem?_cons_succ]; rfl
                · rfl
                · intro _ hSw; (try dsimp only at hSw); go_simp <;> with_reducible rfl
                (try simp only [Act.put, List.setIfInBounds_toArray, List.set_cons_zero, List.set_cons_succ])
                refine wpAnyH_take (i := 35) (oi := ?_) (v := ?_) ?_ (by kernel_rfl) (by kernel_rfl) (by kernel_rfl) (fun _ _ _ h => h) (Or.inl ⟨?_, ?_⟩) hHeld ?_
                rotate_left 2
                · simp only [List.getElem?_toArray, List.getElem?_cons_zero, List.getElem?_cons_succ]; rfl
                · rfl
                · intro _ hSw; (try dsimp only at hSw); go_simp <;> with_reducible rfl
                (try simp only [Act.put, List.setIfInBounds_toArray, List.set_cons_zero, List.set_cons_succ])
                refine wpAnyH_take (i := 36) (oi := ?_) (v := ?_) ?_ (by kernel_rfl) (by kernel_rfl) (by kernel_rfl) (fun _ _ _ h => h) (Or.inl ⟨?_, ?_⟩) hHeld ?_
                rotate_left 2
                · simp only [List.getElem?_toArray, List.getElem?_cons_zero, List.getElem?_cons_succ]; rfl
                · rfl
                · intro _ hSw; (try dsimp only at hSw); go_simp <;> with_reducible rfl
                (try simp only [Act.put, List.setIfInBounds_toArray, List.set_cons_zero, List.set_cons_succ])
                refine wpAnyH_take (i := 37) (oi := ?_) (v := ?_) ?_ (by kernel_rfl) (by kernel_rfl) (by kernel_rfl) (fun _ _ _ h => h) (Or.inl ⟨?_, ?_⟩) hHeld ?_
                rotate_left 2
                · simp only [List.getElem?_toArray, List.getElem?_cons_zero, List.getElem?_cons_succ]; rfl
                · rfl
                · intro _ hSw; (try dsimp only at hSw); go_simp <;> with_reducible rfl
                (try simp only [Act.put, List.setIfInBounds_toArray, List.set_cons_zero, List.set_cons_succ])
                refine wpAnyH_ready (rs := [34]) (by kernel_rfl) (by simp) ?_
                refine AllReadyH.cons (o := ?_) ?_ (fun K hK => ?_) AllReadyH.nil
                rotate_left 1
                · simp only [List.getElem?_toArray, List.getElem?_cons_zero, List.getElem?_cons_succ]; rfl
                clear hHeld
                go_simp; go_at_call 18; refine (HVR.out _ HSB2.out.info).mono ?_; rintro e wC ⟨u1, rfl, hm1, hiC, huC⟩; have HSC2 := Lib.hid (HSB2.out.step hiC huC); have HM1 := Lib.hid hm1; clear hiC huC hm1
                refine hK.out _ _ ?_ (fun hHeld => ?_)
                · (try dsimp only); first | exact HKE.out _ HSF.out.upd | exact HKE.out _ HSE.out.upd | exact HKE.out _ HSC2.out.upd | exact HKE.out _ HSB2.out.upd | exact HKE.out _ HSd.out.upd | exact HKE.out _ HSA.out.upd
                clear hK K
                (try simp only [Act.put, List.setIfInBounds_toArray, List.set_cons_zero, List.set_cons_succ])
                refine wpAnyH_ready (rs := [38]) (by kernel_rfl) (by simp) ?_
                refine AllReadyH.cons (o := ?_) ?_ (fun K hK => ?_) AllReadyH.nil
                rotate_left 1
                · simp only [List.getElem?_toArray, List.getElem?_cons_zero, List.getElem?_cons_succ]; rfl
                clear hHeld
                go_simp; go_at_call 19; refine (HRR.out _ HSC2.out.upd).mono ?_; rintro e wE ⟨u2, rfl, hoE, huE⟩; have HSE := Lib.hid (HSC2.out.same huE); have HM1E := Lib.hid (HM1.out.upd huE (by simp)); have HM2E := Lib.hid (MineI.of hoE HSC2.out.lt); clear huE hoE
                refine hK.out _ _ ?_ (fun hHeld => ?_)
                · (try dsimp only); first | exact HKE.out _ HSF.out.upd | exact HKE.out _ HSE.out.upd | exact HKE.out _ HSC2.out.upd | exact HKE.out _ HSB2.out.upd | exact HKE.out _ HSd.out.upd | exact HKE.out _ HSA.out.upd
                clear hK K
                (try simp only [Act.put, List.setIfInBounds_toArray, List.set_cons_zero, List.set_cons_succ])
                refine wpAnyH_ready (rs := [39]) (by kernel_rfl) (by simp) ?_
                refine AllReadyH.cons (o := ?_) ?_ (fun K hK => ?_) AllReadyH.nil
                rotate_left 1
                · simp only [List.getElem?_toArray, List.getElem?_cons_zero, List.getElem?_cons_succ]; rfl
                clear hHeld
                go_simp; go_at_call 17; refine (same_mine HM1E.out HM2E.out (by omega)).mono ?_; rintro e wF ⟨rfl, huF⟩; have HSF := Lib.hid (HSE.out.same huF); clear huF
                refine hK.out _ _ ?_ (fun hHeld => ?_)
                · (try dsimp only); first | exact HKE.out _ HSF.out.upd | exact HKE.out _ HSE.out.upd | exact HKE.out _ HSC2.out.upd | exact HKE.out _ HSB2.out.upd | exact HKE.out _ HSd.out.upd | exact HKE.out _ HSA.out.upd
                clear hK K
                (try simp only [Act.put, List.setIfInBounds_toArray, List.set_cons_zero, List.set_cons_succ])
                refine wpAnyH_take (i := 40) (oi := ?_) (v := ?_) ?_ (by kernel_rfl) (by kernel_rfl) (by kernel_rfl) (fun _ _ _ h => h) (Or.inl ⟨?_, ?_⟩) hHeld ?_
                rotate_left 2
                · simp only [List.getElem?_toArray, List.getElem?_cons_zero, List.getElem?_cons_succ]; rfl
                · rfl
                · intro _ hSw; (try dsimp only at hSw); go_simp <;> with_reducible rfl
                (try simp only [Act.put, List.setIfInBounds_toArray, List.set_cons_zero, List.set_cons_succ])
                refine wpAnyH_take (i := 41) (oi := ?_) (v := ?_) ?_ (by kernel_rfl) (by kernel_rfl) (by kernel_rfl) (fun _ _ _ h => h) (Or.inl ⟨?_, ?_⟩) hHeld ?_
                rotate_left 2
                · simp only [List.getElem?_toArray, List.getElem?_cons_zero, List.getElem?_cons_succ]; rfl
                · rfl
                · intro _ hSw; (try dsimp only at hSw); go_simp <;> with_reducible rfl
                (try simp only [Act.put, List.setIfInBounds_toArray, List.set_cons_zero, List.set_cons_succ])
                refine wpAnyH_done (by kernel_rfl) ?_ _
                refine NoPanic.normal ?_
                clear hHeld HSd HSA HSB2 HSC2 HSE HM1 HM1E HM2E HVR HRR HRC HKE
                rw [hq2] at HSF
                go_wp2_with fail
                go_roundw
                case rel => exact ⟨i + 1, nq + 2, by omega, by go_num, rfl, by omega, by omega, HSF.out⟩
                case measure => simp [intOf]; omega
          · obtain rfl : i = m.code.length := by omega
            go_wp2_with fail
            go_roundw
            case rel => exact ⟨kk + 1, nq, by omega, by go_num, rfl, by omega, by omega, HSD.out⟩
            case measure => simp [intOf]; omega
      · obtain rfl : kk = p.ms.length := by omega
        have hwn : IntKind.i64.wrap (nn + 1) = nn + 1 := IntWalk.i64_in _ (by omega)
        have hxx := HXX.out _ HSB.out.upd
        by_cases hin : 0 ≤ mq ∧ mq < (p.ms.length : Int)
        · obtain ⟨q, rfl⟩ := Int.eq_ofNat_of_zero_le hin.1
          have hq : q < p.ms.length := by omega
          have hcl := HOK.out.code1 q hq
          have HSTK := Lib.hid (stack_in ib p ss nn q pc wo HSB.out.info HL.out hq (by omega) (by omega) (by omega))
          have HRC := Lib.hid (fun W (hu : Upd [ib] w6 W) => rreached_any p ss cp mp p.cs.length cc p.ms.length mc _ q pc W (HLT.out W hu) HL.out hq (by omega) (by omega))
          obtain ⟨T, hT⟩ := atV_seen (ss.getD q default) (p.ms.getD q default).code.length pc
          rw [hT] at HSTK
          generalize rseen (ss.getD q default) (p.ms.getD q default).code.length pc = B at HSTK HRC
          have d1 : decide ((q : Int) < (p.ms.length : Int)) = true := decide_eq_true (by omega)
          clear hT hin hcl
          go_wp2_with fail
          refine HSTK.out.mono ?_
          rintro e wA ⟨rfl, hiA, huA⟩
          have HSA := Lib.hid (HSB.out.step hiA huA)
          clear hiA huA HSTK HSB c0 c1 hxx
          have hxx := HXX.out _ HSA.out.upd
          go_wp2_with fail
          refine (asked_any ib p ss (nn + 1) _ HSA.out.info).mono ?_
          rintro e wB ⟨rfl, rfl⟩
          go_wp2_with fail
          refine (HRC.out _ HSA.out.upd).mono ?_
          rintro e wC ⟨rfl, huC⟩
          have HSC := Lib.hid (HSA.out.same huC)
          clear hxx huC
          go_wp2_with fail
          go_ret
          exact ⟨rfl, HUW.out _ HSC.out.upd⟩
        · have hor : decide (0 ≤ mq) = false ∨ (decide (0 ≤ mq) = true ∧ decide (mq < (p.ms.length : Int)) = false) := by
            by_cases hn : 0 ≤ mq
            · exact .inr ⟨decide_eq_true hn, decide_eq_false (by omega)⟩
            · exact .inl (decide_eq_false hn)
          have HSTK := Lib.hid (stack_out ib p ss nn mq pc wo HSB.out.info HL.out hin (by omega) (by omega))
          have HMS := Lib.hid (fun W (h : InfoAt W ib p ss (nn + 1)) => most_out ib p ss (nn + 1) mq W h HL.out hin (by omega) (by omega))
          have HWD := Lib.hid (fun W (h : InfoAt W ib p ss (nn + 1 + 1)) => words_out ib p ss (nn + 1 + 1) mq W h HL.out hin (by omega) (by omega))
          have HRC := Lib.hid (fun W => rreached_out cp mp rp p.cs.length cc p.ms.length mc ss.length rc mq pc W (by rw [HL.out]; exact hin))
          clear hin
          rcases hor with d0 | ⟨d0, d1⟩
          all_goals
            go_wp2_with fail
            refine HSTK.out.mono ?_
            rintro e wA ⟨rfl, hiA, huA⟩
            have HSA := Lib.hid (HSB.out.step hiA huA)
            clear hiA huA HSTK HSB c0 c1 hxx
            have hxx := HXX.out _ HSA.out.upd
            go_wp2_with fail
            refine (asked_any ib p ss (nn + 1) _ HSA.out.info).mono ?_
            rintro e wB ⟨rfl, rfl⟩
            go_wp2_with fail
            refine (HRC.out _).mono ?_
            rintro e wC ⟨rfl, huC⟩
            have HSC := Lib.hid (HSA.out.same huC)
            clear hxx huC
            go_wp2_with fail
            refine (HMS.out _ HSC.out.info).mono ?_
            rintro e wD ⟨rfl, hiD, huD⟩
            have HSD := Lib.hid (HSC.out.step hiD huD)
            clear hiD huD
            go_wp2_with fail
            refine (HWD.out _ HSD.out.info).mono ?_
            rintro e wE ⟨rfl, hiE, huE⟩
            have HSE := Lib.hid (HSD.out.step hiE huE)
            clear hiE huE
            go_wp2_with fail
            go_ret
            exact ⟨rfl, HUW.out _ HSE.out.upd⟩

end Go.Proofs.YtpkdijbmomkdeaaGreatDoor
