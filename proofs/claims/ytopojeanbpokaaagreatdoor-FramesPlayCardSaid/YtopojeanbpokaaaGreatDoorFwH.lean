/- FramesPlay: the law's walk. -/
import Derived.Test.YtopojeanbpokaaaGreatDoorFwK1
import Derived.Test.YtopojeanbpokaaaGreatDoorFwK2
import Derived.Test.YtopojeanbpokaaaGreatDoorFwK4
import Derived.Test.YtopojeanbpokaaaGreatDoorFwK5
/-! FramesPlay: the law's walk. -/
namespace Go.Proofs.YtopojeanbpokaaaGreatDoor
open Go.RowKit

theorem switchF {E : Nat → Addr} {p : Prg} {ss : List Lk} {w wA W0 wd : World} {ib pb xb xd : Nat} {lim ask : Int} {a0 a1 a2 la wp lp : Option Addr} {c0 c1 n2 c2 nl lc i wc lcc : Nat} {n words : Int} {fs : List Fr} {ws : List FrV} {kd da dby xn : Int} {xr : Bool} {dl : List Slt} {f : Nat → Value} {J K' : Act → World → Prop} {Q' : Exit → Act → World → Prop}
    (hC : FpC E p ss w wA W0 ib pb xb lim a0 a1 a2 c0 c1 n2 c2) (hP : PlF p ss wA W0 wd ib lim i n words (.slice wp fs.length wc) fs ws) (hD : FpD wA W0 wd xd kd da dby xr xn lp lcc dl) (hi : i < nl) (hn : nl ≤ 60)
    (h19 : f 19 = .pointer (some ⟨xd, 0, none⟩)) (h20 : f 20 = .int .i64 ((fs.length : Int) - 1)) (h132 : f 132 = .int .i64 kd)
    (hJ : ∀ a' w', FpR p ss wA W0 lim la nl lc ask pb xb ib i a' w' → J a' w') (hK : ∀ a' w', Met J a' w' → K' a' w') :
    swC.wp Tryz.prog (Exit.then K' Q') (fpF lim la nl lc ask pb xb ib W0.heap.size (.slice wp fs.length wc) (.int .i64 words) (.int .i64 i) f) wd := by
  have ht : ((fs.length : Int) - 1) + 1 = (fs.length : Int) := by omega
  by_cases k1 : kd = 1
  · exact kind1 hC hP hD hi hn h19 h20 ht h132 k1 hJ hK
  by_cases k2 : kd = 2
  · exact kind2 hC hP hD hi hn h19 h20 ht h132 k2 hJ hK
  by_cases k3 : kd = 3
  · exact kind3 hC hP hD hi hn h19 h20 ht h132 k3 hJ hK
  by_cases k4 : kd = 4
  · exact kind4 hC hP hD hi hn h19 h20 ht h132 k4 hJ hK
  by_cases k5 : kd = 5
  · exact kind5 hC hP hD hi hn h19 h20 ht h132 k5 hJ hK
  by_cases k6 : kd = 6
  · exact kind6 hC hP hD hi hn h19 h20 ht h132 k6 hJ hK
  by_cases hm : da % 4 = 0
  · exact kind7a hC hP hD hi hn h19 h20 ht h132 ⟨k1, k2, k3, k4, k5, k6⟩ hm hJ hK
  · exact kind7b hC hP hD hi hn h19 h20 ht h132 ⟨k1, k2, k3, k4, k5, k6⟩ hm hJ hK
set_option maxRecDepth 100000 in
set_option maxHeartbeats 16000000 in
theorem playF_any (E : Nat → Addr) (p : Prg) (cv mv : Value) (lim ask : Int) (la : Option Addr) (nl lc : Nat) (w : World) (hS : SentAll w E) (hc : ClassAt w cv p.cs) (hm : MethsAt w mv p.ms) (hl : DosAt w (.slice la nl lc) nl) :
    Calls Tryz.prog 3 #[.agg #[cv, mv], .int .i64 lim, .slice la nl lc, .int .i64 ask] w fun e w' => e = .returned (.bool true) ∧ Upd [] w w' := by
  have HC := Lib.hid hc
  have HM := Lib.hid hm
  have HS := Lib.hid hS
  obtain ⟨la0, lc0, hle, hlm1, hlm2, hlx⟩ := hl
  injection hle with e1 _ e3
  subst e1 e3
  have HLX := Lib.hid hlx
  have HF := Lib.hid (first13_any E)
  obtain ⟨cp, cc, rfl, _, hccl, hccm, _⟩ := hc
  obtain ⟨mp, mc, rfl, hml, hmm, hmx⟩ := hm
  have HMX := Lib.hid hmx
  unfold maxLen at hccm hmm hlm2
  have HU0 := Lib.hid ((Upd.refl [] w).alloc (.cells #[.slice cp p.cs.length cc, .slice mp p.ms.length mc] 25))
  have hB0 := heap_alloc_new w (.cells #[.slice cp p.cs.length cc, .slice mp p.ms.length mc] 25)
  have hSP := (HS.out.upd HU0.out).toP
  have HF1 := Lib.hid (first13_any E _ hSP)
  clear hmx hlx hS hSP HF
  go_enter Tryz.func3, Tryz.ntmps3
  go_wp2_with fail
  refine HF1.out.mono ?_
  rintro e w1 ⟨rfl, hu1⟩
  have HU1 := Lib.hid (HU0.out.trans hu1)
  have hB1 := hu1.heap hB0 (by simp)
  clear hu1 hB0 HU0 HF1
  have c0 : w1.cell? ⟨w.heap.size, 0, none⟩ = some (.slice cp p.cs.length cc) := by rw [cell_of hB1]; rfl
  have c1 : w1.cell? ⟨w.heap.size, 1, none⟩ = some (.slice mp p.ms.length mc) := by rw [cell_of hB1]; rfl
  have HB1 := Lib.hid hB1
  clear hB1
  go_wp2_with fail
  refine (winfo_any p _ _ w1 (HC.out.upd HU1.out) (HM.out.upd HU1.out)).mono ?_
  rintro e w2 ⟨a0, n0, c0', a1, n1, c1', a2, n2, c2', b, rfl, hri, hu2⟩
  have HU2 := Lib.hid (HU1.out.trans hu2)
  have HB2 := Lib.hid (hu2.heap HB1.out (by simp))
  have HUA := Lib.hid (HU2.out.alloc (.cells #[.slice a0 n0 c0', .slice a1 n1 c1', .slice a2 n2 c2'] 30))
  cases b with
  | false =>
    clear hri
    go_wp2_with fail
    go_ret
    exact ⟨rfl, HUA.out⟩
  | true =>
  obtain ⟨hok, hv0, hv1, sq, hsl, hsk, hsx⟩ := hri rfl
  clear hri
  injection hv0 with e1 e2 e3
  injection hv1 with e4 e5 e6
  subst e1 e2 e3 e4 e5 e6
  by_cases h60 : 60 < nl
  · have d1 : decide ((60 : Int) < (nl : Int)) = true := decide_eq_true (by omega)
    have d2 : decide (60 < nl) = true := decide_eq_true h60
    clear hsx hsk hsl hok hu2
    go_wp2_with fail
    go_ret
    exact ⟨rfl, HUA.out⟩
  have d1 : decide ((60 : Int) < (nl : Int)) = false := decide_eq_false (by omega)
  have d2 : decide (60 < nl) = false := decide_eq_false h60
  have HOK := Lib.hid hok
  have huA := (Upd.refl [] w2).alloc (.cells #[.slice a0 p.cs.length c0', .slice a1 p.ms.length c1', .slice a2 n2 c2'] 30)
  have hbA := heap_alloc_new w2 (.cells #[.slice a0 p.cs.length c0', .slice a1 p.ms.length c1', .slice a2 n2 c2'] 30)
  have HBP := Lib.hid (huA.heap HB2.out (by simp))
  have HBX := Lib.hid hbA
  have HSQ := Lib.hid (hsx.upd huA)
  have HSL := Lib.hid hsl
  have HSK := Lib.hid hsk
  have HW2 : Hid (w.heap.size ≤ w2.heap.size) := HU2.out.size
  clear hsx hsk hsl hu2 huA hbA HU1 HB1 HB2 HU2 c0 c1
  go_upto_region 5 with fail
  generalize w2.alloc (.cells #[.slice a0 p.cs.length c0', .slice a1 p.ms.length c1', .slice a2 n2 c2'] 30) = wA at HUA HBP HBX HSQ ⊢
  generalize w2.heap.size = xb at HBX HW2 ⊢
  have c0 : wA.cell? ⟨w.heap.size, 0, none⟩ = some (.slice a0 p.cs.length c0') := by rw [cell_of HBP.out]; rfl
  have c1 : wA.cell? ⟨w.heap.size, 1, none⟩ = some (.slice a1 p.ms.length c1') := by rw [cell_of HBP.out]; rfl
  have HOF := Lib.hid (ofV_any p _ _ E wA (HS.out.upd HUA.out).some (HC.out.upd HUA.out) (HM.out.upd HUA.out))
  go_wp2_with fail
  refine HOF.out.mono ?_
  rintro e w4 ⟨v4, rfl, hend⟩
  obtain ⟨ib, ss, hl, hlk, rfl, hinfo, hib, hu4⟩ := hend.good hok (fun j hj => ⟨_, HSK.out j hj⟩)
  have hss := looks_uniq hl HSL.out hlk HSK.out
  subst hss
  have HU4 := Lib.hid hu4
  have HIB : Hid (wA.heap.size ≤ ib) := hib
  have HIN := Lib.hid hinfo
  clear hend hl hlk hinfo hib hu4 HOF c0 c1
  by_cases hlim : lim < 0 ∨ 65536 < lim
  · have HNW := Lib.hid (snew_bad E ib lim w4 ((HS.out.upd HUA.out).upd HU4.out) hlim)
    have HIS := Lib.hid (fun w hS => is_at E 10 (by omega) 111 w hS)
    have dl : (if decide (lim < 0) then true else decide (65536 < lim)) = true := by
      rcases hlim with h | h <;> simp [h]
    go_wp2_with fail
    refine HNW.out.mono ?_
    rintro e w5 ⟨rfl, hu5⟩
    have HU5 := Lib.hid ((HUA.out.trans HU4.out).trans hu5)
    have HIS := Lib.hid (HIS.out w5 (HS.out.upd HU5.out))
    have hdl : lim < 0 ∨ 65536 < lim := hlim
    clear hu5 HNW dl hlim
    by_cases hl0 : lim < 0
    · have d3 : decide (lim < 0) = true := decide_eq_true hl0
      go_wp2_with fail
      refine HIS.out.mono ?_
      rintro e w6 ⟨rfl, hu6⟩
      go_wp2_with fail
      go_ret
      exact ⟨rfl, HU5.out.trans hu6⟩
    · have d3 : decide (lim < 0) = false := decide_eq_false hl0
      have d4 : decide (65536 < lim) = true := decide_eq_true (by omega)
      go_wp2_with fail
      refine HIS.out.mono ?_
      rintro e w6 ⟨rfl, hu6⟩
      go_wp2_with fail
      go_ret
      exact ⟨rfl, HU5.out.trans hu6⟩
  have dl0 : decide (lim < 0) = false := decide_eq_false (by omega)
  have dl1 : decide (65536 < lim) = false := decide_eq_false (by omega)
  have hlm : 0 ≤ lim ∧ lim ≤ 65536 := by omega
  have HNW := Lib.hid (snew_any ib p sq 0 lim w4 HIN.out hok (by omega) (by omega))
  clear hlim HIN
  go_wp2_with fail
  refine HNW.out.mono ?_
  rintro e w5 ⟨W0, cv, mv, rfl, hu40, hst, hu5⟩
  have HB : Hid (Duo wA W0 w5 W0.heap.size ib p sq lim 0 0 [] (.slice none 0 0) [] []) := ⟨cv, mv, _, _, ⟨hst, WrsAt.zero _ _, by simp, HU4.out.trans hu5, HIB.out⟩, StkOk.new hok HSL.out HSK.out hlm⟩
  have HFC : Hid (FpC E p sq w wA W0 ib w.heap.size xb lim a0 a1 a2 c0' c1' n2 c2') := ⟨HS.out, HUA.out, hok, HC.out.upd HUA.out, HM.out.upd HUA.out, HSQ.out, HSL.out, HSK.out, HBP.out, HBX.out, lt_of_heap HBP.out, lt_of_heap HBX.out⟩
  have HPL : Hid (PlF p sq wA W0 w5 ib lim 0 0 0 (.slice none 0 0) [] []) := ⟨HB.out, by simp [FrsOk], by simp, by omega⟩
  clear hu40 hst hu5 HNW HU4 HB
  go_wp2_with fail
  refine wp_loop (FpI p sq wA W0 lim la nl lc ask w.heap.size xb ib) (fun a' _ => nl - (intOf (a'.tmps.getD 18 undef)).toNat) ?_ ?_
  · exact ⟨_, 0, 0, 0, [], [], by omega, HPL.out, fpF_eq (by kernel_rfl)⟩
  · clear HPL
    rintro a wo ⟨wv, i, n, words, fs, ws, hi, hP, f, rfl⟩
    have HP := Lib.hid hP
    clear hP
    obtain ⟨wp, wc, rfl⟩ := HP.out.duo.wr.shape
    have hfl : fs.length ≤ 60 := by have := HP.out.few; omega
    unfold fpF
    by_cases hlt : i < nl
    · obtain ⟨db, dof, ⟨kd, da, dby, ⟨xr, xn⟩, dl⟩, rfl, hda, hd⟩ := HLX.out i hlt
      obtain ⟨x0, x1, x2, x3, x4, dv, x5, hdl⟩ := hd
      simp only at x0 x1 x2 x3 x4 hda
      have huo := HUA.out.trans HP.out.duo.upd
      have x0 := huo.cell x0 (by simp)
      have x1 := huo.cell x1 (by simp)
      have x2 := huo.cell x2 (by simp)
      have x3 := huo.cell x3 (by simp)
      have x4 := huo.cell x4 (by simp)
      have x5 := huo.cell x5 (by simp)
      have HDL := Lib.hid (hdl.upd HUA.out (by simp))
      clear huo
      obtain ⟨lp, lcc, rfl, _⟩ := hdl
      have hwt : IntKind.i64.wrap ((fs.length : Int) - 1) = (fs.length : Int) - 1 := IntWalk.i64_in _ (by omega)
      have huD := (Upd.refl [] wo).alloc (.cells #[.int .i64 kd, .int .i64 da, .int .i64 dby, .bool xr, .int .i64 xn, .slice lp dl.length lcc] 47)
      have HBD := Lib.hid (heap_alloc_new wo (.cells #[.int .i64 kd, .int .i64 da, .int .i64 dby, .bool xr, .int .i64 xn, .slice lp dl.length lcc] 47))
      have HUD := Lib.hid huD
      by_cases h20 : 20 < dl.length
      · have d3 : decide ((20 : Int) < (dl.length : Int)) = true := decide_eq_true (by omega)
        have d4 : decide (20 < dl.length) = true := decide_eq_true h20
        clear huD
        go_wp2_with fail
        go_ret
        exact ⟨rfl, (HUA.out.trans HP.out.duo.upd).trans HUD.out⟩
      have d3 : decide ((20 : Int) < (dl.length : Int)) = false := decide_eq_false (by omega)
      have d4 : decide (20 < dl.length) = false := decide_eq_false h20
      clear huD
      go_upto_block 2 with fail
      have HDU : Hid (PlF p sq wA W0 (wo.alloc (.cells #[.int .i64 kd, .int .i64 da, .int .i64 dby, .bool xr, .int .i64 xn, .slice lp dl.length lcc] 47)) ib lim i n words (.slice wp fs.length wc) fs ws) := ⟨HP.out.duo.same HUD.out, HP.out.ok, HP.out.few, HP.out.cnt⟩
      have hsbo : W0.heap.size < wo.heap.size := by
        obtain ⟨_, _, _, _, h1, _⟩ := HP.out.duo
        exact lt_of_heap h1.st.box
      have HFD : Hid (FpD wA W0 (wo.alloc (.cells #[.int .i64 kd, .int .i64 da, .int .i64 dby, .bool xr, .int .i64 xn, .slice lp dl.length lcc] 47)) wo.heap.size kd da dby xr xn lp lcc dl) := ⟨HBD.out, HDL.out, by omega, ⟨HP.out.duo.upd.size, by omega⟩, hda⟩
      clear x0 x1 x2 x3 x4 x5 d3 d4 HDL HUD HP HBD hsbo
      generalize wo.alloc (.cells #[.int .i64 kd, .int .i64 da, .int .i64 dby, .bool xr, .int .i64 xn, .slice lp dl.length lcc] 47) = wd at HDU HFD ⊢
      generalize wo.heap.size = xd at HFD ⊢
      refine wp_cut (FpR p sq wA W0 lim (some ⟨db, dof, none⟩) nl lc ask w.heap.size xb ib i) ?_ ?_
      rotate_left 1
      · intro J K' hJ hK
        refine wp_fpF (lim := lim) (la := some ⟨db, dof, none⟩) (nl := nl) (lc := lc) (ask := ask) (pb := w.heap.size) (xb := xb) (ib := ib) (sb := W0.heap.size) (.slice wp fs.length wc) (.int .i64 words) (.int .i64 i) (.pointer (some ⟨xd, 0, none⟩)) (.int .i64 ((fs.length : Int) - 1)) (.int .i64 kd) (by kernel_rfl) (by kernel_rfl) (by kernel_rfl) (by kernel_rfl) (fun f h19 hf20 h132 => ?_)
        exact switchF HFC.out HDU.out HFD.out hlt (by omega) h19 hf20 h132 hJ hK
      · -- <TA
        rintro a wc2 ⟨wv, n, words, fs, ws, hP, f, rfl⟩
        obtain ⟨wp, wc, rfl⟩ := hP.duo.wr.shape
        have hf60 : fs.length ≤ 60 := by have := hP.few; omega
        have hok := hP.duo.ok.ok
        have HP := Lib.hid hP
        have HLN := Lib.hid (duo_len hP.duo)
        have HWD := Lib.hid (duo_words hP.duo)
        have HRO := Lib.hid (duo_roots hP.duo hP.ok hf60)
        have HR3 := Lib.hid (fun W (hW : Upd [] wc2 W) => roots13_any (W0.heap.size + 1) (.slice wp fs.length wc) fs ws W (hP.duo.same hW).wr (by omega) (fun j hj => by have := (hP.ok.getD hj).small hok; omega))
        have hrl : (rootsL fs).length ≤ 120000 := hP.ok.roots hok hf60
        clear HDU HFD hP
        unfold fpF
        go_wp2_with fail
        refine HLN.out.mono ?_
        rintro e w9 ⟨rfl, rfl⟩
        go_wp2_with fail
        refine HWD.out.mono ?_
        rintro e w9 ⟨rfl, rfl⟩
        go_wp2_with fail
        refine HRO.out.mono ?_
        rintro e w3 ⟨u1, rfl, ho1, hu1⟩
        have HR4 := Lib.hid (HR3.out w3 hu1)
        have HO1 := Lib.hid ho1
        have HU1 := Lib.hid hu1
        clear ho1 hu1 HLN HWD HRO HR3
        go_wp2_with fail
        refine HR4.out.mono ?_
        rintro e w4 ⟨u2, rfl, ho2, hu2⟩
        obtain ⟨ib1, hv1, _⟩ := (OwnI.upd HO1.out hu2 (by simp)).ints
        obtain ⟨ib2, hv2, _⟩ := ho2.ints
        have HSM := Lib.hid (sints u1 u2 ib1 ib2 _ _ w4 hv1 hv2 (by omega))
        have HU2 := Lib.hid (HU1.out.trans hu2)
        clear ho2 hu2 hv1 hv2 HR4 HO1 HU1 hrl
        go_wp2_with fail
        refine HSM.out.mono ?_
        rintro e w5 ⟨rfl, hu5⟩
        have HD5 : Hid (PlF p sq wA W0 w5 ib lim (i + 1) n words (.slice wp fs.length wc) fs ws) := ⟨HP.out.duo.same (HU2.out.trans hu5), HP.out.ok, HP.out.few, HP.out.cnt⟩
        clear hu5 HU2 HSM HP
        go_upto_region 122 with fail
        rcases List.eq_nil_or_concat fs with rfl | ⟨gs, g, rfl⟩
        ·
          as_aux_lemma =>
            have HTP := Lib.hid (duo_top_none HD5.out.duo)
            go_wp2_with fail
            refine HTP.out.mono ?_
            rintro e w6 ⟨rfl, hu6⟩
            have HD6 := Lib.hid (HD5.out.duo.same hu6)
            have HLO := Lib.hid (duo_local_none ask HD6.out)
            have hwm : IntKind.i64.wrap (0 - 1) = -1 := by decide
            clear hu6 HTP
            go_wp2_with fail
            refine HLO.out.mono ?_
            rintro e w7 ⟨rfl, hu7⟩
            have HD8 : Hid (PlF p sq wA W0 (w7.alloc (.cells #[.bool false, .int .i64 0] 44)) ib lim (i + 1) n words (.slice wp ([] : List Fr).length wc) [] ws) := ⟨HD6.out.same (hu7.alloc _), HD5.out.ok, HD5.out.few, HD5.out.cnt⟩
            clear hu7 HLO HD6 HD5
            go_upto_region 128 with fail
            generalize w7.alloc (.cells #[.bool false, .int .i64 0] 44) = w8 at HD8 ⊢
            go_quiet (fail)
            have HD9 : Hid (PlF p sq wA W0 (w8.drewN nq) ib lim (i + 1) n words (.slice wp ([] : List Fr).length wc) [] ws) := ⟨HD8.out.duo.same ((Upd.refl [] w8).drewN nq), HD8.out.ok, HD8.out.few, HD8.out.cnt⟩
            clear HD8
            go_wp2_with fail
            refine ⟨⟨_, i + 1, n, words, _, _, by omega, HD9.out, fpF_eq (by kernel_rfl)⟩, ?_⟩
            show nl - (i + 1) < nl - i
            omega
        ·
          rw [List.concat_eq_append] at *
          have hgl : (gs ++ [g]).length = gs.length + 1 := by simp
          rw [hgl] at HD5 hf60 ⊢
          obtain ⟨ws2, gv, rfl, hwl⟩ := vs_split2 (n := gs.length) (vs := ws) (by rw [HD5.out.duo.wr.len]; simp)
          have HTP := Lib.hid (duo_top HD5.out.duo)
          obtain ⟨q, wc', e1, _, _, y0, y1, y2, _⟩ := wtop_at HD5.out.duo.wr hwl
          injection e1 with e1 e2 e3
          subst e1 e3
          obtain ⟨lqp, lqc, hlv⟩ := (HD5.out.duo.wr.locT hwl).shape
          rw [hlv] at y2
          have HLV := Lib.hid hlv
          have h0i : (0 : Int) ≤ (gs.length : Int) := by omega
          have h1i : (gs.length : Int) < (gs.length : Int) + 1 := by omega
          have hdt : decide ((0 : Int) ≤ (gs.length : Int)) = true := decide_eq_true h0i
          have hwm : IntKind.i64.wrap ((gs.length : Int) + 1 - 1) = (gs.length : Int) := by rw [IntWalk.i64_in _ (by omega)]; omega
          have hwm2 : IntKind.i64.wrap (((gs.length + 1 : Nat) : Int) - 1) = (gs.length : Int) := by rw [IntWalk.i64_in _ (by omega)]; omega
          clear e2 hlv
          go_wp2_with fail
          refine HTP.out.mono ?_
          rintro e w6 ⟨rfl, hu6⟩
          have HD6 := Lib.hid (HD5.out.duo.same hu6)
          have HLO := Lib.hid (duo_local ask HD6.out)
          have y0 := hu6.cell y0 (by simp)
          have y1 := hu6.cell y1 (by simp)
          have y2 := hu6.cell y2 (by simp)
          clear hu6 HTP
          go_upto_region 126 with fail
          by_cases hin : 0 ≤ ask ∧ ask < (g.loc.length : Int)
          ·
            as_aux_lemma =>
            obtain ⟨hin0, hin1⟩ := hin
            obtain ⟨k, rfl⟩ : ∃ k : Nat, ask = (k : Int) := ⟨ask.toNat, by omega⟩
            have hkl : k < g.loc.length := by omega
            have hlo := HLO.out
            unfold locV at hlo
            rw [if_pos ⟨hin0, hin1⟩, Int.toNat_natCast] at hlo
            obtain ⟨lq, hread, _⟩ := (HD6.out.wr.locT hwl).read
            rw [HLV.out] at hread
            obtain rfl : lqp = some ⟨lq, 0, none⟩ := by
              rcases hread.1 with ⟨_, e⟩ | ⟨c9, e⟩
              · rw [e] at hkl; simp at hkl
              · injection e
            have hcap : g.loc.length ≤ lqc := by
              have h1 := HD6.out.wr.locT hwl
              rw [HLV.out] at h1
              exact own_cap h1
            obtain ⟨z0, z1⟩ := hread.2 k hkl
            obtain ⟨r, xn, hx⟩ : ∃ r xn, g.loc.getD k default = ⟨r, xn⟩ := ⟨_, _, rfl⟩
            rw [hx] at hlo z0 z1
            have HLO2 := Lib.hid hlo
            have hd2 : decide ((0 : Int) ≤ (k : Int)) = true := decide_eq_true hin0
            have hd3 : decide ((k : Int) < (g.loc.length : Int)) = true := decide_eq_true hin1
            have hd4 : decide (k < g.loc.length) = true := decide_eq_true hkl
            have hsz : (k : Int) + 1 ≤ 1000 := by
              have := (HD5.out.ok.last).small hok
              omega
            have hwk : IntKind.i64.wrap ((k : Int) + 1) = (k : Int) + 1 := IntWalk.i64_in _ (by omega)
            have hcut : ∀ W, (Instr.slice 45 (.slice (some ⟨lq, 0, none⟩) g.loc.length lqc) (some (.int .i64 (k : Int))) (some (.int .i64 ((k : Int) + 1))) none).run Tryz.prog W = .ok (.slice (some ⟨lq, k * 2, none⟩) 1 (lqc - k)) W := fun W => cut_one W lq _ lqc k (by omega)
            clear hlo hread hcap hx HLO
            go_wp2_with fail
            refine HLO2.out.mono ?_
            rintro e w7 ⟨rfl, hu7⟩
            have hal := hu7.alloc (.cells #[.bool r, .int .i64 xn] 44)
            have hab := heap_alloc_new w7 (.cells #[.bool r, .int .i64 xn] 44)
            have y2 := hal.cell y2 (by simp)
            have z0 := hal.cell z0 (by simp)
            have z1 := hal.cell z1 (by simp)
            have HD7 := Lib.hid (HD6.out.same hal)
            clear hal hu7 HLO2 HD6 y0 y1
            go_upto_region 127 with fail
            generalize w7.alloc (.cells #[.bool r, .int .i64 xn] 44) = w8 at hab HD7 y2 z0 z1 ⊢
            generalize w7.heap.size = ab at hab ⊢
            have v0 : w8.cell? ⟨ab, 0, none⟩ = some (.bool r) := by rw [cell_of hab]; rfl
            have v1 : w8.cell? ⟨ab, 1, none⟩ = some (.int .i64 xn) := by rw [cell_of hab]; rfl
            clear hab
            go_upto_region 128 with fail
            have hdr := (Upd.refl [] w8).drew
            have hal := (Upd.refl [] w8.drew).alloc (.cells #[.bool r, .int .i64 xn] 44)
            have hnw := heap_alloc_new w8.drew (.cells #[.bool r, .int .i64 xn] 44)
            have hF0 : w8.cell? ⟨ab, 0, none⟩ = some (.bool r) ∧ w8.cell? ⟨ab, 1, none⟩ = some (.int .i64 xn) ∧ w8.cell? ⟨q, gs.length * 4 + 2, none⟩ = some (.slice (some ⟨lq, 0, none⟩) g.loc.length lqc) := ⟨v0, v1, y2⟩
            have hF1 : w8.drew.cell? ⟨ab, 0, none⟩ = some (.bool r) ∧ w8.drew.cell? ⟨ab, 1, none⟩ = some (.int .i64 xn) ∧ w8.drew.cell? ⟨q, gs.length * 4 + 2, none⟩ = some (.slice (some ⟨lq, 0, none⟩) g.loc.length lqc) := hF0
            have hF2 : (w8.drew.alloc (.cells #[.bool r, .int .i64 xn] 44)).cell? ⟨ab, 0, none⟩ = some (.bool r) ∧ (w8.drew.alloc (.cells #[.bool r, .int .i64 xn] 44)).cell? ⟨ab, 1, none⟩ = some (.int .i64 xn) ∧ (w8.drew.alloc (.cells #[.bool r, .int .i64 xn] 44)).cell? ⟨q, gs.length * 4 + 2, none⟩ = some (.slice (some ⟨lq, 0, none⟩) g.loc.length lqc) := ⟨hal.cell hF1.1 (by simp), hal.cell hF1.2.1 (by simp), hal.cell hF1.2.2 (by simp)⟩
            have HSM2 := Lib.hid (same13_any (.slice (some ⟨w8.drew.heap.size, 0, none⟩) 1 1) (.slice (some ⟨lq, k * 2, none⟩) 1 (lqc - k)) [⟨r, xn⟩] (w8.drew.alloc (.cells #[.bool r, .int .i64 xn] 44)) (so_one (by rw [cell_of hnw]; rfl) (by rw [cell_of hnw]; rfl)) (so_one ((hdr.trans hal).cell z0 (by simp)) ((hdr.trans hal).cell z1 (by simp))) (by simp))
            have HD8 := Lib.hid (HD7.out.same (hdr.trans hal))
            clear hdr hal hnw v0 v1 y2 z0 z1 HD7
            go_region_held3 (fun W => W.cell? ⟨ab, 0, none⟩ = some (.bool r) ∧ W.cell? ⟨ab, 1, none⟩ = some (.int .i64 xn) ∧ W.cell? ⟨q, gs.length * 4 + 2, none⟩ = some (.slice (some ⟨lq, 0, none⟩) g.loc.length lqc))
              (first | exact hk0 | exact hF2 | exact hF1 | exact hF0)
              ((go_at_call 18; refine HSM2.out.mono ?_; rintro e w9 ⟨rfl, hu9⟩; have hk0 := (⟨hu9.cell hF2.1 (by simp), hu9.cell hF2.2.1 (by simp), hu9.cell hF2.2.2 (by simp)⟩ : _ ∧ _ ∧ _); have HU9 := Lib.hid hu9))
            have HD9 : Hid (PlF p sq wA W0 w9 ib lim (i + 1) n words (.slice (some ⟨q, 0, none⟩) (gs.length + 1) wc) (gs ++ [g]) (ws2 ++ [gv])) := ⟨HD8.out.same HU9.out, HD5.out.ok, HD5.out.few, HD5.out.cnt⟩
            clear hk0 hF0 hF1 hF2 HD8 HU9 HSM2
            go_wp2_with fail
            refine ⟨⟨_, i + 1, n, words, _, _, by omega, HD9.out, fpF_eq (by kernel_rfl)⟩, ?_⟩
            show nl - (i + 1) < nl - i
            omega
          ·
            have hlo := HLO.out
            unfold locV at hlo
            rw [if_neg hin] at hlo
            have HLO2 := Lib.hid hlo
            clear hlo HLO
            by_cases h0a : 0 ≤ ask
            · as_aux_lemma =>
              have hd2 : decide ((0 : Int) ≤ ask) = true := decide_eq_true h0a
              have hd3 : decide (ask < (g.loc.length : Int)) = false := decide_eq_false (fun h => hin ⟨h0a, h⟩)
              go_wp2_with fail
              refine HLO2.out.mono ?_
              rintro e w7 ⟨rfl, hu7⟩
              have hal := hu7.alloc (.cells #[.bool false, .int .i64 0] 44)
              have y2 := hal.cell y2 (by simp)
              have HD7 := Lib.hid (HD6.out.same hal)
              clear hal hu7 HLO2 HD6 y0 y1
              go_upto_region 127 with fail
              generalize w7.alloc (.cells #[.bool false, .int .i64 0] 44) = w8 at HD7 y2 ⊢
              go_upto_region 128 with fail
              go_quiet (fail)
              have HD9 : Hid (PlF p sq wA W0 (w8.drewN nq) ib lim (i + 1) n words (.slice (some ⟨q, 0, none⟩) (gs.length + 1) wc) (gs ++ [g]) (ws2 ++ [gv])) := ⟨HD7.out.same ((Upd.refl [] w8).drewN nq), HD5.out.ok, HD5.out.few, HD5.out.cnt⟩
              clear HD7
              go_wp2_with fail
              refine ⟨⟨_, i + 1, n, words, _, _, by omega, HD9.out, fpF_eq (by kernel_rfl)⟩, ?_⟩
              show nl - (i + 1) < nl - i
              omega
            · as_aux_lemma =>
              have hd2 : decide ((0 : Int) ≤ ask) = false := decide_eq_false h0a
              go_wp2_with fail
              refine HLO2.out.mono ?_
              rintro e w7 ⟨rfl, hu7⟩
              have hal := hu7.alloc (.cells #[.bool false, .int .i64 0] 44)
              have HD7 := Lib.hid (HD6.out.same hal)
              clear hal hu7 HLO2 HD6 y0 y1 y2
              go_upto_region 127 with fail
              generalize w7.alloc (.cells #[.bool false, .int .i64 0] 44) = w8 at HD7 ⊢
              go_upto_region 128 with fail
              go_quiet (fail)
              have HD9 : Hid (PlF p sq wA W0 (w8.drewN nq) ib lim (i + 1) n words (.slice (some ⟨q, 0, none⟩) (gs.length + 1) wc) (gs ++ [g]) (ws2 ++ [gv])) := ⟨HD7.out.same ((Upd.refl [] w8).drewN nq), HD5.out.ok, HD5.out.few, HD5.out.cnt⟩
              clear HD7
              go_wp2_with fail
              refine ⟨⟨_, i + 1, n, words, _, _, by omega, HD9.out, fpF_eq (by kernel_rfl)⟩, ?_⟩
              show nl - (i + 1) < nl - i
              omega
    ·
      as_aux_lemma =>
      have hok := HOK.out
      have HP2 := Lib.hid HP.out.duo
      have HF := Lib.hid HP.out.ok
      clear HP
      have hil : i = nl := by omega
      subst hil
      have hlt2 : decide ((i : Int) < (i : Int)) = false := decide_eq_false (by omega)
      go_wp2_with fail
      go_loopw [50] (fun jv wr => ∃ j : Nat, j ≤ fs.length ∧ jv = .int .i64 j ∧ Hid (Duo wA W0 wr W0.heap.size ib p sq lim n words fs (.slice wp fs.length wc) fs ws)) (fun jv _ => fs.length - (intOf jv).toNat)
      case atStart => exact ⟨0, by omega, rfl, HP2.out⟩
      case round =>
        clear HP2
        obtain ⟨j, hj, rfl, HD1⟩ := hrel
        obtain ⟨wj, rfl⟩ : ∃ wj : World, wj = wr := ⟨_, rfl⟩
        by_cases hjl : j < fs.length
        · have HAT := Lib.hid (duo_at j HD1.out HF.out hjl)
          obtain ⟨q, qc, he, y0, y1, y2, y3⟩ := HD1.out.wr.cell hjl
          injection he with e1 e2 e3
          subst e1 e3
          have hsm := (HF.out.getD hjl).small hok
          have hs1 := OwnSl.so (HD1.out.wr.loc j hjl)
          have hs2 := OwnSl.so (HD1.out.wr.stk j hjl)
          generalize fs.getD j default = g at HAT y0 y1 y2 y3 hsm hs1 hs2
          generalize ws.getD j default = gv at y2 y3 hs1 hs2
          have h0j : (0 : Int) ≤ (j : Int) := by omega
          have h1j : (j : Int) < (fs.length : Int) := by omega
          have HS1 := Lib.hid hs1
          have HS2 := Lib.hid hs2
          clear e2 hs1 hs2
          go_wp2_with fail
          refine HAT.out.mono ?_
          rintro e w2 ⟨u1, u2, rfl, ho1, ho2, hu2⟩
          have y0 := hu2.cell y0 (by simp)
          have y1 := hu2.cell y1 (by simp)
          have y2 := hu2.cell y2 (by simp)
          have y3 := hu2.cell y3 (by simp)
          have HA1 := Lib.hid (same13_any u1 gv.lv g.loc w2 ho1.so (HS1.out.upd hu2 (by simp)) (by omega))
          have HA2 := Lib.hid (fun W (hW : Upd [] w2 W) => same13_any u2 gv.sv g.stk W (ho2.so.upd hW (by simp)) ((HS2.out.upd hu2 (by simp)).upd hW (by simp)) (by omega))
          have HD2 := Lib.hid (HD1.out.same hu2)
          clear ho1 ho2 hu2 HAT HD1 HS1 HS2
          go_wp2_with fail
          refine HA1.out.mono ?_
          rintro e w3 ⟨rfl, hu3⟩
          have HA3 := Lib.hid (HA2.out w3 hu3)
          have HD3 := Lib.hid (HD2.out.same hu3)
          have y3 := hu3.cell y3 (by simp)
          clear hu3 HA1 HA2 HD2 y0 y1 y2
          go_wp2_with fail
          refine HA3.out.mono ?_
          rintro e w4 ⟨rfl, hu4⟩
          have HD4 := Lib.hid (HD3.out.same hu4)
          clear hu4 HA3 HD3 y3
          go_wp2_with fail
          go_roundw
          case rel => exact ⟨j + 1, by omega, by go_num, HD4.out⟩
          case measure => simp [intOf]; omega
        · have HAO := Lib.hid (duo_at_out (fs.length : Int) HD1.out (.inr (by omega)))
          go_wp2_with fail
          refine HAO.out.mono ?_
          rintro e w2 ⟨rfl, hu2⟩
          have HU9 := Lib.hid ((HUA.out.trans HD1.out.upd).trans hu2)
          clear hu2 HAO HD1
          go_wp2_with fail
          go_ret
          exact ⟨rfl, HU9.out⟩
end Go.Proofs.YtopojeanbpokaaaGreatDoor
