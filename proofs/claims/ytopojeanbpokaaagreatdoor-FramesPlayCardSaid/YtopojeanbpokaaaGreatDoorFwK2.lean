/- FramesPlay: a frame is taken away. FramesPlay: a value is taken. FramesPlay: a frame is told to jump. FramesPlay: the references, one too many or one below none. -/
import Derived.Test.YtopojeanbpokaaaGreatDoorFwI
/-! FramesPlay: a frame is taken away. -/
/-! FramesPlay: a frame is taken away. -/
namespace Go.Proofs.YtopojeanbpokaaaGreatDoor
open Go.RowKit
set_option maxRecDepth 1000000 in
set_option maxHeartbeats 16000000 in
theorem kind2 {E : Nat → Addr} {p : Prg} {ss : List Lk} {w wA W0 wd : World} {ib pb xb xd : Nat} {lim ask t : Int} {a0 a1 a2 la wp lp : Option Addr} {c0 c1 n2 c2 nl lc i wc lcc : Nat} {n words : Int} {fs : List Fr} {ws : List FrV} {kd da dby xn : Int} {xr : Bool} {dl : List Slt} {f : Nat → Value} {J K' : Act → World → Prop} {Q' : Exit → Act → World → Prop}
    (hC : FpC E p ss w wA W0 ib pb xb lim a0 a1 a2 c0 c1 n2 c2) (hP : PlF p ss wA W0 wd ib lim i n words (.slice wp fs.length wc) fs ws) (hD : FpD wA W0 wd xd kd da dby xr xn lp lcc dl) (_hi : i < nl) (_hn : nl ≤ 60)
    (h19 : f 19 = .pointer (some ⟨xd, 0, none⟩)) (h20 : f 20 = .int .i64 t) (ht : t + 1 = (fs.length : Int)) (h132 : f 132 = .int .i64 kd) (hkd : kd = 2)
    (hJ : ∀ a' w', FpR p ss wA W0 lim la nl lc ask pb xb ib i a' w' → J a' w') (hK : ∀ a' w', Met J a' w' → K' a' w') :
    swC.wp Tryz.prog (Exit.then K' Q') (fpF lim la nl lc ask pb xb ib W0.heap.size (.slice wp fs.length wc) (.int .i64 words) (.int .i64 i) f) wd := by
  subst hkd
  have HC := Lib.hid hC
  have HP := Lib.hid hP
  have HJ := Lib.hid hJ
  have hu := hP.duo.upd
  have cp0 := hu.cell (p := ⟨pb, 0, none⟩) (v := .slice a0 p.cs.length c0) (by rw [cell_of hC.bp]; rfl) (by simp)
  have cp1 := hu.cell (p := ⟨pb, 1, none⟩) (v := .slice a1 p.ms.length c1) (by rw [cell_of hC.bp]; rfl) (by simp)
  have cx0 := hu.cell (p := ⟨xb, 0, none⟩) (v := .slice a0 p.cs.length c0) (by rw [cell_of hC.bx]; rfl) (by simp)
  have cx1 := hu.cell (p := ⟨xb, 1, none⟩) (v := .slice a1 p.ms.length c1) (by rw [cell_of hC.bx]; rfl) (by simp)
  have cx2 := hu.cell (p := ⟨xb, 2, none⟩) (v := .slice a2 n2 c2) (by rw [cell_of hC.bx]; rfl) (by simp)
  have hfew := hP.few
  have hcnt := hP.cnt
  clear hu hC hP hD hJ
  unfold fpF
  rw [h19, h20, h132]
  conv => arg 2; whnf
  rcases List.eq_nil_or_concat fs with rfl | ⟨gs, g, rfl⟩
  · as_aux_lemma =>
    obtain rfl : t = -1 := by simp at ht; omega
    have HPO := Lib.hid (duo_pop_none HP.out.duo)
    go_wp2_with fail
    refine HPO.out.mono ?_
    rintro e w2 ⟨rfl, hu2⟩
    have HP2 : Hid (PlF p ss wA W0 w2 ib lim (i + 1) n words (.slice wp ([] : List Fr).length wc) [] ws) := ⟨HP.out.duo.same hu2, HP.out.ok, by simp, by omega⟩
    clear hu2 HPO HP
    go_wp2_with fail
    refine Met.intro (HJ.out _ _ ?_)
    exact ⟨_, n, words, [], ws, HP2.out, fpF_eq (by kernel_rfl)⟩
  · rw [List.concat_eq_append] at *
    obtain rfl : t = (gs.length : Int) := by simp at ht; omega
    have hgl : (gs ++ [g]).length = gs.length + 1 := by simp
    rw [hgl] at HP hfew ⊢
    obtain ⟨ws2, gv, rfl, hwl⟩ := vs_split2 (n := gs.length) (vs := ws) (by rw [HP.out.duo.wr.len]; simp)
    have HPO := Lib.hid (duo_pop HP.out.duo (by omega) (by omega))
    have hd : decide ((0 : Int) ≤ (gs.length : Int)) = true := decide_eq_true (by omega)
    have hg := HP.out.ok.last
    have HF := Lib.hid HP.out.ok.init
    have hok := HP.out.duo.ok.ok
    clear ht
    go_wp2_with fail
    refine HPO.out.mono ?_
    rintro e w2 ⟨rfl, hd2, _⟩
    have hw2 := hd2.wr
    have hcap := hw2.cap
    have h0i : (0 : Int) ≤ (gs.length : Int) := by omega
    have h1i : (gs.length : Int) < (gs.length : Int) + 1 := by omega
    have hwd := hd2.ok.wd
    have hlm := hd2.ok.lim
    have HD2 := Lib.hid hd2
    have hgm := hg.m
    obtain ⟨q, wc', e1, _, hqb, y0, _, _, _⟩ := wtop_at hw2 hwl
    injection e1 with e1 e2 e3
    subst e1 e3
    have hu2 := hd2.upd
    have cx0 := hu2.cell (p := ⟨xb, 0, none⟩) (v := .slice a0 p.cs.length c0) (by rw [cell_of HC.out.bx]; rfl) (by simp)
    have cx1 := hu2.cell (p := ⟨xb, 1, none⟩) (v := .slice a1 p.ms.length c1) (by rw [cell_of HC.out.bx]; rfl) (by simp)
    have cx2 := hu2.cell (p := ⟨xb, 2, none⟩) (v := .slice a2 n2 c2) (by rw [cell_of HC.out.bx]; rfl) (by simp)
    have hsz := hok.sizes g.m
    have hmo := hd2.ok.most hgm
    have HWD : Hid (Calls Tryz.prog 11 #[.agg #[.slice a0 p.cs.length c0, .slice a1 p.ms.length c1, .slice a2 n2 c2], .int .i64 g.m] w2.drew fun e w' => e = .returned (.int .i64 (frW p ss g.m)) ∧ Upd [] w2.drew w') := rwords_any p ss a0 a1 p.cs.length c0 c1 (.slice a2 n2 c2) g.m w2.drew (HC.out.lk.upd hu2.drew) (HC.out.ms.upd hu2.drew) HC.out.sl hgm (by omega) (by omega) (by omega)
    have hcut : ∀ W, (Instr.slice 42 (.slice (some ⟨q, 0, none⟩) (gs.length + 1) wc) none (some (.int .i64 (gs.length : Int))) none).run Tryz.prog W = .ok (.slice (some ⟨q, 0, none⟩) gs.length wc) W := fun W => cut_wr W q _ wc gs.length (by rw [hgl] at hcap; omega)
    have hwr : IntKind.i64.wrap (words - frW p ss g.m) = words - frW p ss g.m := IntWalk.i64_in _ (by omega)
    clear hw2 hd2 HPO e2 hwd hcap hlm hok hgm hg hsz hmo hu2 cp0 cp1
    generalize hWd : frW p ss g.m = Wd at HWD hwr HD2
    clear hWd
    have hF0 : w2.cell? ⟨xb, 0, none⟩ = some (.slice a0 p.cs.length c0) ∧ w2.cell? ⟨xb, 1, none⟩ = some (.slice a1 p.ms.length c1) ∧ w2.cell? ⟨xb, 2, none⟩ = some (.slice a2 n2 c2) ∧ w2.cell? ⟨q, gs.length * 4, none⟩ = some (.int .i64 g.m) := ⟨cx0, cx1, cx2, y0⟩
    have hF1 : w2.drew.cell? ⟨xb, 0, none⟩ = some (.slice a0 p.cs.length c0) ∧ w2.drew.cell? ⟨xb, 1, none⟩ = some (.slice a1 p.ms.length c1) ∧ w2.drew.cell? ⟨xb, 2, none⟩ = some (.slice a2 n2 c2) ∧ w2.drew.cell? ⟨q, gs.length * 4, none⟩ = some (.int .i64 g.m) := hF0
    have HJ2 := Lib.hid HF
    go_upto_region 91 with fail
    go_region_held3 (fun W => W.cell? ⟨xb, 0, none⟩ = some (.slice a0 p.cs.length c0) ∧ W.cell? ⟨xb, 1, none⟩ = some (.slice a1 p.ms.length c1) ∧ W.cell? ⟨xb, 2, none⟩ = some (.slice a2 n2 c2) ∧ W.cell? ⟨q, gs.length * 4, none⟩ = some (.int .i64 g.m))
      (first | exact hk0 | exact hF1 | exact hF0)
      ((go_at_call 11; refine HWD.out.mono ?_; rintro e w3 ⟨rfl, hu3⟩; have hk0 := (⟨hu3.cell hF1.1 (by simp), hu3.cell hF1.2.1 (by simp), hu3.cell hF1.2.2.1 (by simp), hu3.cell hF1.2.2.2 (by simp)⟩ : _ ∧ _ ∧ _ ∧ _); have HU3 := Lib.hid hu3))
    have HF5 := Lib.hid (HD2.out.same ((Upd.refl [] w2).drew.trans HU3.out))
    clear hk0 hF0 hF1 HWD cx0 cx1 cx2 y0 HD2 HU3
    go_wp2_with fail
    refine Met.intro (HJ.out _ _ ?_)
    refine ⟨_, n + 1, words - Wd, gs, ws2, ⟨HF5.out.law (Upd.refl [] _) HF5.out.wr.pop (by simp) (fun j hj b hb => .inr ⟨j, by simp; omega, snoc_has (by omega) hb⟩), HF.out, by omega, by omega⟩, fpF_eq (by kernel_rfl)⟩
end Go.Proofs.YtopojeanbpokaaaGreatDoor

/-! FramesPlay: a value is taken. -/
/-! FramesPlay: a value is taken. -/
namespace Go.Proofs.YtopojeanbpokaaaGreatDoor
open Go.RowKit
set_option maxRecDepth 1000000 in
set_option maxHeartbeats 16000000 in
theorem kind6 {E : Nat → Addr} {p : Prg} {ss : List Lk} {w wA W0 wd : World} {ib pb xb xd : Nat} {lim ask t : Int} {a0 a1 a2 la wp lp : Option Addr} {c0 c1 n2 c2 nl lc i wc lcc : Nat} {n words : Int} {fs : List Fr} {ws : List FrV} {kd da dby xn : Int} {xr : Bool} {dl : List Slt} {f : Nat → Value} {J K' : Act → World → Prop} {Q' : Exit → Act → World → Prop}
    (hC : FpC E p ss w wA W0 ib pb xb lim a0 a1 a2 c0 c1 n2 c2) (hP : PlF p ss wA W0 wd ib lim i n words (.slice wp fs.length wc) fs ws) (hD : FpD wA W0 wd xd kd da dby xr xn lp lcc dl) (_hi : i < nl) (_hn : nl ≤ 60)
    (h19 : f 19 = .pointer (some ⟨xd, 0, none⟩)) (h20 : f 20 = .int .i64 t) (ht : t + 1 = (fs.length : Int)) (h132 : f 132 = .int .i64 kd) (hkd : kd = 6)
    (hJ : ∀ a' w', FpR p ss wA W0 lim la nl lc ask pb xb ib i a' w' → J a' w') (hK : ∀ a' w', Met J a' w' → K' a' w') :
    swC.wp Tryz.prog (Exit.then K' Q') (fpF lim la nl lc ask pb xb ib W0.heap.size (.slice wp fs.length wc) (.int .i64 words) (.int .i64 i) f) wd := by
  subst hkd
  have HC := Lib.hid hC
  have HP := Lib.hid hP
  have HJ := Lib.hid hJ
  have hfew := hP.few
  have hcnt := hP.cnt
  clear hC hP hD hJ
  unfold fpF
  rw [h19, h20, h132]
  conv => arg 2; whnf
  rcases List.eq_nil_or_concat fs with rfl | ⟨gs, g, rfl⟩
  · as_aux_lemma =>
    obtain rfl : t = -1 := by simp at ht; omega
    have HPO := Lib.hid (duo_take_none HP.out.duo)
    go_wp2_with fail
    refine HPO.out.mono ?_
    rintro e w2 ⟨rfl, hu2⟩
    have HP2 : Hid (PlF p ss wA W0 (w2.alloc (.cells #[.bool false, .int .i64 0] 44)) ib lim (i + 1) n words (.slice wp ([] : List Fr).length wc) [] ws) := ⟨HP.out.duo.same (hu2.alloc _), HP.out.ok, by simp, by omega⟩
    clear hu2 HPO HP
    go_wp2_with fail
    refine Met.intro (HJ.out _ _ ?_)
    exact ⟨_, n, words, [], ws, HP2.out, fpF_eq (by kernel_rfl)⟩
  · rw [List.concat_eq_append] at *
    obtain rfl : t = (gs.length : Int) := by simp at ht; omega
    have hgl : (gs ++ [g]).length = gs.length + 1 := by simp
    rw [hgl] at HP hfew ⊢
    obtain ⟨ws2, gv, rfl, hwl⟩ := vs_split2 (n := gs.length) (vs := ws) (by rw [HP.out.duo.wr.len]; simp)
    have hd : decide ((0 : Int) ≤ (gs.length : Int)) = true := decide_eq_true (by omega)
    have h0i : (0 : Int) ≤ (gs.length : Int) := by omega
    have h1i : (gs.length : Int) < (gs.length : Int) + 1 := by omega
    have HF := Lib.hid HP.out.ok
    have hg12 := HP.out.ok.last.stk
    obtain ⟨q, wc', e1, _, hqb, _, _, _, y3⟩ := wtop_at HP.out.duo.wr hwl
    injection e1 with e1 e2 e3
    subst e1 e3
    have HDU := Lib.hid HP.out.duo
    clear ht e2 HP
    rcases List.eq_nil_or_concat g.stk with hgs | ⟨ys, x, hgs⟩
    ·
      as_aux_lemma =>
      have HPO := Lib.hid (duo_take_empty HDU.out hgs)
      obtain ⟨sp, sc, hsv⟩ := (HDU.out.wr.stkT hwl).shape
      rw [hsv, hgs] at y3
      have y3 : wd.cell? ⟨q, gs.length * 4 + 3, none⟩ = some (.slice sp 0 sc) := y3
      clear hgs hsv
      go_wp2_with fail
      refine HPO.out.mono ?_
      rintro e w2 ⟨rfl, hu2⟩
      have hu3 := hu2.alloc (.cells #[.bool false, .int .i64 0] 44)
      have y3 := hu3.cell y3 (by simp)
      have HP2 : Hid (PlF p ss wA W0 (w2.alloc (.cells #[.bool false, .int .i64 0] 44)) ib lim (i + 1) n words (.slice (some ⟨q, 0, none⟩) (gs.length + 1) wc) (gs ++ [g]) (ws2 ++ [gv])) := ⟨HDU.out.same hu3, HF.out, by rw [hgl]; omega, by omega⟩
      clear hu2 hu3 HPO
      go_wp2_with fail
      refine Met.intro (HJ.out _ _ ?_)
      exact ⟨_, n, words, _, _, HP2.out, fpF_eq (by kernel_rfl)⟩
    ·
      as_aux_lemma =>
      rw [List.concat_eq_append] at hgs
      have hyl : ys.length + 1 ≤ 12 := by rw [hgs] at hg12; simpa using hg12
      have HPO := Lib.hid (duo_take HDU.out hgs (by omega))
      have HGS := Lib.hid hgs
      obtain ⟨r, xn⟩ := x
      clear hgs hg12 y3
      go_wp2_with fail
      refine HPO.out.mono ?_
      rintro e w2 ⟨rfl, hd2, hk2⟩
      have hos := hd2.wr.stkT hwl
      rw [HGS.out] at hos
      obtain ⟨sq, sc, hsv, hsc, hc0, hc1⟩ := hos.last
      rw [hsv] at hos
      obtain ⟨_, _, _, y3, fz⟩ := hd2.wr.top hwl
      rw [hsv] at y3
      have fz := fz (gs.length * 4 + 3)
      have hal := (Upd.refl [] w2).alloc (.cells #[.bool r, .int .i64 xn] 44)
      have hab := heap_alloc_new w2 (.cells #[.bool r, .int .i64 xn] 44)
      have HD2 := Lib.hid (hd2.same hal)
      have HOS := Lib.hid (OwnSl.upd hos hal (by simp))
      have HSV := Lib.hid hsv
      have y3 := hal.cell y3 (by simp)
      have hc0 := hal.cell hc0 (by simp)
      have hc1 := hal.cell hc1 (by simp)
      clear hd2 hk2 HPO hos hal fz hsv HDU
      go_upto_region 113 with fail
      generalize w2.alloc (.cells #[.bool r, .int .i64 xn] 44) = w3 at hab HD2 HOS y3 hc0 hc1 ⊢
      generalize w2.heap.size = ab at hab ⊢
      have z0 : w3.cell? ⟨ab, 0, none⟩ = some (.bool r) := by rw [cell_of hab]; rfl
      have z1 : w3.cell? ⟨ab, 1, none⟩ = some (.int .i64 xn) := by rw [cell_of hab]; rfl
      have hw1 : IntKind.i64.wrap ((ys.length : Int) + 1 - 1) = (ys.length : Int) := by rw [IntWalk.i64_in _ (by omega)]; omega
      have hw2 : IntKind.i64.wrap (((ys.length + 1 : Nat) : Int) - 1) = (ys.length : Int) := by rw [IntWalk.i64_in _ (by omega)]; omega
      have hgt : decide ((0 : Int) < (ys.length : Int) + 1) = true := decide_eq_true (by omega)
      have hgt2 : decide (0 < ys.length + 1) = true := decide_eq_true (by omega)
      have hcut : ∀ W, (Instr.slice 45 (.slice (some ⟨sq, 0, none⟩) (ys.length + 1) sc) (some (.int .i64 (ys.length : Int))) none none).run Tryz.prog W = .ok (.slice (some ⟨sq, ys.length * 2, none⟩) 1 (sc - ys.length)) W := fun W => by
        rw [cut_from W sq (ys.length + 1) sc ys.length (by omega) (by omega), show ys.length + 1 - ys.length = 1 by omega]
      have hcut2 : ∀ W, (Instr.slice 45 (.slice (some ⟨sq, 0, none⟩) (ys.length + 1) sc) none (some (.int .i64 (ys.length : Int))) none).run Tryz.prog W = .ok (.slice (some ⟨sq, 0, none⟩) ys.length sc) W := fun W => cut_sl W sq _ sc ys.length (by omega)
      clear hab
      go_upto_region 117 with fail
      have hdr := (Upd.refl [] w3).drew
      have hal := (Upd.refl [] w3.drew).alloc (.cells #[.bool r, .int .i64 xn] 44)
      have hnw := heap_alloc_new w3.drew (.cells #[.bool r, .int .i64 xn] 44)
      have hF0 : w3.cell? ⟨ab, 0, none⟩ = some (.bool r) ∧ w3.cell? ⟨ab, 1, none⟩ = some (.int .i64 xn) ∧ w3.cell? ⟨q, gs.length * 4 + 3, none⟩ = some (.slice (some ⟨sq, 0, none⟩) (ys.length + 1) sc) := ⟨z0, z1, y3⟩
      have hF1 : w3.drew.cell? ⟨ab, 0, none⟩ = some (.bool r) ∧ w3.drew.cell? ⟨ab, 1, none⟩ = some (.int .i64 xn) ∧ w3.drew.cell? ⟨q, gs.length * 4 + 3, none⟩ = some (.slice (some ⟨sq, 0, none⟩) (ys.length + 1) sc) := hF0
      have hF2 : (w3.drew.alloc (.cells #[.bool r, .int .i64 xn] 44)).cell? ⟨ab, 0, none⟩ = some (.bool r) ∧ (w3.drew.alloc (.cells #[.bool r, .int .i64 xn] 44)).cell? ⟨ab, 1, none⟩ = some (.int .i64 xn) ∧ (w3.drew.alloc (.cells #[.bool r, .int .i64 xn] 44)).cell? ⟨q, gs.length * 4 + 3, none⟩ = some (.slice (some ⟨sq, 0, none⟩) (ys.length + 1) sc) := ⟨hal.cell hF1.1 (by simp), hal.cell hF1.2.1 (by simp), hal.cell hF1.2.2 (by simp)⟩
      have HSM := Lib.hid (same13_any (.slice (some ⟨w3.drew.heap.size, 0, none⟩) 1 1) (.slice (some ⟨sq, ys.length * 2, none⟩) 1 (sc - ys.length)) [⟨r, xn⟩] (w3.drew.alloc (.cells #[.bool r, .int .i64 xn] 44)) (so_one (by rw [cell_of hnw]; rfl) (by rw [cell_of hnw]; rfl)) (so_one ((hdr.trans hal).cell hc0 (by simp)) ((hdr.trans hal).cell hc1 (by simp))) (by simp))
      have HD3 := Lib.hid (HD2.out.same (hdr.trans hal))
      have HOS3 := Lib.hid (OwnSl.upd HOS.out (hdr.trans hal) (by simp))
      clear hdr hal hnw z0 z1 y3 hc0 hc1 HD2 HOS
      go_region_held3 (fun W => W.cell? ⟨ab, 0, none⟩ = some (.bool r) ∧ W.cell? ⟨ab, 1, none⟩ = some (.int .i64 xn) ∧ W.cell? ⟨q, gs.length * 4 + 3, none⟩ = some (.slice (some ⟨sq, 0, none⟩) (ys.length + 1) sc))
        (first | exact hk0 | exact hF2 | exact hF1 | exact hF0)
        ((go_at_call 18; refine HSM.out.mono ?_; rintro e w4 ⟨rfl, hu4⟩; have hk0 := (⟨hu4.cell hF2.1 (by simp), hu4.cell hF2.2.1 (by simp), hu4.cell hF2.2.2 (by simp)⟩ : _ ∧ _ ∧ _); have HU4 := Lib.hid hu4))
      have HD4 := Lib.hid (HD3.out.same HU4.out)
      have HOS4 := Lib.hid (OwnSl.upd HOS3.out HU4.out (by simp))
      have y3 := hk0.2.2
      obtain ⟨_, _, _, _, fz⟩ := HD4.out.wr.top hwl
      have fz := fz (gs.length * 4 + 3)
      clear hk0 hF0 hF1 hF2 HD3 HOS3 HU4 HSM
      go_wp2_with fail
      refine Met.intro (HJ.out _ _ ?_)
      have hs1 : Upd [q] w4 (w4.setCell ⟨q, gs.length * 4 + 3, none⟩ (.slice (some ⟨sq, 0, none⟩) ys.length sc)) := (Upd.refl [q] w4).setCell (.inl (by simp)) _
      refine ⟨_, n, words, gs ++ [{ g with stk := ys }], ws2 ++ [⟨gv.lv, .slice (some ⟨sq, 0, none⟩) ys.length sc⟩], ⟨HD4.out.law hs1 (HD4.out.wr.turn3 _ ys (by rw [HSV.out]; rfl) (OwnSl.cut HOS4.out)) (fun t ht => ?_) (fun j hj b hb => .inr ⟨j, by simpa using hj, has_turn (by rw [HSV.out]; rfl) j b hb⟩), HF.out.init.snoc (HF.out.last.same rfl rfl (by simp; omega)), by simp; omega, by omega⟩, fpF_eq (by kernel_rfl)⟩
      rw [List.mem_singleton] at ht
      subst ht
      exact .inl rfl
end Go.Proofs.YtopojeanbpokaaaGreatDoor

/-! FramesPlay: a frame is told to jump. -/
/-! FramesPlay: a frame is told to jump. -/
namespace Go.Proofs.YtopojeanbpokaaaGreatDoor
open Go.RowKit
set_option maxRecDepth 1000000 in
set_option maxHeartbeats 16000000 in
theorem kind3 {E : Nat → Addr} {p : Prg} {ss : List Lk} {w wA W0 wd : World} {ib pb xb xd : Nat} {lim ask t : Int} {a0 a1 a2 la wp lp : Option Addr} {c0 c1 n2 c2 nl lc i wc lcc : Nat} {n words : Int} {fs : List Fr} {ws : List FrV} {kd da dby xn : Int} {xr : Bool} {dl : List Slt} {f : Nat → Value} {J K' : Act → World → Prop} {Q' : Exit → Act → World → Prop}
    (hC : FpC E p ss w wA W0 ib pb xb lim a0 a1 a2 c0 c1 n2 c2) (hP : PlF p ss wA W0 wd ib lim i n words (.slice wp fs.length wc) fs ws) (hD : FpD wA W0 wd xd kd da dby xr xn lp lcc dl) (_hi : i < nl) (_hn : nl ≤ 60)
    (h19 : f 19 = .pointer (some ⟨xd, 0, none⟩)) (h20 : f 20 = .int .i64 t) (ht : t + 1 = (fs.length : Int)) (h132 : f 132 = .int .i64 kd) (hkd : kd = 3)
    (hJ : ∀ a' w', FpR p ss wA W0 lim la nl lc ask pb xb ib i a' w' → J a' w') (hK : ∀ a' w', Met J a' w' → K' a' w') :
    swC.wp Tryz.prog (Exit.then K' Q') (fpF lim la nl lc ask pb xb ib W0.heap.size (.slice wp fs.length wc) (.int .i64 words) (.int .i64 i) f) wd := by
  subst hkd
  have HC := Lib.hid hC
  have HP := Lib.hid hP
  have HJ := Lib.hid hJ
  have HD := Lib.hid hD
  have hu := hP.duo.upd
  obtain ⟨cp0, cp1, cx0, cx1, cx2⟩ := hC.cells hu
  obtain ⟨b0, b1, b2, b3, b4, b5⟩ := hD.cells (Upd.refl [] wd)
  have hfew := hP.few
  have hcnt := hP.cnt
  clear hu hC hP hD hJ
  unfold fpF
  rw [h19, h20, h132]
  conv => arg 2; whnf
  rcases List.eq_nil_or_concat fs with rfl | ⟨gs, g, rfl⟩
  · as_aux_lemma =>
    obtain rfl : t = -1 := by simp at ht; omega
    go_upto_region 94 with fail
    go_quiet (fail)
    have HP1 := Lib.hid (HP.out.duo.same ((Upd.refl [] wd).drewN nq))
    have b1 := ((Upd.refl [] wd).drewN nq).cell b1 (by simp)
    have HPO := Lib.hid (duo_jump_none da HP1.out)
    go_wp2_with fail
    refine HPO.out.mono ?_
    rintro e w2 ⟨rfl, hu2⟩
    have HP2 : Hid (PlF p ss wA W0 w2 ib lim (i + 1) n words (.slice wp ([] : List Fr).length wc) [] ws) := ⟨HP1.out.same hu2, HP.out.ok, by simp, by omega⟩
    clear hu2 HPO HP HP1
    go_wp2_with fail
    refine Met.intro (HJ.out _ _ ?_)
    exact ⟨_, n, words, [], ws, HP2.out, fpF_eq (by kernel_rfl)⟩
  · rw [List.concat_eq_append] at *
    obtain rfl : t = (gs.length : Int) := by simp at ht; omega
    have hgl : (gs ++ [g]).length = gs.length + 1 := by simp
    rw [hgl] at HP hfew ⊢
    obtain ⟨ws2, gv, rfl, hwl⟩ := vs_split2 (n := gs.length) (vs := ws) (by rw [HP.out.duo.wr.len]; simp)
    have hd : decide ((0 : Int) ≤ (gs.length : Int)) = true := decide_eq_true (by omega)
    have h0i : (0 : Int) ≤ (gs.length : Int) := by omega
    have h1i : (gs.length : Int) < (gs.length : Int) + 1 := by omega
    have hg := HP.out.ok.last
    have HF := Lib.hid HP.out.ok
    have hok := HP.out.duo.ok.ok
    have hgm := hg.m
    have hm0i : (0 : Int) ≤ (g.m : Int) := by omega
    have hm1i : (g.m : Int) < (p.ms.length : Int) := by omega
    have HG := Lib.hid hg
    obtain ⟨q, wc', e1, _, hqb, y0, _, _, _⟩ := wtop_at HP.out.duo.wr hwl
    injection e1 with e1 e2 e3
    subst e1 e3
    obtain ⟨_, cur, hcur⟩ := HP.out.duo.wr.blk
    obtain ⟨bm, mo, ka, kc, rfl, _, _, _, m3⟩ := meth_cells (HC.out.ms.upd HP.out.duo.upd) hgm
    have hcl := (hok.code1 g.m hgm).2
    have HJN := Lib.hid (fun W (hW : Duo wA W0 W W0.heap.size ib p ss lim n words (gs ++ [g]) (.slice (some ⟨q, 0, none⟩) (gs.length + 1) wc) (gs ++ [g]) (ws2 ++ [gv])) h => duo_jump_no da hW h)
    have HJY := Lib.hid (fun W (hW : Duo wA W0 W W0.heap.size ib p ss lim n words (gs ++ [g]) (.slice (some ⟨q, 0, none⟩) (gs.length + 1) wc) (gs ++ [g]) (ws2 ++ [gv])) h => duo_jump da hW h)
    clear ht e2 hg cx0 cx1 cx2 hok
    have hcl : (p.ms.getD g.m default).code.length ≤ 120 := hcl
    generalize (p.ms.getD g.m default).code.length = L at m3 HJN HJY hcl
    have HDU := Lib.hid HP.out.duo
    clear HP hcur
    by_cases hda : 0 ≤ da ∧ da < (L : Int)
    · as_aux_lemma =>
      obtain ⟨hda, hdb⟩ := hda
      have hd2 : decide ((0 : Int) ≤ da) = true := decide_eq_true hda
      have hd3 : decide (da < (L : Int)) = true := decide_eq_true hdb
      go_upto_region 94 with fail
      go_quiet (fail)
      have b1 := ((Upd.refl [] wd).drewN nq).cell b1 (by simp)
      have HD1 := Lib.hid (HDU.out.same ((Upd.refl [] wd).drewN nq))
      have HJ1 := Lib.hid (HJY.out _ HD1.out ⟨hda, hdb⟩)
      clear HJN HJY HDU hd2 hd3 cp0 cp1 b0 b2 b3 b4 b5 y0 m3
      have HUN := Lib.hid ((Upd.refl [] wd).drewN nq)
      generalize wd.drewN nq = wn at b1 HD1 HJ1 HUN ⊢
      go_wp2_with fail
      refine HJ1.out.mono ?_
      rintro e w2 ⟨rfl, hd2, hk2⟩
      obtain ⟨_, y1, _, _, fz⟩ := hd2.wr.top hwl
      have fz := fz (gs.length * 4 + 1)
      obtain ⟨_, x1, _⟩ := ((HD.out.same HUN.out).keep hk2).cells (Upd.refl [] _)
      have HD2 := Lib.hid hd2
      clear hd2 hk2 HJ1 HD1 b1
      go_wp2_with fail
      refine Met.intro (HJ.out _ _ ?_)
      have hs1 : Upd [q] w2 (w2.setCell ⟨q, gs.length * 4 + 1, none⟩ (.int .i64 da)) := (Upd.refl [q] w2).setCell (.inl (by simp)) _
      refine ⟨_, n, words, gs ++ [{ g with pc := da }], ws2 ++ [gv], ⟨HD2.out.law hs1 (HD2.out.wr.jump da) (fun t ht => ?_) (fun j hj b hb => .inr ⟨j, by simpa using hj, hb⟩), HF.out.init.snoc (HF.out.last.same rfl rfl HF.out.last.stk), by simp; omega, by omega⟩, fpF_eq (by kernel_rfl)⟩
      rw [List.mem_singleton] at ht
      subst ht
      exact .inl rfl
    · by_cases hda0 : 0 ≤ da
      · as_aux_lemma =>
        have hd2 : decide ((0 : Int) ≤ da) = true := decide_eq_true hda0
        have hd3 : decide (da < (L : Int)) = false := decide_eq_false (fun h => hda ⟨hda0, h⟩)
        go_upto_region 94 with fail
        go_quiet (fail)
        have b1 := ((Upd.refl [] wd).drewN nq).cell b1 (by simp)
        have HD1 := Lib.hid (HDU.out.same ((Upd.refl [] wd).drewN nq))
        have HJ1 := Lib.hid (HJN.out _ HD1.out hda)
        clear HJN HJY HDU hd2 hd3 cp0 cp1 b0 b2 b3 b4 b5 y0 m3
        generalize wd.drewN nq = wn at b1 HD1 HJ1 ⊢
        go_wp2_with fail
        refine HJ1.out.mono ?_
        rintro e w2 ⟨rfl, hu2⟩
        have HP2 : Hid (PlF p ss wA W0 w2 ib lim (i + 1) n words (.slice (some ⟨q, 0, none⟩) (gs.length + 1) wc) (gs ++ [g]) (ws2 ++ [gv])) := ⟨HD1.out.same hu2, HF.out, by rw [hgl]; omega, by omega⟩
        clear hu2 HJ1 HD1
        go_wp2_with fail
        refine Met.intro (HJ.out _ _ ?_)
        exact ⟨_, n, words, _, _, HP2.out, fpF_eq (by kernel_rfl)⟩
      · as_aux_lemma =>
        have hd2 : decide ((0 : Int) ≤ da) = false := decide_eq_false hda0
        go_upto_region 94 with fail
        go_quiet (fail)
        have b1 := ((Upd.refl [] wd).drewN nq).cell b1 (by simp)
        have HD1 := Lib.hid (HDU.out.same ((Upd.refl [] wd).drewN nq))
        have HJ1 := Lib.hid (HJN.out _ HD1.out hda)
        clear HJN HJY HDU hd2 cp0 cp1 b0 b2 b3 b4 b5 y0 m3
        generalize wd.drewN nq = wn at b1 HD1 HJ1 ⊢
        go_wp2_with fail
        refine HJ1.out.mono ?_
        rintro e w2 ⟨rfl, hu2⟩
        have HP2 : Hid (PlF p ss wA W0 w2 ib lim (i + 1) n words (.slice (some ⟨q, 0, none⟩) (gs.length + 1) wc) (gs ++ [g]) (ws2 ++ [gv])) := ⟨HD1.out.same hu2, HF.out, by rw [hgl]; omega, by omega⟩
        clear hu2 HJ1 HD1
        go_wp2_with fail
        refine Met.intro (HJ.out _ _ ?_)
        exact ⟨_, n, words, _, _, HP2.out, fpF_eq (by kernel_rfl)⟩
end Go.Proofs.YtopojeanbpokaaaGreatDoor

/-! FramesPlay: the references, one too many or one below none. -/
/-! FramesPlay: the references, one too many or one below none. -/
namespace Go.Proofs.YtopojeanbpokaaaGreatDoor
open Go.RowKit
set_option maxRecDepth 1000000 in
set_option maxHeartbeats 16000000 in
theorem kind7a {E : Nat → Addr} {p : Prg} {ss : List Lk} {w wA W0 wd : World} {ib pb xb xd : Nat} {lim ask t : Int} {a0 a1 a2 la wp lp : Option Addr} {c0 c1 n2 c2 nl lc i wc lcc : Nat} {n words : Int} {fs : List Fr} {ws : List FrV} {kd da dby xn : Int} {xr : Bool} {dl : List Slt} {f : Nat → Value} {J K' : Act → World → Prop} {Q' : Exit → Act → World → Prop}
    (hC : FpC E p ss w wA W0 ib pb xb lim a0 a1 a2 c0 c1 n2 c2) (hP : PlF p ss wA W0 wd ib lim i n words (.slice wp fs.length wc) fs ws) (hD : FpD wA W0 wd xd kd da dby xr xn lp lcc dl) (_hi : i < nl) (_hn : nl ≤ 60)
    (h19 : f 19 = .pointer (some ⟨xd, 0, none⟩)) (h20 : f 20 = .int .i64 t) (_ht : t + 1 = (fs.length : Int)) (h132 : f 132 = .int .i64 kd) (hkd : kd ≠ 1 ∧ kd ≠ 2 ∧ kd ≠ 3 ∧ kd ≠ 4 ∧ kd ≠ 5 ∧ kd ≠ 6) (hm4 : da % 4 = 0)
    (hJ : ∀ a' w', FpR p ss wA W0 lim la nl lc ask pb xb ib i a' w' → J a' w') (hK : ∀ a' w', Met J a' w' → K' a' w') :
    swC.wp Tryz.prog (Exit.then K' Q') (fpF lim la nl lc ask pb xb ib W0.heap.size (.slice wp fs.length wc) (.int .i64 words) (.int .i64 i) f) wd := by
  obtain ⟨n1, n2', n3, n4, n5, n6⟩ := hkd
  have k1 : (kd == 1) = false := by rw [beq_eq_false_iff_ne]; exact n1
  have k2 : (kd == 2) = false := by rw [beq_eq_false_iff_ne]; exact n2'
  have k3 : (kd == 3) = false := by rw [beq_eq_false_iff_ne]; exact n3
  have k4 : (kd == 4) = false := by rw [beq_eq_false_iff_ne]; exact n4
  have k5 : (kd == 5) = false := by rw [beq_eq_false_iff_ne]; exact n5
  have k6 : (kd == 6) = false := by rw [beq_eq_false_iff_ne]; exact n6
  clear n1 n2' n3 n4 n5 n6
  have HC := Lib.hid hC
  have HP := Lib.hid hP
  have HJ := Lib.hid hJ
  have HD := Lib.hid hD
  obtain ⟨b0, b1, b2, b3, b4, b5⟩ := hD.cells (Upd.refl [] wd)
  have hfew := hP.few
  have hcnt := hP.cnt
  have hok := hP.duo.ok.ok
  have hf60 : fs.length ≤ 60 := by omega
  have HRT := Lib.hid (roots13_any (W0.heap.size + 1) (.slice wp fs.length wc) fs ws wd hP.duo.wr (by omega) (fun j hj => by have := (hP.ok.getD hj).small hok; omega))
  have hrl : (rootsL fs).length ≤ 1440 := by have := FrsOk.roots2 hok hP.ok; omega
  obtain ⟨i1, hi0, hz0, hz1, hz2⟩ := info_parts Tryz.infoInt
  have HJ0 := Lib.hid hi0
  have HZ0 := Lib.hid hz0
  have HZ1 := Lib.hid hz1
  have HZ2 := Lib.hid hz2
  clear hi0 hz0 hz1 hz2 hC hP hD hJ b0 b3 b4 b5
  obtain ⟨R, hR⟩ : ∃ R, rootsL fs = R := ⟨_, rfl⟩
  rw [hR] at HRT hrl
  have HR := Lib.hid hR
  have hby : bits BinOp.and IntKind.i64 dby 1023 = dby % 1024 := and_mask dby 10 1023 (by omega) (by decide)
  obtain ⟨by_, hby2⟩ : ∃ y, dby % 1024 = y := ⟨_, rfl⟩
  have hy0 : 0 ≤ by_ ∧ by_ < 1024 := by omega
  rw [hby2] at hby
  have hda : bits BinOp.and IntKind.i64 da 3 = da % 4 := and_mask da 2 3 (by omega) (by decide)
  obtain ⟨d4, hd4⟩ : ∃ y, da % 4 = y := ⟨_, rfl⟩
  rw [hd4] at hda hm4
  clear hby2 hd4 hR
  unfold fpF
  rw [h19, h20, h132]
  conv => arg 2; whnf
  go_wp2_with fail
  refine HRT.out.mono ?_
  rintro e w1 ⟨u, rfl, ho, hu1⟩
  obtain ⟨rp, rc, rfl⟩ := ho.shape
  have b1 := hu1.cell b1 (by simp)
  have b2 := hu1.cell b2 (by simp)
  have HO1 := Lib.hid ho
  have HU1 := Lib.hid hu1
  clear ho hu1 HRT
  go_wp2_with fail
  go_loopw [38] (fun kv wr => ∃ k : Nat, k ≤ R.length ∧ kv = .int .i64 k ∧ Hid (OwnI wr wd.heap.size 3 (.slice rp R.length rc) (turnR by_ R k)) ∧ Hid (Upd [] wd wr)) (fun kv _ => R.length - (intOf kv).toNat)
  case atStart => exact ⟨0, by omega, rfl, by rw [turnR_zero]; exact HO1.out, HU1.out⟩
  case round =>
    obtain ⟨k, hk, rfl, HO, HU⟩ := hrel
    obtain ⟨wo, rfl⟩ : ∃ wo : World, wo = wr := ⟨_, rfl⟩
    by_cases hlt : k < R.length
    ·
      as_aux_lemma =>
      have ho := HO.out
      obtain ⟨rb, rc2, he, hb0, hb1, hc⟩ := ho.nth k (by rw [turnR_len]; exact hlt)
      injection he with e1 e2 e3
      subst e1 e3
      rw [turnR_get by_ R k hlt] at hc
      have hfz := ho.frozL
      have hst := turnR_step by_ R k hlt
      generalize R.getD k 0 = x at hc hst
      have hand : bits BinOp.and IntKind.i64 x 1048575 = x % 1048576 := and_mask x 20 1048575 (by omega) (by decide)
      have htx : trn by_ x = x % 1048576 + by_ := rfl
      have hwr : IntKind.i64.wrap (x % 1048576 + by_) = x % 1048576 + by_ := IntWalk.i64_in _ (by omega)
      have ho2 := OwnI.set (c := rc) (g := rb) (xs := turnR by_ R k) (by rw [turnR_len]; exact ho) k (trn by_ x)
      rw [turnR_len, hst, htx] at ho2
      have HO2 := Lib.hid ho2
      have HU2 : Hid (Upd [] wd (wo.setCell ⟨rb, k, none⟩ (.int .i64 (x % 1048576 + by_)))) := HU.out.setCell (.inr hb0) _
      have fz := hfz k
      clear ho ho2 hst htx e2 hfz HO
      go_wp2_with fail
      go_roundw
      case rel => exact ⟨k + 1, by omega, by go_num, HO2.out, HU2.out⟩
      case measure => simp [intOf]; omega
    · have hkR : k = R.length := by omega
      have HON : Hid (OwnI wo wd.heap.size 3 (.slice rp R.length rc) (R.map (trn by_))) := by
        have h1 := HO.out
        rw [hkR, turnR_all] at h1
        exact h1
      obtain ⟨b0, b1, b2, b3, b4, b5⟩ := HD.out.cells HU.out
      have HDU := Lib.hid (HP.out.duo.same HU.out)
      have hNl : (R.map (trn by_)).length = R.length := by simp
      have hN0 : ∀ x ∈ R.map (trn by_), 0 ≤ x := fun x hx => by
        obtain ⟨y, _, rfl⟩ := List.mem_map.1 hx
        exact trn_ge _ _ (by omega)
      obtain ⟨N, hN⟩ : ∃ N, R.map (trn by_) = N := ⟨_, rfl⟩
      rw [hN] at HON hNl hN0
      have HNL := Lib.hid hNl
      have HN0 := Lib.hid hN0
      clear hN hNl hN0 HO HO1 HU1 b0 b2 b3 b4 b5 hkR
      subst hm4
      have HIN := Lib.hid (fun W (hW : OwnI W wd.heap.size 3 (.slice rp R.length rc) N) => ints_copy (rp := rp) (rc := rc) (n := R.length) HNL.out (by rw [HNL.out]; omega) hW)
      have HI1 := Lib.hid (HIN.out wo HON.out)
      go_wp2_with fail
      refine HI1.out.mono ?_
      rintro e w3 ⟨u3, rfl, ho3, hu3⟩
      obtain ⟨up, uc, rfl⟩ := ho3.shape
      rw [HNL.out] at ho3
      have HO3 := Lib.hid ho3
      have HU3 := Lib.hid hu3
      have HDU3 := Lib.hid (HDU.out.same hu3)
      clear ho3 hu3 HI1 HDU
      rw [HNL.out]
      go_wp2_with (at_builtin; refine stop_here ?_)
      refine Hid.mk ?_
      refine (wpList_append_src rfl (.tmp 160) (.tmp 161) 63 rfl wo.heap.size 3 i1 (.int .i64 0) 1 8 Tryz.underlying63 HJ0.out HZ0.out HZ1.out HZ2.out rfl (by decide) (.slice up R.length uc) R.length (N.map (Value.int .i64)) rfl (World.ownsRow.alloc (by have h := HO3.out; unfold OwnI at h; rw [HNL.out] at h; exact h) _) (.slice (some ⟨w3.heap.size, 0, none⟩) 1 1) 1 [.int .i64 1] rfl (.inr ⟨_, _, rfl, int_new _ _⟩) rfl (by simp [Value.oneCell']) ?c1 ?c2 ?c3 ?c4)
      case c1 => unfold maxLen; omega
      case c2 => omega
      case c3 => have := HU3.out.size; simp; omega
      case c4 =>
        intro v1 w7 hown hgr _
        have hu7 := ((Upd.refl (Value.slice up R.length uc).ownBlock.toList w3).alloc (.cells #[.int .i64 1] 3)).grown hgr (fun z hz => Or.inl (Option.mem_toList.2 hz))
        have HU7 : Hid (Upd [] wo w7) := HU3.out.trans' hu7 (fun q hq hl => by have := (World.ownsRow.lt HO3.out q (Option.mem_toList.1 hq)).1; omega)
        have hO7 : OwnI w7 wo.heap.size 3 v1 (N ++ [1]) := OwnI.snoc (by rw [HNL.out]; exact hown)
        obtain ⟨b7, hv7, hb7, hz7⟩ := hO7.iv
        have hdu7 : Duo wA W0 w7 W0.heap.size ib p ss lim n words fs (.slice wp fs.length wc) fs ws := (HP.out.duo.same HU.out).same HU7.out
        have HSR := Lib.hid (duo_setroots_no hdu7 HP.out.ok hf60 hv7 (by rw [List.length_append, HNL.out]; simp; omega) (.inl (by rw [HR.out, List.length_append, HNL.out]; simp)))
        obtain ⟨p7, c7, hs7⟩ := hO7.shape
        rw [List.length_append, HNL.out, List.length_singleton] at hs7
        subst hs7
        have HDU7 := Lib.hid hdu7
        have HON7 := Lib.hid (OwnI.upd HON.out HU7.out (by simp))
        clear hown hgr hu7 hO7 hv7 hb7 hz7 hdu7 HO3 HU3 HDU3 HON b1 b2
        go_wp2_with fail
        refine HSR.out.mono ?_
        rintro e w8 ⟨rfl, hu8⟩
        have HDU8 := Lib.hid (HDU7.out.same hu8)
        have HON8 := Lib.hid (OwnI.upd HON7.out hu8 (by simp))
        clear hu8 HSR HDU7 HON7
        by_cases hR0 : R.length = 0
        ·
          have hR1 : decide ((0 : Int) < (R.length : Int)) = false := decide_eq_false (by omega)
          have hR2 : decide (0 < R.length) = false := decide_eq_false (by omega)
          clear hR0
          go_wp2_with fail
          refine Met.intro (HJ.out _ _ ?_)
          exact ⟨_, n, words, _, _, ⟨HDU8.out, HP.out.ok, by omega, by omega⟩, fpF_eq (by kernel_rfl)⟩
        ·
          have hR1 : decide ((0 : Int) < (R.length : Int)) = true := decide_eq_true (by omega)
          have hR2 : decide (0 < R.length) = true := decide_eq_true (by omega)
          have HI8 := Lib.hid (HIN.out w8 HON8.out)
          go_wp2_with fail
          refine HI8.out.mono ?_
          rintro e w9 ⟨u9, rfl, ho9, hu9⟩
          have HDU9 := Lib.hid (HDU8.out.same hu9)
          obtain ⟨p9, c9, rfl⟩ := ho9.shape
          rw [HNL.out] at ho9 ⊢
          have ho9' : OwnI w9 w8.heap.size 3 (.slice p9 R.length c9) N := ho9
          obtain ⟨g9, c9', he, hb0, _, hc⟩ := ho9'.nth (R.length - 1) (by rw [HNL.out]; omega)
          injection he with e1 e2 e3
          subst e1 e3
          have fz := ho9'.frozL (R.length - 1)
          have ho10 := OwnI.set (c := c9) (g := g9) (xs := N) (by rw [HNL.out]; exact ho9') (R.length - 1) (-1)
          rw [HNL.out] at ho10
          have hs9 : Upd [g9] w9 (w9.setCell ⟨g9, R.length - 1, none⟩ (.int .i64 (-1))) := (Upd.refl [g9] w9).setCell (.inl (by simp)) _
          have hs8 : Upd [] w8 (w9.setCell ⟨g9, R.length - 1, none⟩ (.int .i64 (-1))) := hu9.setCell (.inr hb0) _
          have HDU10 := Lib.hid (HDU8.out.same hs8)
          have HO10 := Lib.hid ho10
          have hix : IntKind.i64.wrap ((R.length : Int) - 1) = ((R.length - 1 : Nat) : Int) := by rw [IntWalk.i64_in _ (by omega)]; omega
          have hi0 : (0 : Int) ≤ ((R.length - 1 : Nat) : Int) := by omega
          have hi1 : ((R.length - 1 : Nat) : Int) < (R.length : Int) := by omega
          clear ho9 ho9' ho10 hu9 hs8 hs9 e2 HI8 HDU9
          go_upto_region 35 with fail
          generalize w9.setCell ⟨g9, R.length - 1, none⟩ (.int .i64 (-1)) = w10 at HDU10 HO10 ⊢
          obtain ⟨b10, hv10, _, _⟩ := HO10.out.iv
          have HSR2 := Lib.hid (duo_setroots_no HDU10.out HP.out.ok hf60 hv10 (by rw [List.length_set, HNL.out]; omega) (.inr ⟨-1, (List.mem_iff_getElem.2 ⟨R.length - 1, by rw [List.length_set, HNL.out]; omega, by simp⟩), by omega⟩))
          clear hv10
          go_wp2_with fail
          refine HSR2.out.mono ?_
          rintro e w11 ⟨rfl, hu11⟩
          have HDU11 := Lib.hid (HDU10.out.same hu11)
          clear hu11 HSR2 HDU10
          go_wp2_with fail
          refine Met.intro (HJ.out _ _ ?_)
          exact ⟨_, n, words, _, _, ⟨HDU11.out, HP.out.ok, by omega, by omega⟩, fpF_eq (by kernel_rfl)⟩
end Go.Proofs.YtopojeanbpokaaaGreatDoor
