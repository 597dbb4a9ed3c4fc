/- FramesPlay: a local is set. -/
import Derived.Test.YtopojeanbpokaaaGreatDoorFwI
/-! FramesPlay: a local is set. -/
namespace Go.Proofs.YtopojeanbpokaaaGreatDoor
open Go.RowKit
set_option maxRecDepth 1000000 in
set_option maxHeartbeats 16000000 in
theorem kind4 {E : Nat → Addr} {p : Prg} {ss : List Lk} {w wA W0 wd : World} {ib pb xb xd : Nat} {lim ask t : Int} {a0 a1 a2 la wp lp : Option Addr} {c0 c1 n2 c2 nl lc i wc lcc : Nat} {n words : Int} {fs : List Fr} {ws : List FrV} {kd da dby xn : Int} {xr : Bool} {dl : List Slt} {f : Nat → Value} {J K' : Act → World → Prop} {Q' : Exit → Act → World → Prop}
    (hC : FpC E p ss w wA W0 ib pb xb lim a0 a1 a2 c0 c1 n2 c2) (hP : PlF p ss wA W0 wd ib lim i n words (.slice wp fs.length wc) fs ws) (hD : FpD wA W0 wd xd kd da dby xr xn lp lcc dl) (_hi : i < nl) (_hn : nl ≤ 60)
    (h19 : f 19 = .pointer (some ⟨xd, 0, none⟩)) (h20 : f 20 = .int .i64 t) (ht : t + 1 = (fs.length : Int)) (h132 : f 132 = .int .i64 kd) (hkd : kd = 4)
    (hJ : ∀ a' w', FpR p ss wA W0 lim la nl lc ask pb xb ib i a' w' → J a' w') (hK : ∀ a' w', Met J a' w' → K' a' w') :
    swC.wp Tryz.prog (Exit.then K' Q') (fpF lim la nl lc ask pb xb ib W0.heap.size (.slice wp fs.length wc) (.int .i64 words) (.int .i64 i) f) wd := by
  subst hkd
  have HC := Lib.hid hC
  have HP := Lib.hid hP
  have HJ := Lib.hid hJ
  have HD := Lib.hid hD
  have hu := hP.duo.upd
  obtain ⟨cp0, cp1, _, _, _⟩ := hC.cells hu
  obtain ⟨b0, b1, b2, b3, b4, b5⟩ := hD.cells (Upd.refl [] wd)
  have hfew := hP.few
  have hcnt := hP.cnt
  clear hu hC hP hD hJ b0 b2 b5
  unfold fpF
  rw [h19, h20, h132]
  conv => arg 2; whnf
  rcases List.eq_nil_or_concat fs with rfl | ⟨gs, g, rfl⟩
  ·
    as_aux_lemma =>
      obtain rfl : t = -1 := by simp at ht; omega
      have HF := Lib.hid HP.out.ok
      go_upto_region 100 with fail
      go_quiet (fail)
      have huq := (Upd.refl [] wd).drewN nq
      have HD1 := Lib.hid (HP.out.duo.same huq)
      have b1 := huq.cell b1 (by simp)
      have b3 := huq.cell b3 (by simp)
      have b4 := huq.cell b4 (by simp)
      have HPO := Lib.hid (duo_setlocal_none da ⟨xr, xn⟩ HD1.out)
      clear huq
      go_wp2_with fail
      refine HPO.out.mono ?_
      rintro e w2 ⟨rfl, hu2⟩
      have HD2 := Lib.hid (HD1.out.same hu2)
      clear hu2 HPO HD1
      go_wp2_with fail
      refine Met.intro (HJ.out _ _ ?_)
      exact ⟨_, n, words, [], _, ⟨HD2.out, HF.out, by simp, by omega⟩, fpF_eq (by kernel_rfl)⟩
  · rw [List.concat_eq_append] at *
    obtain rfl : t = (gs.length : Int) := by simp at ht; omega
    have hgl : (gs ++ [g]).length = gs.length + 1 := by simp
    rw [hgl] at HP hfew ⊢
    obtain ⟨ws2, gv, rfl, hwl⟩ := vs_split2 (n := gs.length) (vs := ws) (by rw [HP.out.duo.wr.len]; simp)
    have hd : decide ((0 : Int) ≤ (gs.length : Int)) = true := decide_eq_true (by omega)
    have h0i : (0 : Int) ≤ (gs.length : Int) := by omega
    have h1i : (gs.length : Int) < (gs.length : Int) + 1 := by omega
    have HF := Lib.hid HP.out.ok
    obtain ⟨q, wc', e1, _, hqb, y0, _, y2, _⟩ := wtop_at HP.out.duo.wr hwl
    injection e1 with e1 e2 e3
    subst e1 e3
    have HDU := Lib.hid HP.out.duo
    have hok := HP.out.duo.ok.ok
    obtain ⟨lqp, lqc, hlv⟩ := (HP.out.duo.wr.locT hwl).shape
    rw [hlv] at y2
    have HLV := Lib.hid hlv
    clear ht e2 HP hlv
    by_cases hda : 0 ≤ da
    · have hd2 : decide ((0 : Int) ≤ da) = true := decide_eq_true hda
      by_cases hdb : da < (g.loc.length : Int)
      ·
        as_aux_lemma =>
        have hd3 : decide (da < (g.loc.length : Int)) = true := decide_eq_true hdb
        obtain ⟨k, rfl⟩ : ∃ k : Nat, da = (k : Int) := ⟨da.toNat, by omega⟩
        have hkl : k < g.loc.length := by omega
        have hg := HF.out.last
        have hgm := hg.m
        have hsz := hok.sizes g.m
        have hks0 := kinds_size (p.ms.getD g.m default)
        have hlc := hg.loc
        have hik : k < (bs (kindsL (p.ms.getD g.m default))).size := by omega
        have hm0i : (0 : Int) ≤ (g.m : Int) := by omega
        have hm1i : (g.m : Int) < (p.ms.length : Int) := by omega
        obtain ⟨bm, mo, ka, kc, rfl, m0, m1, m2, m3⟩ := meth_cells (HC.out.ms.upd HDU.out.upd) hgm
        obtain ⟨lq, rfl⟩ : ∃ lq, lqp = some ⟨lq, 0, none⟩ := by
          obtain ⟨b9, hr9, _⟩ := (HDU.out.wr.locT hwl).read
          rcases hr9.1 with ⟨_, e⟩ | ⟨c9, e⟩
          · rw [e] at hkl; simp at hkl
          · rw [HLV.out] at e
            injection e with e
            exact ⟨b9, e⟩
        have HST := Lib.hid (fun W (hW : Duo wA W0 W W0.heap.size ib p ss lim n words (gs ++ [g]) (.slice (some ⟨q, 0, none⟩) (gs.length + 1) wc) (gs ++ [g]) (ws2 ++ [gv])) h => duo_setlocal k ⟨xr, xn⟩ hW hkl hik h)
        have HSU := Lib.hid (fun W (hW : Duo wA W0 W W0.heap.size ib p ss lim n words (gs ++ [g]) (.slice (some ⟨q, 0, none⟩) (gs.length + 1) wc) (gs ++ [g]) (ws2 ++ [gv])) h => duo_setlocal_unfit k ⟨xr, xn⟩ hW hkl hik h)
        generalize p.ms.getD g.m default = m at m0 m1 m2 m3 hik hsz hlc hks0 HST HSU
        have HKI := Lib.hid (fun W => rkinds_any m (.slice ka m.code.length kc) W (by omega) (by omega))
        obtain ⟨ks, hks⟩ : ∃ ks, bs (kindsL m) = ks := ⟨_, rfl⟩
        have hik2 : k < ks.size := by rw [← hks]; exact hik
        have hiki : (k : Int) < (ks.size : Int) := by omega
        have hk0i : (0 : Int) ≤ (k : Int) := by omega
        obtain ⟨fb, hfb⟩ : ∃ fb, fitsB ⟨xr, xn⟩ ((((bs (kindsL m))[k]'hik).toNat : Int)) = fb := ⟨_, rfl⟩
        have HFI : Hid (∀ W, Calls Tryz.prog 10 #[.agg #[.bool xr, .int .i64 xn], .int .u8 (((ks[k]'hik2).toNat : Int))] W fun e w' => e = .returned (.bool fb) ∧ Upd [] W w') := fun W => by
          have h1 := fits13_any ⟨xr, xn⟩ ((((bs (kindsL m))[k]'hik).toNat : Int)) W
          rw [hfb] at h1
          subst hks
          exact h1
        have HSETT : Hid (fb = true → ∀ W, Duo wA W0 W W0.heap.size ib p ss lim n words (gs ++ [g]) (.slice (some ⟨q, 0, none⟩) (gs.length + 1) wc) (gs ++ [g]) (ws2 ++ [gv]) → Calls Tryz.prog 15 #[.pointer (some ⟨W0.heap.size, 0, none⟩), .int .i64 (k : Int), .agg #[.bool xr, .int .i64 xn]] W fun e w' => e = .returned (.bool true) ∧ Duo wA W0 w' W0.heap.size ib p ss lim n words (gs ++ [{ g with loc := g.loc.set k ⟨xr, xn⟩ }]) (.slice (some ⟨q, 0, none⟩) (gs.length + 1) wc) (gs ++ [g]) (ws2 ++ [gv]) ∧ KeepD W w') := fun e W hW => HST.out W hW (hfb.trans e)
        have HSETF : Hid (fb = false → ∀ W, Duo wA W0 W W0.heap.size ib p ss lim n words (gs ++ [g]) (.slice (some ⟨q, 0, none⟩) (gs.length + 1) wc) (gs ++ [g]) (ws2 ++ [gv]) → Calls Tryz.prog 15 #[.pointer (some ⟨W0.heap.size, 0, none⟩), .int .i64 (k : Int), .agg #[.bool xr, .int .i64 xn]] W fun e w' => e = .returned (.bool false) ∧ Upd [] W w') := fun e W hW => HSU.out W hW (hfb.trans e)
        rw [hks] at HKI
        clear hks hik hfb HST HSU hks0 hsz hlc hg hok hda hdb hd2 hd3
        have hF0 : wd.cell? ⟨xd, 1, none⟩ = some (.int .i64 k) ∧ wd.cell? ⟨xd, 3, none⟩ = some (.bool xr) ∧ wd.cell? ⟨xd, 4, none⟩ = some (.int .i64 xn) ∧ wd.cell? ⟨q, gs.length * 4, none⟩ = some (.int .i64 g.m) ∧ wd.cell? ⟨q, gs.length * 4 + 2, none⟩ = some (.slice (some ⟨lq, 0, none⟩) g.loc.length lqc) ∧ wd.cell? ⟨pb, 1, none⟩ = some (.slice (some ⟨bm, mo, none⟩) p.ms.length c1) ∧ wd.cell? ⟨bm, mo + g.m * 4, none⟩ = some (.string m.params) ∧ wd.cell? ⟨bm, mo + g.m * 4 + 1, none⟩ = some (.string m.locals) ∧ wd.cell? ⟨bm, mo + g.m * 4 + 2, none⟩ = some (.string m.ret) ∧ wd.cell? ⟨bm, mo + g.m * 4 + 3, none⟩ = some (.slice ka m.code.length kc) := ⟨b1, b3, b4, y0, y2, cp1, m0, m1, m2, m3⟩
        have HKE : Hid (∀ W, Upd [] wd W → W.cell? ⟨xd, 1, none⟩ = some (.int .i64 k) ∧ W.cell? ⟨xd, 3, none⟩ = some (.bool xr) ∧ W.cell? ⟨xd, 4, none⟩ = some (.int .i64 xn) ∧ W.cell? ⟨q, gs.length * 4, none⟩ = some (.int .i64 g.m) ∧ W.cell? ⟨q, gs.length * 4 + 2, none⟩ = some (.slice (some ⟨lq, 0, none⟩) g.loc.length lqc) ∧ W.cell? ⟨pb, 1, none⟩ = some (.slice (some ⟨bm, mo, none⟩) p.ms.length c1) ∧ W.cell? ⟨bm, mo + g.m * 4, none⟩ = some (.string m.params) ∧ W.cell? ⟨bm, mo + g.m * 4 + 1, none⟩ = some (.string m.locals) ∧ W.cell? ⟨bm, mo + g.m * 4 + 2, none⟩ = some (.string m.ret) ∧ W.cell? ⟨bm, mo + g.m * 4 + 3, none⟩ = some (.slice ka m.code.length kc)) := fun W hu => ⟨hu.cell hF0.1 (by simp), hu.cell hF0.2.1 (by simp), hu.cell hF0.2.2.1 (by simp), hu.cell hF0.2.2.2.1 (by simp), hu.cell hF0.2.2.2.2.1 (by simp), hu.cell hF0.2.2.2.2.2.1 (by simp), hu.cell hF0.2.2.2.2.2.2.1 (by simp), hu.cell hF0.2.2.2.2.2.2.2.1 (by simp), hu.cell hF0.2.2.2.2.2.2.2.2.1 (by simp), hu.cell hF0.2.2.2.2.2.2.2.2.2 (by simp)⟩
        have HV0 := Lib.hid (Upd.refl [] wd)
        have HVd := Lib.hid (Upd.refl [] wd).drew
        have hd2 : decide ((0 : Int) ≤ (k : Int)) = true := decide_eq_true (by omega)
        have hd3 : decide ((k : Int) < (g.loc.length : Int)) = true := decide_eq_true (by omega)
        have hd4 : decide (k < g.loc.length) = true := decide_eq_true hkl
        clear b1 b3 b4 y0 y2 cp0 cp1 m0 m1 m2 m3
        go_upto_region 100 with fail
        go_region_held3 (fun W => W.cell? ⟨xd, 1, none⟩ = some (.int .i64 k) ∧ W.cell? ⟨xd, 3, none⟩ = some (.bool xr) ∧ W.cell? ⟨xd, 4, none⟩ = some (.int .i64 xn) ∧ W.cell? ⟨q, gs.length * 4, none⟩ = some (.int .i64 g.m) ∧ W.cell? ⟨q, gs.length * 4 + 2, none⟩ = some (.slice (some ⟨lq, 0, none⟩) g.loc.length lqc) ∧ W.cell? ⟨pb, 1, none⟩ = some (.slice (some ⟨bm, mo, none⟩) p.ms.length c1) ∧ W.cell? ⟨bm, mo + g.m * 4, none⟩ = some (.string m.params) ∧ W.cell? ⟨bm, mo + g.m * 4 + 1, none⟩ = some (.string m.locals) ∧ W.cell? ⟨bm, mo + g.m * 4 + 2, none⟩ = some (.string m.ret) ∧ W.cell? ⟨bm, mo + g.m * 4 + 3, none⟩ = some (.slice ka m.code.length kc))
          (first | exact HKE.out _ HVB.out | exact HKE.out _ HVA.out | exact HKE.out _ HVd.out | exact HKE.out _ HV0.out)
          (first
            | (go_at_call 12; refine (HKI.out _).mono ?_; rintro e wA2 ⟨rfl, huA⟩; have HVA := Lib.hid (HVd.out.trans huA); clear huA)
            | (go_at_call 10; refine (HFI.out _).mono ?_; rintro e wB ⟨rfl, huB⟩; have HVB := Lib.hid (HVA.out.trans huB); clear huB))
        have HD1 := Lib.hid (HDU.out.same HVB.out)
        obtain ⟨b1, b3, b4, _, y2, _⟩ := HKE.out _ HVB.out
        have HDB := Lib.hid (HD.out.same HVB.out)
        clear hF0 HKE HV0 HVd HVA HVB HKI HFI HDU
        cases fb with
        | false =>
          have HPO := Lib.hid (HSETF.out rfl _ HD1.out)
          go_wp2_with fail
          refine HPO.out.mono ?_
          rintro e w2 ⟨rfl, hu2⟩
          have HD2 := Lib.hid (HD1.out.same hu2)
          clear hu2 HPO HD1
          go_wp2_with fail
          refine Met.intro (HJ.out _ _ ?_)
          exact ⟨_, n, words, _, _, ⟨HD2.out, HF.out, by simp; omega, by omega⟩, fpF_eq (by kernel_rfl)⟩
        | true =>
          have HPO := Lib.hid (HSETT.out rfl _ HD1.out)
          go_wp2_with fail
          refine HPO.out.mono ?_
          rintro e w2 ⟨rfl, hd2, hk2⟩
          obtain ⟨_, x1, _, x3, x4, _⟩ := (HDB.out.keep hk2).cells (Upd.refl [] _)
          obtain ⟨_, _, y2, _, _⟩ := hd2.wr.top hwl
          rw [HLV.out] at y2
          have hos := hd2.wr.locT hwl
          rw [HLV.out] at hos
          obtain ⟨cur, hcur⟩ := hos.typed (b := lq) rfl
          obtain ⟨q', hread, _⟩ := hos.read
          obtain ⟨z0, z1⟩ : w2.cell? ⟨lq, k * 2, none⟩ = some (.bool (g.loc.getD k default).ref) ∧ w2.cell? ⟨lq, k * 2 + 1, none⟩ = some (.int .i64 (g.loc.getD k default).n) := by
            rcases hread.1 with ⟨e, _⟩ | ⟨c9, e⟩
            · cases e
            · injection e with e
              injection e with e
              injection e with e
              subst e
              exact hread.2 k hkl
          have fz : ∀ j, w2.frozen? ⟨lq, j, none⟩ = false := fun j => froz_of hcur j
          have HD2 := Lib.hid hd2
          have hst : Upd [lq] w2 ((w2.setCell ⟨lq, k * 2, none⟩ (.bool xr)).setCell ⟨lq, k * 2 + 1, none⟩ (.int .i64 xn)) := ((Upd.refl [lq] w2).setCell (.inl (by simp)) _).setCell (.inl (by simp)) _
          have HDF : Hid (Duo wA W0 ((w2.setCell ⟨lq, k * 2, none⟩ (.bool xr)).setCell ⟨lq, k * 2 + 1, none⟩ (.int .i64 xn)) W0.heap.size ib p ss lim n words (gs ++ [{ g with loc := g.loc.set k ⟨xr, xn⟩ }]) (.slice (some ⟨q, 0, none⟩) (gs.length + 1) wc) (gs ++ [{ g with loc := g.loc.set k ⟨xr, xn⟩ }]) (ws2 ++ [gv])) := hd2.law hst (hd2.wr.putL k ⟨xr, xn⟩ hkl HLV.out) (fun t ht => by
            rw [List.mem_singleton] at ht
            subst ht
            exact .inr (.inl ⟨gs.length, by simp, by rw [← hwl]; exact snoc_has2 (.inl (by rw [HLV.out]; rfl))⟩)) (fun j hj b hb => .inr ⟨j, by simpa using hj, hb⟩)
          have fz0 := fz (k * 2)
          have fz1 := fz (k * 2 + 1)
          have hdr := (Upd.refl [] w2).drew
          have dx1 := hdr.cell x1 (by simp)
          have dx3 := hdr.cell x3 (by simp)
          have dx4 := hdr.cell x4 (by simp)
          have dy2 := hdr.cell y2 (by simp)
          have dz0 := hdr.cell z0 (by simp)
          have dz1 := hdr.cell z1 (by simp)
          have hklI : (k : Int) < (g.loc.length : Int) := by omega
          clear hd2 hk2 HPO HD1 hos hread HDB b1 b3 b4 fz hcur hst HD2 hdr
          go_upto_region 104 with fail
          go_region
          all_goals
            go_wp2_with fail
            refine Met.intro (HJ.out _ _ ?_)
            exact ⟨_, n, words, _, _, ⟨HDF.out.same ((Upd.refl [] _).drew), HF.out.init.snoc (HF.out.last.same rfl (by simp) HF.out.last.stk), by simp; omega, by omega⟩, fpF_eq (by kernel_rfl)⟩
      ·
        as_aux_lemma =>
        have hd3 : decide (da < (g.loc.length : Int)) = false := decide_eq_false hdb
        go_upto_region 100 with fail
        go_quiet (fail)
        have huq := (Upd.refl [] wd).drewN nq
        have HD1 := Lib.hid (HDU.out.same huq)
        have b1 := huq.cell b1 (by simp)
        have b3 := huq.cell b3 (by simp)
        have b4 := huq.cell b4 (by simp)
        have HPO := Lib.hid (duo_setlocal_out da ⟨xr, xn⟩ HD1.out (fun h => hdb h.2))
        clear huq
        go_wp2_with fail
        refine HPO.out.mono ?_
        rintro e w2 ⟨rfl, hu2⟩
        have HD2 := Lib.hid (HD1.out.same hu2)
        clear hu2 HPO HD1
        go_wp2_with fail
        refine Met.intro (HJ.out _ _ ?_)
        exact ⟨_, n, words, _, _, ⟨HD2.out, HF.out, by simp; omega, by omega⟩, fpF_eq (by kernel_rfl)⟩
    ·
      as_aux_lemma =>
      have hd2 : decide ((0 : Int) ≤ da) = false := decide_eq_false hda
      go_upto_region 100 with fail
      go_quiet (fail)
      have huq := (Upd.refl [] wd).drewN nq
      have HD1 := Lib.hid (HDU.out.same huq)
      have b1 := huq.cell b1 (by simp)
      have b3 := huq.cell b3 (by simp)
      have b4 := huq.cell b4 (by simp)
      have HPO := Lib.hid (duo_setlocal_out da ⟨xr, xn⟩ HD1.out (fun h => hda h.1))
      clear huq
      go_wp2_with fail
      refine HPO.out.mono ?_
      rintro e w2 ⟨rfl, hu2⟩
      have HD2 := Lib.hid (HD1.out.same hu2)
      clear hu2 HPO HD1
      go_wp2_with fail
      refine Met.intro (HJ.out _ _ ?_)
      exact ⟨_, n, words, _, _, ⟨HD2.out, HF.out, by simp; omega, by omega⟩, fpF_eq (by kernel_rfl)⟩
end Go.Proofs.YtopojeanbpokaaaGreatDoor
