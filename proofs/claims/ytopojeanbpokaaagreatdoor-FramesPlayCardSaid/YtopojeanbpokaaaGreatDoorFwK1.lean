/- FramesPlay: a frame is pushed. FramesPlay: the references. -/
import Derived.Test.YtopojeanbpokaaaGreatDoorFwI
import Derived.Test.YtopojeanbpokaaaGreatDoorFrO
/-! FramesPlay: a frame is pushed. -/
/-! FramesPlay: a frame is pushed. -/
namespace Go.Proofs.YtopojeanbpokaaaGreatDoor
open Go.RowKit
set_option maxRecDepth 1000000 in
set_option maxHeartbeats 16000000 in
theorem kind1 {E : Nat → Addr} {p : Prg} {ss : List Lk} {w wA W0 wd : World} {ib pb xb xd : Nat} {lim ask t : Int} {a0 a1 a2 la wp lp : Option Addr} {c0 c1 n2 c2 nl lc i wc lcc : Nat} {n words : Int} {fs : List Fr} {ws : List FrV} {kd da dby xn : Int} {xr : Bool} {dl : List Slt} {f : Nat → Value} {J K' : Act → World → Prop} {Q' : Exit → Act → World → Prop}
    (hC : FpC E p ss w wA W0 ib pb xb lim a0 a1 a2 c0 c1 n2 c2) (hP : PlF p ss wA W0 wd ib lim i n words (.slice wp fs.length wc) fs ws) (hD : FpD wA W0 wd xd kd da dby xr xn lp lcc dl) (_hi : i < nl) (_hn : nl ≤ 60)
    (h19 : f 19 = .pointer (some ⟨xd, 0, none⟩)) (h20 : f 20 = .int .i64 t) (ht : t + 1 = (fs.length : Int)) (h132 : f 132 = .int .i64 kd) (hkd : kd = 1)
    (hJ : ∀ a' w', FpR p ss wA W0 lim la nl lc ask pb xb ib i a' w' → J a' w') (hK : ∀ a' w', Met J a' w' → K' a' w') :
    swC.wp Tryz.prog (Exit.then K' Q') (fpF lim la nl lc ask pb xb ib W0.heap.size (.slice wp fs.length wc) (.int .i64 words) (.int .i64 i) f) wd := by
  subst hkd
  have HC := Lib.hid hC
  have HP := Lib.hid hP
  have HJ := Lib.hid hJ
  have HD := Lib.hid hD
  have hfew := hP.few
  have hcnt := hP.cnt
  have hok := hP.duo.ok.ok
  have hlo := hD.lo
  have hd20 := hD.len
  obtain ⟨i0, hi0, hz0, hz1, hz2⟩ := info_parts Tryz.infoSlot
  have HI := Lib.hid hi0
  have HZ0 := Lib.hid hz0
  have HZ1 := Lib.hid hz1
  have HZ2 := Lib.hid hz2
  clear hi0 hz0 hz1 hz2
  obtain ⟨mk, hmks, hmk⟩ := make_slots 20 20 rfl (by omega)
  have hd0 := (Upd.refl [] wd).drew
  have hdm := hd0.alloc (.cells mk 44)
  have HS1 := Lib.hid (SlO.src (hD.so.upd (hP.duo.upd.trans hdm) (by simp)))
  have HR0 : Hid ((wd.drew.alloc (.cells mk 44)).ownsRow wd.heap.size 44 2 (.slice (some ⟨wd.heap.size, 0, none⟩) 0 20) 0 []) := made_slots wd.drew mk 20 hmks (by omega)
  have hk0 := (hD.cells (Upd.refl [] wd)).2.2.2.2.2
  have hkd := hd0.cell hk0 (by simp)
  have hk1 := hdm.cell hk0 (by simp)
  have hSA := (hC.sent.upd hC.up).upd hP.duo.upd
  have HSA := Lib.hid hSA
  have hsbd : W0.heap.size < wd.heap.size := by
    obtain ⟨_, _, _, _, h1, _⟩ := hP.duo
    exact lt_of_heap h1.st.box
  have HMKS := Lib.hid hmks
  clear hC hP hD hJ hd0 hdm hmks hSA
  unfold fpF
  rw [h19, h20, h132]
  conv => arg 2; whnf
  go_upto_region 56 with fail
  refine wp_region_noPanic ?_
  refine wp_region_held_drew (S := fun W => W.cell? ⟨xd, 5, none⟩ = some (.slice lp dl.length lcc)) (by kernel_rfl) ?_ (fun hHeld => ?_)
  · first | exact hk2 | exact hk1 | exact hkd | exact hk0
  refine wpAnyH_take (i := 1) (oi := ?_) (v := ?_) ?_ (by kernel_rfl) (by kernel_rfl) (by kernel_rfl) (fun _ _ _ h => h) (Or.inl ⟨?_, ?_⟩) hHeld ?_
  rotate_left 2
  · simp only [List.getElem?_toArray, List.getElem?_cons_zero, List.getElem?_cons_succ]; rfl
  · rfl
  · intro _ hSw; (try dsimp only at hSw); go_simp <;> with_reducible rfl
  (try simp only [Act.put, List.setIfInBounds_toArray, List.set_cons_zero, List.set_cons_succ])
  refine wpAnyH_take (i := 2) (oi := ?_) (v := ?_) ?_ (by kernel_rfl) (by kernel_rfl) (by kernel_rfl) (fun _ _ _ h => h) (Or.inl ⟨?_, ?_⟩) hHeld ?_
  rotate_left 2
  · simp only [List.getElem?_toArray, List.getElem?_cons_zero, List.getElem?_cons_succ]; rfl
  · rfl
  · intro _ hSw; (try dsimp only at hSw); go_simp <;> with_reducible rfl
  (try simp only [Act.put, List.setIfInBounds_toArray, List.set_cons_zero, List.set_cons_succ])
  refine wpAnyH_ready (rs := [0]) (by kernel_rfl) (by simp) ?_
  refine AllReadyH.cons (o := ?_) ?_ (fun K hK => ?_) AllReadyH.nil
  rotate_left 1
  · simp only [List.getElem?_toArray, List.getElem?_cons_zero]; rfl
  clear hHeld
  go_simp
  refine hK.out _ _ ?_ (fun hHeld => ?_)
  · first | exact hk2 | exact hk1 | exact hkd | exact hk0
  clear hK K
  (try simp only [Act.put, List.setIfInBounds_toArray, List.set_cons_zero, List.set_cons_succ])
  refine wpAnyH_ready (rs := [3]) (by kernel_rfl) (by simp) ?_
  refine AllReadyH.cons (o := ?_) ?_ (fun K hK => ?_) AllReadyH.nil
  rotate_left 1
  · simp only [List.getElem?_toArray, List.getElem?_cons_zero, List.getElem?_cons_succ]; rfl
  clear hHeld
  (refine step_append_src rfl (.tmp 255) (.tmp 257) 45 rfl wd.heap.size 44 i0 (.agg #[.bool false, .int .i64 0]) 2 16 Tryz.underlying45 HI.out HZ0.out HZ1.out HZ2.out rfl (by decide) (.slice (some ⟨wd.heap.size, 0, none⟩) 0 20) 0 [] rfl HR0.out (.slice lp dl.length lcc) dl.length (slcells dl) rfl HS1.out (slcells_len _) (slcells_one _) (by unfold maxLen; omega) (by omega) (by simp) ?_; intro v1 w5 hown1 hgr1 hat1; have HU5 := Lib.hid (((Upd.refl [] wd).drew.alloc (.cells mk 44)).grown hgr1 (fun q hq => Or.inr (by injection hq with hq; exact Nat.le_of_eq hq))); have hk2 := HU5.out.cell hk0 (by simp); have HW5 := Lib.hid hown1; have HSZ := Lib.hid (hgr1.size); clear hgr1 hown1 hat1)
  refine hK.out _ _ ?_ (fun hHeld => ?_)
  · first | exact hk2 | exact hk1 | exact hkd | exact hk0
  clear hK K
  (try simp only [Act.put, List.setIfInBounds_toArray, List.set_cons_zero, List.set_cons_succ])
  refine wpAnyH_take (i := 4) (oi := ?_) (v := ?_) ?_ (by kernel_rfl) (by kernel_rfl) (by kernel_rfl) (fun _ _ _ h => h) (Or.inl ⟨?_, ?_⟩) hHeld ?_
  rotate_left 2
  · simp only [List.getElem?_toArray, List.getElem?_cons_zero, List.getElem?_cons_succ]; rfl
  · rfl
  · intro _ hSw; (try dsimp only at hSw); go_simp <;> with_reducible rfl
  (try simp only [Act.put, List.setIfInBounds_toArray, List.set_cons_zero, List.set_cons_succ])
  refine wpAnyH_done (by kernel_rfl) ?_ _
  refine NoPanic.normal ?_
  have hown : OwnSl w5 wd.heap.size v1 dl := by
    have h1 := HW5.out
    rw [Nat.zero_add, List.nil_append] at h1
    exact h1
  have hmb : ∃ mb, (∀ b, v1.ownBlock = some b → b = mb) ∧ wd.heap.size ≤ mb ∧ mb < w5.heap.size := by
    have hs5 : wd.heap.size < w5.heap.size := by
      have h2 := HSZ.out
      simp at h2
      omega
    cases h : v1.ownBlock with
    | none => exact ⟨wd.heap.size, fun b hb => by (cases hb), Nat.le_refl _, hs5⟩
    | some b =>
      have h2 := World.ownsRow.lt hown b h
      exact ⟨b, fun b' hb => by injection hb with hb; exact hb.symm, h2.1, h2.2⟩
  obtain ⟨mb, hmb1, hmb2, hmb3⟩ := hmb
  obtain ⟨p1, c1', rfl⟩ := hown.shape
  have HT5 := Lib.hid ((HP.out.duo.trio hmb2).same HU5.out)
  have HD5 := Lib.hid (HD.out.same HU5.out)
  have HPU := Lib.hid (push_res (da := da) HT5.out (HSA.out.upd HU5.out) hown hmb1 hmb3 (by omega) hd20 hcnt.1 (by omega))
  have HMB := Lib.hid hmb1
  have HMB2 : Hid (W0.heap.size < mb) := by
    refine Hid.mk ?_
    omega
  have b1 := (HD5.out.cells (Upd.refl [] _)).2.1
  clear hk0 hkd hk1 hk2 HW5 hown hmb1 hmb2 hmb3 HSZ HR0 HS1 HT5
  go_wp2_with fail
  refine HPU.out.mono ?_
  rintro e w6 ⟨gv, n', words', fs', rfl, ho6, hk6, ht6, hres⟩
  have HRES := Lib.hid hres.split
  have HT6 := Lib.hid ht6
  have HO6 := Lib.hid ho6
  have HD6 := Lib.hid (HD5.out.keep hk6)
  clear hres ht6 ho6 hk6 HPU HD5 b1 HU5
  go_wp2_with fail
  go_loopw [23] (fun jv wr => ∃ (j : Nat) (zs : List Slt), j ≤ dl.length ∧ jv = .int .i64 j ∧ Hid (zs.length = dl.length) ∧ Hid (OwnSl wr wd.heap.size (.slice p1 dl.length c1') zs) ∧ Hid (Trio wA W0 wr W0.heap.size ib p ss lim n' words' fs' (.slice wp fs.length wc) fs ws mb) ∧ Hid (FpD wA W0 wr xd 1 da dby xr xn lp lcc dl)) (fun jv _ => dl.length - (intOf jv).toNat)
  case atStart => exact ⟨0, dl, by omega, rfl, rfl, HO6.out, HT6.out, HD6.out⟩
  case round =>
    clear HO6 HT6 HD6
    obtain ⟨j, zs, hj, rfl, HZL, HO, HT, HDD⟩ := hrel
    obtain ⟨wo, rfl⟩ : ∃ wo : World, wo = wr := ⟨_, rfl⟩
    by_cases hjl : j < dl.length
    ·
      as_aux_lemma =>
      obtain ⟨q, hread, _⟩ := HO.out.read
      have hzl : j < zs.length := by rw [HZL.out]; exact hjl
      obtain rfl : p1 = some ⟨q, 0, none⟩ := by
        rcases hread.1 with ⟨_, h2⟩ | ⟨c9, h1⟩
        · rw [h2] at hzl; simp at hzl
        · injection h1
      obtain ⟨_, h2⟩ := hread.2 j hzl
      obtain ⟨cur, hcur⟩ := HO.out.typed (b := q) rfl
      have hqm : q = mb := HMB.out q rfl
      subst hqm
      have fz := froz_of hcur (j * 2 + 1)
      have ho := HO.out
      rw [← HZL.out] at ho
      have ho2 := ho.setN j 77 hzl
      rw [HZL.out] at ho2
      have HO2 := Lib.hid ho2
      have hsu : Upd [q] wo (wo.setCell ⟨q, j * 2 + 1, none⟩ (.int .i64 77)) := (Upd.refl [q] wo).setCell (.inl (by simp)) _
      have HT2 := Lib.hid (HT.out.other hcur HMB2.out hsu)
      have HD2 := Lib.hid (HDD.out.keep (fun b cur2 hb => hsu.heap hb (by
        rw [List.mem_singleton]
        exact heap_ne hb hcur (by decide))))
      have HZ2 : Hid ((zs.set j ⟨(zs.getD j default).ref, 77⟩).length = dl.length) := by
        show _ = _
        rw [List.length_set]
        exact HZL.out
      have h0j : (0 : Int) ≤ (j : Int) := by omega
      have h1j : (j : Int) < (dl.length : Int) := by omega
      clear hread hcur ho ho2 hsu HO HT HDD HZL
      go_wp2_with fail
      go_roundw
      case rel => exact ⟨j + 1, _, by omega, by go_num, HZ2.out, HO2.out, HT2.out, HD2.out⟩
      case measure => simp [intOf]; omega
    ·
      have huo := HT.out.duo.upd
      obtain ⟨cp0, cp1, cx0, cx1, cx2⟩ := HC.out.cells huo
      obtain ⟨b0, b1, b2, b3, b4, b5⟩ := HDD.out.cells (Upd.refl [] _)
      have HSA2 := Lib.hid ((HC.out.sent.upd HC.out.up).upd huo)
      have HOKF := Lib.hid HP.out.ok
      rcases HRES.out with ⟨hni, rfl, rfl, rfl, rfl⟩ | ⟨k, rfl, hkl, hcase⟩
      ·
        have HIS := Lib.hid (is_at E 2 (by omega) 103 wo HSA2.out)
        by_cases hd0 : da < 0
        · as_aux_lemma =>
          have hd1 : decide (da < 0) = true := decide_eq_true hd0
          go_wp2_with fail
          refine HIS.out.mono ?_
          rintro e w9 ⟨rfl, hu9⟩
          have HT9 := Lib.hid (HT.out.same hu9)
          clear hu9 HIS HT HDD
          go_wp2_with fail
          refine Met.intro (HJ.out _ _ ?_)
          exact ⟨_, _, _, _, _, ⟨HT9.out.duo, HOKF.out, by omega, by omega⟩, fpF_eq (by kernel_rfl)⟩
        · as_aux_lemma =>
          have hd1 : decide (da < 0) = false := decide_eq_false hd0
          have hd2 : decide ((p.ms.length : Int) ≤ da) = true := decide_eq_true (by omega)
          go_wp2_with fail
          refine HIS.out.mono ?_
          rintro e w9 ⟨rfl, hu9⟩
          have HT9 := Lib.hid (HT.out.same hu9)
          clear hu9 HIS HT HDD
          go_wp2_with fail
          refine Met.intro (HJ.out _ _ ?_)
          exact ⟨_, _, _, _, _, ⟨HT9.out.duo, HOKF.out, by omega, by omega⟩, fpF_eq (by kernel_rfl)⟩
      ·
        have hd1 : decide ((k : Int) < 0) = false := decide_eq_false (by omega)
        have hd2 : decide ((p.ms.length : Int) ≤ (k : Int)) = false := decide_eq_false (by omega)
        have hd3 : decide (p.ms.length ≤ k) = false := decide_eq_false (by omega)
        have h0k : (0 : Int) ≤ (k : Int) := by omega
        have h1k : (k : Int) < (p.ms.length : Int) := by omega
        obtain ⟨bm, mo, ka, kc, rfl, m0, m1, m2, m3⟩ := meth_cells (HC.out.ms.upd huo) hkl
        have hsz := hok.sizes k
        obtain ⟨m, hm⟩ : ∃ m, p.ms.getD k default = m := ⟨_, rfl⟩
        rw [hm] at m0 m1 m2 m3 hsz hcase
        have HM := Lib.hid hm
        have HCASE := Lib.hid hcase
        have huM := (Upd.refl [] wo).alloc (.cells #[.string m.params, .string m.locals, .string m.ret, .slice ka m.code.length kc] 51)
        have HBM := Lib.hid (heap_alloc_new wo (.cells #[.string m.params, .string m.locals, .string m.ret, .slice ka m.code.length kc] 51))
        have HTM := Lib.hid (HT.out.same huM)
        have HDM := Lib.hid (HDD.out.same huM)
        have HOM := Lib.hid (huo.trans huM)
        clear hm hcase huM huo HT HDD HSA2
        have hF0 := (fit_iff p k dl)
        go_upto_region 66 with fail
        generalize wo.alloc (.cells #[.string m.params, .string m.locals, .string m.ret, .slice ka m.code.length kc] 51) = wm at HBM HTM HDM HOM ⊢
        generalize wo.heap.size = xm at HBM ⊢
        obtain ⟨b0, b1, b2, b3, b4, b5⟩ := HDM.out.cells (Upd.refl [] _)
        have v0 : wm.cell? ⟨xm, 0, none⟩ = some (.string m.params) := by rw [cell_of HBM.out]; rfl
        clear m0 m1 m2 m3 cp0 cp1 cx0 cx1 cx2 hF0 b0 b2 b3 b4
        go_upto_block 13 with fail
        refine wp_cut (fun a wr => Upd [] wm wr ∧ ∃ f, a = fpF lim la nl lc ask pb xb ib W0.heap.size (.slice wp fs.length wc) (.int .i64 words) (.int .i64 i) f ∧ (f 19 = .pointer (some ⟨xd, 0, none⟩) ∧ f 20 = .int .i64 t ∧ f 22 = gv ∧ f 24 = .pointer (some ⟨xm, 0, none⟩) ∧ f 25 = .bool (shB dl m.params dl.length))) ?_ ?_
        rotate_left 1
        ·
          as_aux_lemma =>
          intro J2 K2 hJ2 hK2
          have HJ2 := Lib.hid hJ2
          clear hJ2
          have hs0 : ((dl.length : Int) == (m.params.size : Int)) = shB dl m.params 0 := by
            unfold shB
            simp
            rw [Bool.eq_iff_iff]
            simp
            omega
          have hS0 := Lib.hid hs0
          clear hs0
          go_wp2_with fail
          go_loopw [25, 26] (fun sv jv wr => ∃ j : Nat, j ≤ dl.length ∧ jv = .int .i64 j ∧ sv = .bool (shB dl m.params j) ∧ Hid (Upd [] wm wr)) (fun _ jv _ => dl.length - (intOf jv).toNat)
          case atStart => exact ⟨0, by omega, rfl, by rw [← hS0.out], Upd.refl _ _⟩
          case round =>
            obtain ⟨j, hj, rfl, rfl, HU⟩ := hrel
            obtain ⟨wq, rfl⟩ : ∃ wq : World, wq = wr := ⟨_, rfl⟩
            have b1 := HU.out.cell b1 (by simp)
            have b5 := HU.out.cell b5 (by simp)
            have v0 := HU.out.cell v0 (by simp)
            by_cases hjl : j < dl.length
            · have hj1 : decide ((j : Int) < (dl.length : Int)) = true := decide_eq_true (by omega)
              have hj2 : decide (j < dl.length) = true := decide_eq_true hjl
              obtain ⟨sj, hsj⟩ : ∃ sj, shB dl m.params j = sj := ⟨_, rfl⟩
              have HSJ := Lib.hid hsj
              rw [hsj]
              clear hsj
              cases sj with
              | true =>
                as_aux_lemma =>
                have hjp : j < m.params.size := by have := shB_len HSJ.out; omega
                obtain ⟨lp2, lc2, he, hx⟩ := HDM.out.so
                injection he with e1 e2 e3
                subst e1 e3
                obtain ⟨lb, lo, rfl, z0, z1⟩ := hx j hjl
                rw [← Nat.add_assoc] at z1
                have z0 := (HOM.out.trans HU.out).cell z0 (by simp)
                have z1 := (HOM.out.trans HU.out).cell z1 (by simp)
                have hst := shB_step dl m.params j
                rw [HSJ.out, Bool.true_and] at hst
                have hbt : bytAt m.params j = ((m.params[j]'hjp).toNat : Int) := by unfold bytAt; rw [dif_pos hjp]
                rw [hbt] at hst
                obtain ⟨⟨r, yn⟩, hy⟩ : ∃ y, dl.getD j default = y := ⟨_, rfl⟩
                rw [hy] at z0 z1 hst
                have HST := Lib.hid hst
                have HFI := Lib.hid (fun W => fits13_any ⟨r, yn⟩ ((m.params[j]'hjp).toNat : Int) W)
                obtain ⟨fr, hfr⟩ : ∃ fr, fitsB ⟨r, yn⟩ ((m.params[j]'hjp).toNat : Int) = fr := ⟨_, rfl⟩
                rw [hfr] at HFI HST
                have h0j : (0 : Int) ≤ (j : Int) := by omega
                have h1j : (j : Int) < (dl.length : Int) := by omega
                have h2j : (j : Int) < (m.params.size : Int) := by omega
                have hdr := (Upd.refl [] wq).drew
                have hF0 : wq.cell? ⟨xd, 5, none⟩ = some (.slice (some ⟨lb, lo, none⟩) dl.length lcc) ∧ wq.cell? ⟨lb, lo + j * 2, none⟩ = some (.bool r) ∧ wq.cell? ⟨lb, lo + j * 2 + 1, none⟩ = some (.int .i64 yn) ∧ wq.cell? ⟨xm, 0, none⟩ = some (.string m.params) := ⟨b5, z0, z1, v0⟩
                have hF1 : wq.drew.cell? ⟨xd, 5, none⟩ = some (.slice (some ⟨lb, lo, none⟩) dl.length lcc) ∧ wq.drew.cell? ⟨lb, lo + j * 2, none⟩ = some (.bool r) ∧ wq.drew.cell? ⟨lb, lo + j * 2 + 1, none⟩ = some (.int .i64 yn) ∧ wq.drew.cell? ⟨xm, 0, none⟩ = some (.string m.params) := hF0
                have HUd := Lib.hid (HU.out.trans hdr)
                clear hst hbt hy hfr hx e2 hdr z0 z1 v0 b5 b1 HU
                go_upto_region 70 with fail
                go_region_held3 (fun W => W.cell? ⟨xd, 5, none⟩ = some (.slice (some ⟨lb, lo, none⟩) dl.length lcc) ∧ W.cell? ⟨lb, lo + j * 2, none⟩ = some (.bool r) ∧ W.cell? ⟨lb, lo + j * 2 + 1, none⟩ = some (.int .i64 yn) ∧ W.cell? ⟨xm, 0, none⟩ = some (.string m.params))
                  (first | exact hk0 | exact hF1 | exact hF0)
                  ((go_at_call 10; refine (HFI.out _).mono ?_; rintro e w9 ⟨rfl, hu9⟩; have hk0 := (⟨hu9.cell hF1.1 (by simp), hu9.cell hF1.2.1 (by simp), hu9.cell hF1.2.2.1 (by simp), hu9.cell hF1.2.2.2 (by simp)⟩ : _ ∧ _ ∧ _ ∧ _); have HU9 := Lib.hid hu9))
                have HUE := Lib.hid (HUd.out.trans HU9.out)
                clear hk0 hF0 hF1 HFI HU9 HUd
                go_wp2_with fail
                go_roundw
                case rel => exact ⟨j + 1, by omega, by go_num, by rw [HST.out], HUE.out⟩
                case measure => simp [intOf]; omega
              | false =>
                go_wp2_with fail
                refine Met.intro (HJ2.out _ _ ?_)
                refine ⟨HU.out, fpF_eqP (fun f => f 19 = .pointer (some ⟨xd, 0, none⟩) ∧ f 20 = .int .i64 t ∧ f 22 = gv ∧ f 24 = .pointer (some ⟨xm, 0, none⟩) ∧ f 25 = .bool (shB dl m.params dl.length)) (by kernel_rfl) ⟨by kernel_rfl, by kernel_rfl, by kernel_rfl, by kernel_rfl, ?_⟩⟩
                rw [shB_mono dl m.params (by omega) HSJ.out]
                kernel_rfl
            · have hj1 : decide ((j : Int) < (dl.length : Int)) = false := decide_eq_false (by omega)
              have hj2 : decide (j < dl.length) = false := decide_eq_false hjl
              have hjd : j = dl.length := by omega
              subst hjd
              go_wp2_with fail
              refine Met.intro (HJ2.out _ _ ?_)
              refine ⟨HU.out, fpF_eqP (fun f => f 19 = .pointer (some ⟨xd, 0, none⟩) ∧ f 20 = .int .i64 t ∧ f 22 = gv ∧ f 24 = .pointer (some ⟨xm, 0, none⟩) ∧ f 25 = .bool (shB dl m.params dl.length)) (by kernel_rfl) ⟨by kernel_rfl, by kernel_rfl, by kernel_rfl, by kernel_rfl, by kernel_rfl⟩⟩
        ·
          rintro a wr ⟨hu, f2, rfl, g19, g20, g22, g24, g25⟩
          obtain ⟨cp0, cp1, cx0, cx1, cx2⟩ := HC.out.cells (HOM.out.trans hu)
          have b1 := hu.cell b1 (by simp)
          have b5 := hu.cell b5 (by simp)
          have v0 := hu.cell v0 (by simp)
          have HTR := Lib.hid (HTM.out.same hu)
          have HDR := Lib.hid (HDM.out.same hu)
          have HOR := Lib.hid (HOM.out.trans hu)
          have HBR := Lib.hid (hu.heap HBM.out (by simp))
          have HSR := Lib.hid ((HC.out.sent.upd HC.out.up).upd HOR.out)
          clear hu HTM HDM HOM HBM
          unfold fpF
          rw [g19, g20, g22, g24, g25]
          rcases HCASE.out with ⟨hsf, rfl, rfl, rfl, rfl⟩ | ⟨hsf, hwd, rfl, rfl, rfl, rfl⟩ | ⟨hsf, hwd, rfl, rfl, rfl, rfl⟩
          ·
            as_aux_lemma =>
            have HIS := Lib.hid (is_at E 4 (by omega) 105 wr HSR.out)
            rw [hsf]
            clear hsf
            go_wp2_with fail
            refine HIS.out.mono ?_
            rintro e w9 ⟨rfl, hu9⟩
            have HT9 := Lib.hid (HTR.out.same hu9)
            clear hu9 HIS HTR HDR
            go_wp2_with fail
            refine Met.intro (HJ.out _ _ ?_)
            exact ⟨_, _, _, _, _, ⟨HT9.out.duo, HOKF.out, by omega, by omega⟩, fpF_eq (by kernel_rfl)⟩
          ·
            as_aux_lemma =>
            have hlm := HTR.out.duo.ok.lim
            have hmo := HTR.out.duo.ok.most hkl
            have hfw : frW p ss k = 4 + ((m.params.size + m.locals.size : Nat) : Int) + (ss.getD k default).most := by
              unfold frW
              rw [HM.out]
            have hWb : 0 ≤ frW p ss k ∧ frW p ss k ≤ 100 := by omega
            have HWD : Hid (Calls Tryz.prog 11 #[.agg #[.slice a0 p.cs.length c0, .slice (some ⟨bm, mo, none⟩) p.ms.length c1, .slice a2 n2 c2], .int .i64 k] wr fun e w' => e = .returned (.int .i64 (frW p ss k)) ∧ Upd [] wr w') := rwords_any p ss a0 _ p.cs.length c0 c1 (.slice a2 n2 c2) k wr (HC.out.lk.upd HOR.out) (HC.out.ms.upd HOR.out) HC.out.sl hkl (by rw [HM.out]; omega) (by rw [HM.out]; omega) (by omega)
            generalize frW p ss k = Wd at HWD hwd hWb
            have hwr : IntKind.i64.wrap (lim - Wd) = lim - Wd := IntWalk.i64_in _ (by omega)
            have hgt : decide (lim - Wd < words') = true := decide_eq_true (by omega)
            rw [hsf]
            clear hsf hfw hwd
            go_wp2_with fail
            refine HWD.out.mono ?_
            rintro e w8 ⟨rfl, hu8⟩
            have HIS := Lib.hid (is_at E 13 (by omega) 114 w8 (HSR.out.upd hu8))
            have HT8 := Lib.hid (HTR.out.same hu8)
            clear hu8 HWD HTR HDR
            go_wp2_with fail
            refine HIS.out.mono ?_
            rintro e w9 ⟨rfl, hu9⟩
            have HT9 := Lib.hid (HT8.out.same hu9)
            clear hu9 HIS HT8
            go_wp2_with fail
            refine Met.intro (HJ.out _ _ ?_)
            exact ⟨_, _, _, _, _, ⟨HT9.out.duo, HOKF.out, by omega, by omega⟩, fpF_eq (by kernel_rfl)⟩
          ·
            have hlm := HTR.out.duo.ok.lim
            have hwd0 := HP.out.duo.ok.wd
            have hmo := HTR.out.duo.ok.most hkl
            have hfw : frW p ss k = 4 + ((m.params.size + m.locals.size : Nat) : Int) + (ss.getD k default).most := by
              unfold frW
              rw [HM.out]
            have hWb : 0 ≤ frW p ss k ∧ frW p ss k ≤ 100 := by omega
            have HWD : Hid (∀ W, Upd [] wr W → Calls Tryz.prog 11 #[.agg #[.slice a0 p.cs.length c0, .slice (some ⟨bm, mo, none⟩) p.ms.length c1, .slice a2 n2 c2], .int .i64 k] W fun e w' => e = .returned (.int .i64 (frW p ss k)) ∧ Upd [] W w') := fun W hW => rwords_any p ss a0 _ p.cs.length c0 c1 (.slice a2 n2 c2) k W (HC.out.lk.upd (HOR.out.trans hW)) (HC.out.ms.upd (HOR.out.trans hW)) HC.out.sl hkl (by rw [HM.out]; omega) (by rw [HM.out]; omega) (by omega)
            obtain ⟨Wd, hWd⟩ : ∃ Wd, frW p ss k = Wd := ⟨_, rfl⟩
            have HWE := Lib.hid hWd
            have HSF := Lib.hid hsf
            rw [hWd] at HWD hwd hWb
            have hwr : IntKind.i64.wrap (lim - Wd) = lim - Wd := IntWalk.i64_in _ (by omega)
            have hwr2 : IntKind.i64.wrap (words + Wd) = words + Wd := IntWalk.i64_in _ (by omega)
            have hgt : decide (lim - Wd < words) = false := decide_eq_false (by omega)
            have HWD1 := Lib.hid (HWD.out wr (Upd.refl [] wr))
            rw [hsf]
            clear hsf hfw hwd hWd
            go_wp2_with fail
            refine HWD1.out.mono ?_
            rintro e w8 ⟨rfl, hu8⟩
            have HWD2 := Lib.hid (HWD.out w8 hu8)
            have HU8 := Lib.hid hu8
            have b1 := hu8.cell b1 (by simp)
            have b5 := hu8.cell b5 (by simp)
            have cx0 := hu8.cell cx0 (by simp)
            have cx1 := hu8.cell cx1 (by simp)
            have cx2 := hu8.cell cx2 (by simp)
            clear hu8 HWD1 HWD cp0 cp1 v0
            go_wp2_with fail
            refine HWD2.out.mono ?_
            rintro e w9 ⟨rfl, hu9⟩
            have HU9 := Lib.hid (HU8.out.trans hu9)
            have hb9 := HU9.out.heap HBR.out (by simp)
            have v0 : w9.cell? ⟨xm, 0, none⟩ = some (.string m.params) := by rw [cell_of hb9]; rfl
            have v1 : w9.cell? ⟨xm, 1, none⟩ = some (.string m.locals) := by rw [cell_of hb9]; rfl
            have v2 : w9.cell? ⟨xm, 2, none⟩ = some (.string m.ret) := by rw [cell_of hb9]; rfl
            have v3 : w9.cell? ⟨xm, 3, none⟩ = some (.slice ka m.code.length kc) := by rw [cell_of hb9]; rfl
            have HKI := Lib.hid (rkinds_any m (.slice ka m.code.length kc) w9 (by omega) (by omega))
            clear hu9 hb9 HU8 HWD2 b1 b5 cx0 cx1 cx2 HBR
            go_wp2_with fail
            refine HKI.out.mono ?_
            rintro e w10 ⟨rfl, hu10⟩
            have HU10 := Lib.hid (HU9.out.trans hu10)
            obtain ⟨b0, b1, b2, b3, b4, b5⟩ := HDR.out.cells HU10.out
            have HTT := Lib.hid (HTR.out.same HU10.out)
            clear hu10 HKI HU9 v0 v1 v2 v3 HTR b0 b2 b3 b4
            have hlen10 : w10.heap.size ≤ w10.heap.size := Nat.le_refl _
            have hso10 := HD.out.so.upd (HOR.out.trans HU10.out) (by simp)
            have HKE : Hid (∀ W, Upd [] w10 W → W.cell? ⟨xd, 1, none⟩ = some (.int .i64 k) ∧ W.cell? ⟨xd, 5, none⟩ = some (.slice lp dl.length lcc)) := fun W hW => ⟨hW.cell b1 (by simp), hW.cell b5 (by simp)⟩
            have HSO10 := Lib.hid hso10
            have HDT := Lib.hid (HDR.out.same HU10.out)
            clear hlen10 hso10 b1 b5 HU10
            have hrest : Hid True := trivial
            go_upto_region 81 with fail
            refine wp_cut (fun a W => ∃ yb v8, Upd [] w10 W ∧ W.heap[yb]? = some (.cells #[.int .i64 k, .int .i64 0, v8, .slice none 0 0] 56) ∧ OwnSl W w10.heap.size v8 dl ∧ w10.heap.size ≤ yb ∧ ∃ f, a = fpF lim la nl lc ask pb xb ib W0.heap.size (.slice wp fs.length wc) (.int .i64 (words + Wd)) (.int .i64 i) f ∧ (f 19 = .pointer (some ⟨xd, 0, none⟩) ∧ f 27 = .string (bs (kindsL m)) ∧ f 28 = .pointer (some ⟨yb, 0, none⟩))) ?_ ?_
            rotate_left 1
            ·
              as_aux_lemma =>
              intro J2 K2 hJ2 hK2
              have HJ2 := Lib.hid hJ2
              clear hJ2
              have HRA : Hid ((w10.drew.alloc (.cells mk 44)).ownsRow w10.heap.size 44 2 (.slice (some ⟨w10.heap.size, 0, none⟩) 0 20) 0 []) := made_slots w10.drew mk 20 HMKS.out (by omega)
              have HRB : Hid (((w10.drew.alloc (.cells mk 44)).alloc (.cells #[.int .i64 0, .int .i64 0, .slice none 0 0, .slice none 0 0] 56)).ownsRow w10.heap.size 44 2 (.slice (some ⟨w10.heap.size, 0, none⟩) 0 20) 0 []) := World.ownsRow.alloc HRA.out _
              have HRC : Hid (((w10.drew.alloc (.cells #[.int .i64 0, .int .i64 0, .slice none 0 0, .slice none 0 0] 56)).alloc (.cells mk 44)).ownsRow w10.heap.size 44 2 (.slice (some ⟨w10.heap.size + 1, 0, none⟩) 0 20) 0 []) := by
                refine Hid.mk ?_
                have h := made_slots (w10.drew.alloc (.cells #[.int .i64 0, .int .i64 0, .slice none 0 0, .slice none 0 0] 56)) mk 20 HMKS.out (by omega)
                have e : (w10.drew.alloc (.cells #[.int .i64 0, .int .i64 0, .slice none 0 0, .slice none 0 0] 56)).heap.size = w10.heap.size + 1 := by simp
                rw [e] at h
                exact row_base h (by omega)
              have HSA1 := Lib.hid (SlO.src (HSO10.out.upd ((Upd.refl [] w10).drew.alloc (.cells mk 44)) (by simp)))
              have HSB1 := Lib.hid (SlO.src (HSO10.out.upd (((Upd.refl [] w10).drew.alloc (.cells mk 44)).alloc (.cells #[.int .i64 0, .int .i64 0, .slice none 0 0, .slice none 0 0] 56)) (by simp)))
              have HSC1 := Lib.hid (SlO.src (HSO10.out.upd (((Upd.refl [] w10).drew.alloc (.cells #[.int .i64 0, .int .i64 0, .slice none 0 0, .slice none 0 0] 56)).alloc (.cells mk 44)) (by simp)))
              have HZ1B : Hid (((w10.drew.alloc (.cells mk 44)).alloc (.cells #[.int .i64 0, .int .i64 0, .slice none 0 0, .slice none 0 0] 56)).heap[w10.heap.size + 1]? = some (.cells #[.int .i64 0, .int .i64 0, .slice none 0 0, .slice none 0 0] 56)) := by
                refine Hid.mk ?_
                have h := heap_alloc_new (w10.drew.alloc (.cells mk 44)) (.cells #[.int .i64 0, .int .i64 0, .slice none 0 0, .slice none 0 0] 56)
                have e : (w10.drew.alloc (.cells mk 44)).heap.size = w10.heap.size + 1 := by simp
                rw [e] at h
                exact h
              have HZ1C : Hid (((w10.drew.alloc (.cells #[.int .i64 0, .int .i64 0, .slice none 0 0, .slice none 0 0] 56)).alloc (.cells mk 44)).heap[w10.heap.size]? = some (.cells #[.int .i64 0, .int .i64 0, .slice none 0 0, .slice none 0 0] 56)) := ((Upd.refl [] (w10.drew.alloc (.cells #[.int .i64 0, .int .i64 0, .slice none 0 0, .slice none 0 0] 56))).alloc (.cells mk 44)).heap (heap_alloc_new w10.drew (.cells #[.int .i64 0, .int .i64 0, .slice none 0 0, .slice none 0 0] 56)) (by simp)
              have hK0 := HKE.out _ (Upd.refl [] w10)
              have hKd := HKE.out _ (Upd.refl [] w10).drew
              have hKA := HKE.out _ ((Upd.refl [] w10).drew.alloc (.cells mk 44))
              have hKB := HKE.out _ (((Upd.refl [] w10).drew.alloc (.cells mk 44)).alloc (.cells #[.int .i64 0, .int .i64 0, .slice none 0 0, .slice none 0 0] 56))
              have hKZ := HKE.out _ ((Upd.refl [] w10).drew.alloc (.cells #[.int .i64 0, .int .i64 0, .slice none 0 0, .slice none 0 0] 56))
              have hKC := HKE.out _ (((Upd.refl [] w10).drew.alloc (.cells #[.int .i64 0, .int .i64 0, .slice none 0 0, .slice none 0 0] 56)).alloc (.cells mk 44))
              refine wp_region_noPanic ?_
              refine wp_region_held_drew (S := fun W => W.cell? ⟨xd, 1, none⟩ = some (.int .i64 k) ∧ W.cell? ⟨xd, 5, none⟩ = some (.slice lp dl.length lcc)) (by kernel_rfl) ?_ (fun hHeld => ?_)
              · first | exact hKd | exact hK0
              refine wpAnyH_take (i := 0) (oi := ?_) (v := ?_) ?_ (by kernel_rfl) (by kernel_rfl) (by kernel_rfl) (fun _ _ _ h => h) (Or.inl ⟨?_, ?_⟩) hHeld ?_
              rotate_left 2
              · simp only [List.getElem?_toArray, List.getElem?_cons_zero]; rfl
              · rfl
              · intro _ hSw; (try dsimp only at hSw); go_simp <;> with_reducible rfl
              (try simp only [Act.put, List.setIfInBounds_toArray, List.set_cons_zero, List.set_cons_succ])
              refine wpAnyH_take (i := 1) (oi := ?_) (v := ?_) ?_ (by kernel_rfl) (by kernel_rfl) (by kernel_rfl) (fun _ _ _ h => h) (Or.inl ⟨?_, ?_⟩) hHeld ?_
              rotate_left 2
              · simp only [List.getElem?_toArray, List.getElem?_cons_zero, List.getElem?_cons_succ]; rfl
              · rfl
              · intro _ hSw; (try dsimp only at hSw); go_simp <;> with_reducible rfl
              (try simp only [Act.put, List.setIfInBounds_toArray, List.set_cons_zero, List.set_cons_succ])
              refine wpAnyH_take (i := 3) (oi := ?_) (v := ?_) ?_ (by kernel_rfl) (by kernel_rfl) (by kernel_rfl) (fun _ _ _ h => h) (Or.inl ⟨?_, ?_⟩) hHeld ?_
              rotate_left 2
              · simp only [List.getElem?_toArray, List.getElem?_cons_zero, List.getElem?_cons_succ]; rfl
              · rfl
              · intro _ hSw; (try dsimp only at hSw); go_simp <;> with_reducible rfl
              (try simp only [Act.put, List.setIfInBounds_toArray, List.set_cons_zero, List.set_cons_succ])
              refine wpAnyH_take (i := 4) (oi := ?_) (v := ?_) ?_ (by kernel_rfl) (by kernel_rfl) (by kernel_rfl) (fun _ _ _ h => h) (Or.inl ⟨?_, ?_⟩) hHeld ?_
              rotate_left 2
              · simp only [List.getElem?_toArray, List.getElem?_cons_zero, List.getElem?_cons_succ]; rfl
              · rfl
              · intro _ hSw; (try dsimp only at hSw); go_simp <;> with_reducible rfl
              (try simp only [Act.put, List.setIfInBounds_toArray, List.set_cons_zero, List.set_cons_succ])
              refine wpAnyH_ready (rs := [2, 7]) (by kernel_rfl) (by simp) ?_
              refine (AllReadyH.cons (o := ?o2y) ?ho2y (fun K hK => ?w2y) (AllReadyH.cons (o := ?o7y) ?ho7y (fun K hK => ?w7y) AllReadyH.nil))
              case ho2y => (simp only [List.getElem?_toArray, List.getElem?_cons_zero, List.getElem?_cons_succ]; rfl)
              case ho7y => (simp only [List.getElem?_toArray, List.getElem?_cons_zero, List.getElem?_cons_succ]; rfl)
              case' w2y =>
                clear hHeld
                go_simp
                refine hK.out _ _ ?_ (fun hHeld => ?_)
                · exact hKA
                clear hK K
                (try simp only [Act.put, List.setIfInBounds_toArray, List.set_cons_zero, List.set_cons_succ])
                refine wpAnyH_ready (rs := [5, 7]) (by kernel_rfl) (by simp) ?_
                refine (AllReadyH.cons (o := ?o5by) ?ho5by (fun K hK => ?w5by) (AllReadyH.cons (o := ?o7by) ?ho7by (fun K hK => ?w7by) AllReadyH.nil))
                case ho5by => (simp only [List.getElem?_toArray, List.getElem?_cons_zero, List.getElem?_cons_succ]; rfl)
                case ho7by => (simp only [List.getElem?_toArray, List.getElem?_cons_zero, List.getElem?_cons_succ]; rfl)
                case' w5by =>
                  clear hHeld
                  (refine step_append_src rfl (.tmp 349) (.tmp 351) 45 rfl w10.heap.size 44 i0 (.agg #[.bool false, .int .i64 0]) 2 16 Tryz.underlying45 HI.out HZ0.out HZ1.out HZ2.out rfl (by decide) (.slice (some ⟨w10.heap.size, 0, none⟩) 0 20) 0 [] rfl HRA.out (.slice lp dl.length lcc) dl.length (slcells dl) rfl HSA1.out (slcells_len _) (slcells_one _) (by unfold maxLen; omega) (by omega) (by simp <;> omega) ?_; intro v8 w6 hown1 hgr1 hat1; have HV6 := Lib.hid (((Upd.refl [] w10).drew.alloc (.cells mk 44)).grown hgr1 (fun q hq => Or.inr (by injection hq with hq; first | exact Nat.le_of_eq hq | exact Nat.le_of_lt (Nat.lt_of_lt_of_eq (Nat.lt_succ_self _) hq)))); have how : OwnSl w6 w10.heap.size v8 dl := (by have h1 := hown1; rw [Nat.zero_add, List.nil_append] at h1; exact h1); obtain ⟨p8, c8, rfl⟩ := how.shape; have HO6 := Lib.hid how; have HYB : Hid (w10.heap.size ≤ w6.heap.size) := HV6.out.size; have hK6 := HKE.out _ HV6.out; have hK6a := HKE.out _ (HV6.out.alloc (.cells #[.int .i64 0, .int .i64 0, .slice none 0 0, .slice none 0 0] 56)); have hK6f := HKE.out _ (HV6.out.alloc (.cells #[.int .i64 k, .int .i64 0, .slice p8 dl.length c8, .slice none 0 0] 56)); clear hgr1 hown1 hat1 how)
                  refine hK.out _ _ ?_ (fun hHeld => ?_)
                  · exact hK6
                  clear hK K
                  (try simp only [Act.put, List.setIfInBounds_toArray, List.set_cons_zero, List.set_cons_succ])
                  refine wpAnyH_take (i := 6) (oi := ?_) (v := ?_) ?_ (by kernel_rfl) (by kernel_rfl) (by kernel_rfl) (fun _ _ _ h => h) (Or.inl ⟨?_, ?_⟩) hHeld ?_
                  rotate_left 2
                  · simp only [List.getElem?_toArray, List.getElem?_cons_zero, List.getElem?_cons_succ]; rfl
                  · rfl
                  · intro _ hSw; (try dsimp only at hSw); go_simp <;> with_reducible rfl
                  (try simp only [Act.put, List.setIfInBounds_toArray, List.set_cons_zero, List.set_cons_succ])
                  refine wpAnyH_ready (rs := [7]) (by kernel_rfl) (by simp) ?_
                  refine AllReadyH.cons (o := ?_) ?_ (fun K hK => ?_) AllReadyH.nil
                  rotate_left 1
                  · simp only [List.getElem?_toArray, List.getElem?_cons_zero, List.getElem?_cons_succ]; rfl
                  clear hHeld
                  go_simp
                  refine hK.out _ _ ?_ (fun hHeld => ?_)
                  · exact hK6a
                  clear hK K
                  (try simp only [Act.put, List.setIfInBounds_toArray, List.set_cons_zero, List.set_cons_succ])
                  refine wpAnyH_ready (rs := [8]) (by kernel_rfl) (by simp) ?_
                  refine AllReadyH.cons (o := ?_) ?_ (fun K hK => ?_) AllReadyH.nil
                  rotate_left 1
                  · simp only [List.getElem?_toArray, List.getElem?_cons_zero, List.getElem?_cons_succ]; rfl
                  clear hHeld
                  go_simp
                  refine hK.out _ _ ?_ (fun hHeld => ?_)
                  · exact hK6f
                  clear hK K
                  (try simp only [Act.put, List.setIfInBounds_toArray, List.set_cons_zero, List.set_cons_succ])
                  refine wpAnyH_done (by kernel_rfl) ?_ _
                  refine NoPanic.normal ?_
                  have ho := HO6.out
                  go_wp2_with fail
                  refine Met.intro (HJ2.out _ _ ?_)
                  exact ⟨_, _, HV6.out.alloc (.cells #[.int .i64 k, .int .i64 0, .slice p8 dl.length c8, .slice none 0 0] 56), heap_alloc_new w6 (.cells #[.int .i64 k, .int .i64 0, .slice p8 dl.length c8, .slice none 0 0] 56), World.ownsRow.alloc ho _, HYB.out, fpF_eqP (fun f => f 19 = .pointer (some ⟨xd, 0, none⟩) ∧ f 27 = .string (bs (kindsL m)) ∧ f 28 = .pointer (some ⟨w6.heap.size, 0, none⟩)) (by kernel_rfl) ⟨by kernel_rfl, by kernel_rfl, by kernel_rfl⟩⟩
                case' w7by =>
                  clear hHeld
                  go_simp
                  refine hK.out _ _ ?_ (fun hHeld => ?_)
                  · exact hKB
                  clear hK K
                  (try simp only [Act.put, List.setIfInBounds_toArray, List.set_cons_zero, List.set_cons_succ])
                  refine wpAnyH_ready (rs := [5]) (by kernel_rfl) (by simp) ?_
                  refine AllReadyH.cons (o := ?_) ?_ (fun K hK => ?_) AllReadyH.nil
                  rotate_left 1
                  · simp only [List.getElem?_toArray, List.getElem?_cons_zero, List.getElem?_cons_succ]; rfl
                  clear hHeld
                  (refine step_append_src rfl (.tmp 349) (.tmp 351) 45 rfl w10.heap.size 44 i0 (.agg #[.bool false, .int .i64 0]) 2 16 Tryz.underlying45 HI.out HZ0.out HZ1.out HZ2.out rfl (by decide) (.slice (some ⟨w10.heap.size, 0, none⟩) 0 20) 0 [] rfl HRB.out (.slice lp dl.length lcc) dl.length (slcells dl) rfl HSB1.out (slcells_len _) (slcells_one _) (by unfold maxLen; omega) (by omega) (by simp <;> omega) ?_; intro v8 w6 hown1 hgr1 hat1; have HV6 := Lib.hid ((((Upd.refl [] w10).drew.alloc (.cells mk 44)).alloc (.cells #[.int .i64 0, .int .i64 0, .slice none 0 0, .slice none 0 0] 56)).grown hgr1 (fun q hq => Or.inr (by injection hq with hq; first | exact Nat.le_of_eq hq | exact Nat.le_of_lt (Nat.lt_of_lt_of_eq (Nat.lt_succ_self _) hq)))); have how : OwnSl w6 w10.heap.size v8 dl := (by have h1 := hown1; rw [Nat.zero_add, List.nil_append] at h1; exact h1); obtain ⟨p8, c8, rfl⟩ := how.shape; have HO6 := Lib.hid how; have hzb : (w6).heap[w10.heap.size + 1]? = some (.cells #[.int .i64 0, .int .i64 0, .slice none 0 0, .slice none 0 0] 56) := (hgr1.block _ (by simp <;> omega) (by simp [Value.ownBlock] <;> omega)).trans HZ1B.out; have z0 := cell_of hzb 0; have z1 := cell_of hzb 1; have z2 := cell_of hzb 2; have z3 := cell_of hzb 3; have f0 := froz_of hzb 0; have f1 := froz_of hzb 1; have f2z := froz_of hzb 2; have f3 := froz_of hzb 3; simp at z0 z1 z2 z3; have HZB := Lib.hid hzb; clear hzb; have hK6 := HKE.out _ HV6.out; have hfin := fun (a b c d : Value) => HKE.out _ ((((HV6.out.setCell (p := ⟨(w10.heap.size + 1), 0, none⟩) (.inr (Nat.le_succ _)) a).setCell (p := ⟨(w10.heap.size + 1), 1, none⟩) (.inr (Nat.le_succ _)) b).setCell (p := ⟨(w10.heap.size + 1), 2, none⟩) (.inr (Nat.le_succ _)) c).setCell (p := ⟨(w10.heap.size + 1), 3, none⟩) (.inr (Nat.le_succ _)) d); clear hgr1 hown1 hat1 how)
                  refine hK.out _ _ ?_ (fun hHeld => ?_)
                  · exact hK6
                  clear hK K
                  (try simp only [Act.put, List.setIfInBounds_toArray, List.set_cons_zero, List.set_cons_succ])
                  refine wpAnyH_take (i := 6) (oi := ?_) (v := ?_) ?_ (by kernel_rfl) (by kernel_rfl) (by kernel_rfl) (fun _ _ _ h => h) (Or.inl ⟨?_, ?_⟩) hHeld ?_
                  rotate_left 2
                  · simp only [List.getElem?_toArray, List.getElem?_cons_zero, List.getElem?_cons_succ]; rfl
                  · rfl
                  · intro _ hSw; (try dsimp only at hSw); go_simp <;> with_reducible rfl
                  (try simp only [Act.put, List.setIfInBounds_toArray, List.set_cons_zero, List.set_cons_succ])
                  refine wpAnyH_ready (rs := [8]) (by kernel_rfl) (by simp) ?_
                  refine AllReadyH.cons (o := ?_) ?_ (fun K hK => ?_) AllReadyH.nil
                  rotate_left 1
                  · simp only [List.getElem?_toArray, List.getElem?_cons_zero, List.getElem?_cons_succ]; rfl
                  clear hHeld
                  go_simp
                  refine hK.out _ _ ?_ (fun hHeld => ?_)
                  · exact hfin _ _ _ _
                  clear hK K
                  (try simp only [Act.put, List.setIfInBounds_toArray, List.set_cons_zero, List.set_cons_succ])
                  refine wpAnyH_done (by kernel_rfl) ?_ _
                  refine NoPanic.normal ?_
                  have ho := HO6.out
                  obtain ⟨y1, y2, y3⟩ := y_done (w10 := w10) (W := w6) (yb := (w10.heap.size + 1)) (v8 := .slice p8 dl.length c8) (dl := dl) (k : Int) HV6.out (by omega) HZB.out ho
                  go_wp2_with fail
                  refine Met.intro (HJ2.out _ _ ?_)
                  exact ⟨_, _, y1, y2, y3, (by omega), fpF_eqP (fun f => f 19 = .pointer (some ⟨xd, 0, none⟩) ∧ f 27 = .string (bs (kindsL m)) ∧ f 28 = .pointer (some ⟨(w10.heap.size + 1), 0, none⟩)) (by kernel_rfl) ⟨by kernel_rfl, by kernel_rfl, by kernel_rfl⟩⟩

              case' w7y =>
                clear hHeld
                go_simp
                refine hK.out _ _ ?_ (fun hHeld => ?_)
                · exact hKZ
                clear hK K
                (try simp only [Act.put, List.setIfInBounds_toArray, List.set_cons_zero, List.set_cons_succ])
                refine wpAnyH_ready (rs := [2]) (by kernel_rfl) (by simp) ?_
                refine AllReadyH.cons (o := ?_) ?_ (fun K hK => ?_) AllReadyH.nil
                rotate_left 1
                · simp only [List.getElem?_toArray, List.getElem?_cons_zero, List.getElem?_cons_succ]; rfl
                clear hHeld
                go_simp
                refine hK.out _ _ ?_ (fun hHeld => ?_)
                · exact hKC
                clear hK K
                (try simp only [Act.put, List.setIfInBounds_toArray, List.set_cons_zero, List.set_cons_succ])
                refine wpAnyH_ready (rs := [5]) (by kernel_rfl) (by simp) ?_
                refine AllReadyH.cons (o := ?_) ?_ (fun K hK => ?_) AllReadyH.nil
                rotate_left 1
                · simp only [List.getElem?_toArray, List.getElem?_cons_zero, List.getElem?_cons_succ]; rfl
                clear hHeld
                (refine step_append_src rfl (.tmp 349) (.tmp 351) 45 rfl w10.heap.size 44 i0 (.agg #[.bool false, .int .i64 0]) 2 16 Tryz.underlying45 HI.out HZ0.out HZ1.out HZ2.out rfl (by decide) (.slice (some ⟨w10.heap.size + 1, 0, none⟩) 0 20) 0 [] rfl HRC.out (.slice lp dl.length lcc) dl.length (slcells dl) rfl HSC1.out (slcells_len _) (slcells_one _) (by unfold maxLen; omega) (by omega) (by simp <;> omega) ?_; intro v8 w6 hown1 hgr1 hat1; have HV6 := Lib.hid ((((Upd.refl [] w10).drew.alloc (.cells #[.int .i64 0, .int .i64 0, .slice none 0 0, .slice none 0 0] 56)).alloc (.cells mk 44)).grown hgr1 (fun q hq => Or.inr (by injection hq with hq; first | exact Nat.le_of_eq hq | exact Nat.le_of_lt (Nat.lt_of_lt_of_eq (Nat.lt_succ_self _) hq)))); have how : OwnSl w6 w10.heap.size v8 dl := (by have h1 := hown1; rw [Nat.zero_add, List.nil_append] at h1; exact h1); obtain ⟨p8, c8, rfl⟩ := how.shape; have HO6 := Lib.hid how; have hzb : (w6).heap[w10.heap.size]? = some (.cells #[.int .i64 0, .int .i64 0, .slice none 0 0, .slice none 0 0] 56) := (hgr1.block _ (by simp <;> omega) (by simp [Value.ownBlock] <;> omega)).trans HZ1C.out; have z0 := cell_of hzb 0; have z1 := cell_of hzb 1; have z2 := cell_of hzb 2; have z3 := cell_of hzb 3; have f0 := froz_of hzb 0; have f1 := froz_of hzb 1; have f2z := froz_of hzb 2; have f3 := froz_of hzb 3; simp at z0 z1 z2 z3; have HZB := Lib.hid hzb; clear hzb; have hK6 := HKE.out _ HV6.out; have hfin := fun (a b c d : Value) => HKE.out _ ((((HV6.out.setCell (p := ⟨w10.heap.size, 0, none⟩) (.inr (Nat.le_refl _)) a).setCell (p := ⟨w10.heap.size, 1, none⟩) (.inr (Nat.le_refl _)) b).setCell (p := ⟨w10.heap.size, 2, none⟩) (.inr (Nat.le_refl _)) c).setCell (p := ⟨w10.heap.size, 3, none⟩) (.inr (Nat.le_refl _)) d); clear hgr1 hown1 hat1 how)
                refine hK.out _ _ ?_ (fun hHeld => ?_)
                · exact hK6
                clear hK K
                (try simp only [Act.put, List.setIfInBounds_toArray, List.set_cons_zero, List.set_cons_succ])
                refine wpAnyH_take (i := 6) (oi := ?_) (v := ?_) ?_ (by kernel_rfl) (by kernel_rfl) (by kernel_rfl) (fun _ _ _ h => h) (Or.inl ⟨?_, ?_⟩) hHeld ?_
                rotate_left 2
                · simp only [List.getElem?_toArray, List.getElem?_cons_zero, List.getElem?_cons_succ]; rfl
                · rfl
                · intro _ hSw; (try dsimp only at hSw); go_simp <;> with_reducible rfl
                (try simp only [Act.put, List.setIfInBounds_toArray, List.set_cons_zero, List.set_cons_succ])
                refine wpAnyH_ready (rs := [8]) (by kernel_rfl) (by simp) ?_
                refine AllReadyH.cons (o := ?_) ?_ (fun K hK => ?_) AllReadyH.nil
                rotate_left 1
                · simp only [List.getElem?_toArray, List.getElem?_cons_zero, List.getElem?_cons_succ]; rfl
                clear hHeld
                go_simp
                refine hK.out _ _ ?_ (fun hHeld => ?_)
                · exact hfin _ _ _ _
                clear hK K
                (try simp only [Act.put, List.setIfInBounds_toArray, List.set_cons_zero, List.set_cons_succ])
                refine wpAnyH_done (by kernel_rfl) ?_ _
                refine NoPanic.normal ?_
                have ho := HO6.out
                obtain ⟨y1, y2, y3⟩ := y_done (w10 := w10) (W := w6) (yb := w10.heap.size) (v8 := .slice p8 dl.length c8) (dl := dl) (k : Int) HV6.out (by omega) HZB.out ho
                go_wp2_with fail
                refine Met.intro (HJ2.out _ _ ?_)
                exact ⟨_, _, y1, y2, y3, (by omega), fpF_eqP (fun f => f 19 = .pointer (some ⟨xd, 0, none⟩) ∧ f 27 = .string (bs (kindsL m)) ∧ f 28 = .pointer (some ⟨w10.heap.size, 0, none⟩)) (by kernel_rfl) ⟨by kernel_rfl, by kernel_rfl, by kernel_rfl⟩⟩
            ·
              rintro a wy ⟨yb, v8, huy, hyb, hv8, hyl, f3, rfl, q19, q27, q28⟩
              have hok2 := hok
              obtain ⟨c0', c1', c2', c3', c4', b5⟩ := HDT.out.cells huy
              clear c0' c1' c2' c3' c4'
              have HUY := Lib.hid huy
              have HYB := Lib.hid hyb
              have HV8 := Lib.hid hv8
              have hlp : dl.length = m.params.size := shB_len HSF.out
              have hks : (bs (kindsL m)).size = m.params.size + m.locals.size := kinds_size m
              obtain ⟨p8, c8, rfl⟩ := hv8.shape
              clear huy hyb hv8
              unfold fpF
              rw [q19, q27, q28]
              obtain ⟨ks, hke⟩ : ∃ ks, bs (kindsL m) = ks := ⟨_, rfl⟩
              have HKE2 : Hid (∀ t (ht : t < m.locals.size) (h : dl.length + t < ks.size), ks[dl.length + t]'h = m.locals[t]'ht) := by
                refine Hid.mk ?_
                subst hke
                intro t ht h
                exact kind_byte m t _ ht (by omega) h
              rw [hke] at hks ⊢
              have HLP := Lib.hid hlp
              have HKS := Lib.hid hks
              have hdk : dl.length ≤ ks.size := by omega
              clear hke hlp hks
              go_wp2_with fail
              go_loopw [29] (fun jv wr => ∃ (t : Nat) (v : Value), t ≤ m.locals.size ∧ jv = .int .i64 ((dl.length + t : Nat) : Int) ∧ Hid (wr.heap[yb]? = some (.cells #[.int .i64 k, .int .i64 0, v, .slice none 0 0] 56)) ∧ Hid (OwnSl wr w10.heap.size v (dl ++ (zeroL m.locals).take t)) ∧ Hid (Upd [] w10 wr)) (fun jv _ => ks.size - (intOf jv).toNat)
              case atStart => exact ⟨0, _, by omega, by simp, HYB.out, by refine Hid.mk ?_; simpa using HV8.out, HUY.out⟩
              case round =>
                clear HYB HV8 HUY
                obtain ⟨t2, v, ht2, rfl, HYW, HOW, HUW⟩ := hrel
                obtain ⟨wq, rfl⟩ : ∃ wq : World, wq = wr := ⟨_, rfl⟩
                by_cases htl : t2 < m.locals.size
                ·
                  as_aux_lemma =>
                  have hlp := HLP.out
                  have hks := HKS.out
                  obtain ⟨LN, hLN⟩ : ∃ LN, dl.length + t2 = LN := ⟨_, rfl⟩
                  have hLk : LN < ks.size := by omega
                  obtain ⟨xs, hxs⟩ : ∃ xs, dl ++ (zeroL m.locals).take t2 = xs := ⟨_, rfl⟩
                  have hxl : xs.length = LN := by
                    rw [← hxs, List.length_append, List.length_take, zeroL_len, ← hLN]
                    omega
                  have hby := HKE2.out t2 htl (by omega)
                  have hzt := zeroL_take m.locals t2 htl
                  obtain ⟨bb, hbb⟩ : ∃ bb, (((m.locals[t2]'htl).toNat : Int) == 82) = bb := ⟨_, rfl⟩
                  have hkb : (((ks[LN]'hLk).toNat : Int) == 82) = bb := by
                    subst hLN
                    rw [hby]
                    exact hbb
                  rw [hbb] at hzt
                  have HZT : Hid (dl ++ (zeroL m.locals).take (t2 + 1) = xs ++ [⟨bb, 0⟩]) := by
                    refine Hid.mk ?_
                    rw [hzt, ← List.append_assoc, hxs]
                  have how := HOW.out
                  rw [hxs] at how
                  obtain ⟨sp, sc, rfl⟩ := how.shape
                  rw [hxl] at HYW
                  have how2 : wq.ownsRow w10.heap.size 44 2 (.slice sp LN sc) LN (slcells xs) := by
                    have h := how
                    unfold OwnSl at h
                    rw [hxl] at h
                    exact h
                  have hdr := (Upd.refl [] wq).drew
                  have hal := hdr.alloc (.cells #[.bool bb, .int .i64 0] 44)
                  have HROW : Hid ((wq.drew.alloc (.cells #[.bool bb, .int .i64 0] 44)).ownsRow w10.heap.size 44 2 (.slice sp LN sc) LN (slcells xs)) := row_upd how2 hal (by simp)
                  have HYBd := Lib.hid (hdr.heap HYW.out (by simp))
                  have HNY : Hid (yb ∉ (Value.slice sp LN sc).ownBlock.toList) := fun hm => own_heap_ne how2 HYW.out (by decide) (Option.mem_toList.1 hm)
                  have y2 : wq.cell? ⟨yb, 2, none⟩ = some (.slice sp LN sc) := by rw [cell_of HYW.out]; rfl
                  have y2d := hdr.cell y2 (by simp)
                  have y2a := hal.cell y2 (by simp)
                  have y2b := ((Upd.refl [] wq).alloc (.cells #[.bool bb, .int .i64 0] 44)).cell y2 (by simp)
                  have hLI : (LN : Int) < (ks.size : Int) := by omega
                  have hL0 : (0 : Int) ≤ (LN : Int) := by omega
                  have hL1 : ((dl.length + t2 : Nat) : Int) = (LN : Int) := by omega
                  have HLN := Lib.hid hLN
                  have HXL := Lib.hid hxl
                  have hLb : LN ≤ 1000 := by omega
                  have hsz10 := HUW.out.size
                  have hjk1 : decide ((LN : Int) < (ks.size : Int)) = true := decide_eq_true hLI
                  rw [hL1]
                  clear hlp hks hxs hby hzt hbb how how2 hdr hal hLN hxl hL1 HOW
                  go_upto_region 85 with fail
                  refine wp_region_noPanic ?_
                  refine wp_region_held_drew (S := fun _ => True) (by kernel_rfl) ?_ (fun hHeld => ?_)
                  · trivial
                  refine wpAnyH_take (i := 0) (oi := ?_) (v := ?_) ?_ (by kernel_rfl) (by kernel_rfl) (by kernel_rfl) (fun _ _ _ h => h) (Or.inl ⟨?_, ?_⟩) hHeld ?_
                  rotate_left 2
                  · simp only [List.getElem?_toArray, List.getElem?_cons_zero]; rfl
                  · rfl
                  · intro _ hSw; (try dsimp only at hSw); go_simp <;> with_reducible rfl
                  (try simp only [Act.put, List.setIfInBounds_toArray, List.set_cons_zero, List.set_cons_succ])
                  refine wpAnyH_take (i := 2) (oi := ?_) (v := ?_) ?_ (by kernel_rfl) (by kernel_rfl) (by kernel_rfl) (fun _ _ _ h => h) (Or.inl ⟨?_, ?_⟩) hHeld ?_
                  rotate_left 2
                  · simp only [List.getElem?_toArray, List.getElem?_cons_zero, List.getElem?_cons_succ]; rfl
                  · rfl
                  · intro _ hSw; (try dsimp only at hSw); go_simp <;> with_reducible rfl
                  (try simp only [Act.put, List.setIfInBounds_toArray, List.set_cons_zero, List.set_cons_succ])
                  refine wpAnyH_take (i := 3) (oi := ?_) (v := ?_) ?_ (by kernel_rfl) (by kernel_rfl) (by kernel_rfl) (fun _ _ _ h => h) (Or.inl ⟨?_, ?_⟩) hHeld ?_
                  rotate_left 2
                  · simp only [List.getElem?_toArray, List.getElem?_cons_zero, List.getElem?_cons_succ]; rfl
                  · rfl
                  · intro _ hSw; (try dsimp only at hSw); go_simp <;> with_reducible rfl
                  (try simp only [Act.put, List.setIfInBounds_toArray, List.set_cons_zero, List.set_cons_succ])
                  refine wpAnyH_take (i := 4) (oi := ?_) (v := ?_) ?_ (by kernel_rfl) (by kernel_rfl) (by kernel_rfl) (fun _ _ _ h => h) (Or.inl ⟨?_, ?_⟩) hHeld ?_
                  rotate_left 2
                  · simp only [List.getElem?_toArray, List.getElem?_cons_zero, List.getElem?_cons_succ]; rfl
                  · rfl
                  · intro _ hSw; (try dsimp only at hSw); go_simp <;> with_reducible rfl
                  (try simp only [Act.put, List.setIfInBounds_toArray, List.set_cons_zero, List.set_cons_succ])
                  refine wpAnyH_take (i := 5) (oi := ?_) (v := ?_) ?_ (by kernel_rfl) (by kernel_rfl) (by kernel_rfl) (fun _ _ _ h => h) (Or.inl ⟨?_, ?_⟩) hHeld ?_
                  rotate_left 2
                  · simp only [List.getElem?_toArray, List.getElem?_cons_zero, List.getElem?_cons_succ]; rfl
                  · rfl
                  · intro _ hSw; (try dsimp only at hSw); go_simp <;> with_reducible rfl
                  (try simp only [Act.put, List.setIfInBounds_toArray, List.set_cons_zero, List.set_cons_succ])
                  refine wpAnyH_take (i := 6) (oi := ?_) (v := ?_) ?_ (by kernel_rfl) (by kernel_rfl) (by kernel_rfl) (fun _ _ _ h => h) (Or.inl ⟨?_, ?_⟩) hHeld ?_
                  rotate_left 2
                  · simp only [List.getElem?_toArray, List.getElem?_cons_zero, List.getElem?_cons_succ]; rfl
                  · rfl
                  · intro _ hSw; (try dsimp only at hSw); go_simp <;> with_reducible rfl
                  (try simp only [Act.put, List.setIfInBounds_toArray, List.set_cons_zero, List.set_cons_succ])
                  refine wpAnyH_ready (rs := [1, 7]) (by kernel_rfl) (by simp) ?_
                  refine (AllReadyH.cons (o := ?o1) ?ho1 (fun K hK => ?w1) (AllReadyH.cons (o := ?o7) ?ho7 (fun K hK => ?w7) AllReadyH.nil))
                  case ho1 => (simp only [List.getElem?_toArray, List.getElem?_cons_zero, List.getElem?_cons_succ]; rfl)
                  case ho7 => (simp only [List.getElem?_toArray, List.getElem?_cons_zero, List.getElem?_cons_succ]; rfl)
                  case' w1 =>
                    clear hHeld
                    go_simp
                    refine hK.out _ _ ?_ (fun hHeld => ?_)
                    · trivial
                    clear hK K
                    (try simp only [Act.put, List.setIfInBounds_toArray, List.set_cons_zero, List.set_cons_succ])
                    refine wpAnyH_ready (rs := [7]) (by kernel_rfl) (by simp) ?_
                    refine AllReadyH.cons (o := ?_) ?_ (fun K hK => ?_) AllReadyH.nil
                    rotate_left 1
                    · simp only [List.getElem?_toArray, List.getElem?_cons_zero, List.getElem?_cons_succ]; rfl
                    clear hHeld
                    go_simp
                    refine hK.out _ _ ?_ (fun hHeld => ?_)
                    · trivial
                    clear hK K
                    (try simp only [Act.put, List.setIfInBounds_toArray, List.set_cons_zero, List.set_cons_succ])
                  case' w7 =>
                    clear hHeld
                    go_simp
                    refine hK.out _ _ ?_ (fun hHeld => ?_)
                    · trivial
                    clear hK K
                    (try simp only [Act.put, List.setIfInBounds_toArray, List.set_cons_zero, List.set_cons_succ])
                    refine wpAnyH_ready (rs := [1]) (by kernel_rfl) (by simp) ?_
                    refine AllReadyH.cons (o := ?_) ?_ (fun K hK => ?_) AllReadyH.nil
                    rotate_left 1
                    · simp only [List.getElem?_toArray, List.getElem?_cons_zero, List.getElem?_cons_succ]; rfl
                    clear hHeld
                    go_simp
                    refine hK.out _ _ ?_ (fun hHeld => ?_)
                    · trivial
                    clear hK K
                    (try simp only [Act.put, List.setIfInBounds_toArray, List.set_cons_zero, List.set_cons_succ])
                  all_goals
                    refine wpAnyH_ready (rs := [8]) (by kernel_rfl) (by simp) ?_
                    refine AllReadyH.cons (o := ?_) ?_ (fun K hK => ?_) AllReadyH.nil
                    rotate_left 1
                    · simp only [List.getElem?_toArray, List.getElem?_cons_zero, List.getElem?_cons_succ]; rfl
                    clear hHeld
                    (refine step_append_own_at rfl (.tmp 364) (.tmp 370) 45 rfl w10.heap.size 44 i0 (.agg #[.bool false, .int .i64 0]) 2 16 Tryz.underlying45 HI.out HZ0.out HZ1.out HZ2.out rfl (by decide) (.slice sp LN sc) LN (slcells xs) rfl HROW.out ⟨wq.heap.size, 0, none⟩ 1 1 [.bool bb, .int .i64 0] rfl rfl (slot_new wq.drew ⟨bb, 0⟩) (by simp [Value.oneCell']) (by unfold maxLen; omega) (by omega) (by simp; omega) ?_; intro v' w6 hown' hgrow hat; obtain ⟨gn, cn, rfl⟩ := ownsRow_succ hown'; have hu6 := ((Upd.refl (Value.slice sp LN sc).ownBlock.toList wq.drew).alloc (.cells #[.bool bb, .int .i64 0] 44)).grown hgrow (fun z hz => Or.inl (Option.mem_toList.2 hz)); have HU6 := Lib.hid hu6; have hyb6 := hu6.heap HYBd.out HNY.out; have z2 := cell_of hyb6 2; have fz := froz_of hyb6 2; simp at z2; have HYB6 := Lib.hid hyb6; have HOW6 := Lib.hid hown'; clear hown' hgrow hat hu6 hyb6)
                    refine hK.out _ _ ?_ (fun hHeld => ?_)
                    · trivial
                    clear hK K
                    (try simp only [Act.put, List.setIfInBounds_toArray, List.set_cons_zero, List.set_cons_succ])
                    refine wpAnyH_take (i := 9) (oi := ?_) (v := ?_) ?_ (by kernel_rfl) (by kernel_rfl) (by kernel_rfl) (fun _ _ _ h => h) (Or.inl ⟨?_, ?_⟩) hHeld ?_
                    rotate_left 2
                    · simp only [List.getElem?_toArray, List.getElem?_cons_zero, List.getElem?_cons_succ]; rfl
                    · rfl
                    · intro _ hSw; (try dsimp only at hSw); go_simp <;> with_reducible rfl
                    (try simp only [Act.put, List.setIfInBounds_toArray, List.set_cons_zero, List.set_cons_succ])
                    refine wpAnyH_ready (rs := [10]) (by kernel_rfl) (by simp) ?_
                    refine AllReadyH.cons (o := ?_) ?_ (fun K hK => ?_) AllReadyH.nil
                    rotate_left 1
                    · simp only [List.getElem?_toArray, List.getElem?_cons_zero, List.getElem?_cons_succ]; rfl
                    clear hHeld
                    go_simp
                    refine hK.out _ _ ?_ (fun hHeld => ?_)
                    · trivial
                    clear hK K
                    (try simp only [Act.put, List.setIfInBounds_toArray, List.set_cons_zero, List.set_cons_succ])
                    refine wpAnyH_done (by kernel_rfl) ?_ _
                    refine NoPanic.normal ?_
                    go_wp2_with fail
                    go_roundw
                    case rel =>
                      have hs6 : Upd [yb] w6 (w6.setCell ⟨yb, 2, none⟩ (.slice (some ⟨gn, 0, none⟩) (LN + 1) cn)) := (Upd.refl [yb] w6).setCell (.inl (by simp)) _
                      have ho6 : OwnSl w6 w10.heap.size (.slice (some ⟨gn, 0, none⟩) (LN + 1) cn) (xs ++ [⟨bb, 0⟩]) := by
                        have h := HOW6.out
                        unfold OwnSl
                        rw [List.length_append, HXL.out, slcells_app]
                        exact h
                      have hu1 : Upd [] w10 w6 := HUW.out.drew.trans' HU6.out (fun z hz hl => by
                        have := (World.ownsRow.lt HROW.out z (Option.mem_toList.1 hz)).1
                        omega)
                      exact ⟨t2 + 1, _, by omega, by
                        have h := HLN.out
                        have e : ((dl.length + (t2 + 1) : Nat) : Int) = (LN : Int) + 1 := by omega
                        rw [e], by
                        refine Hid.mk ?_
                        rw [heap_setCell HYB6.out]
                        rfl, by
                        refine Hid.mk ?_
                        rw [HZT.out]
                        exact OwnSl.upd ho6 hs6 (fun z hz hm => by
                          rw [List.mem_singleton] at hm
                          subst hm
                          exact own_heap_ne ho6 HYB6.out (by decide) hz), hu1.setCell (.inr hyl) _⟩
                    case measure => simp [intOf]; omega
                ·
                  as_aux_lemma =>
                  have htd : t2 = m.locals.size := by omega
                  have hlp := HLP.out
                  have hks := HKS.out
                  have hjk : ((dl.length + t2 : Nat) : Int) = (ks.size : Int) := by omega
                  have hzl : (zeroL m.locals).take t2 = zeroL m.locals := by
                    rw [htd, ← zeroL_len]
                    exact List.take_length
                  have how := HOW.out
                  rw [hzl] at how
                  have hnf : newFr p k dl = ⟨k, 0, dl ++ zeroL m.locals, []⟩ := by
                    unfold newFr
                    rw [HM.out]
                  have hll : (dl ++ zeroL m.locals).length = m.params.size + m.locals.size := by
                    rw [List.length_append, zeroL_len]
                    omega
                  obtain ⟨sp, sc, rfl⟩ := how.shape
                  have y0 : wq.cell? ⟨yb, 0, none⟩ = some (.int .i64 k) := by rw [cell_of HYW.out]; rfl
                  have y1 : wq.cell? ⟨yb, 1, none⟩ = some (.int .i64 0) := by rw [cell_of HYW.out]; rfl
                  have y2 : wq.cell? ⟨yb, 2, none⟩ = some (.slice sp (dl ++ zeroL m.locals).length sc) := by rw [cell_of HYW.out]; rfl
                  have y3 : wq.cell? ⟨yb, 3, none⟩ = some (.slice none 0 0) := by rw [cell_of HYW.out]; rfl
                  obtain ⟨LL, hLL⟩ : ∃ LL, (dl ++ zeroL m.locals).length = LL := ⟨_, rfl⟩
                  rw [hLL] at y2
                  have HHOW := Lib.hid how
                  have HNF := Lib.hid hnf
                  have HLL := Lib.hid hLL
                  have HLL2 := Lib.hid hll
                  have hfl : fs.length ≤ 60 := by omega
                  have HDQ := Lib.hid (HTT.out.duo.same HUW.out)
                  obtain ⟨iw, hiw, hzw0, hzw1, hzw2⟩ := info_parts Tryz.infoWr
                  have HIW := Lib.hid hiw
                  have HZW0 := Lib.hid hzw0
                  have HZW1 := Lib.hid hzw1
                  have HZW2 := Lib.hid hzw2
                  clear hiw hzw0 hzw1 hzw2 hlp hks htd hzl how hnf hll hLL HOW
                  rw [hjk]
                  clear hjk
                  go_wp2_with (at_builtin; refine stop_here ?_)
                  refine Hid.mk ?_
                  refine (wpList_append_src rfl (.tmp 373) (.tmp 375) 42 rfl (W0.heap.size + 1) 56 iw (.agg #[.int .i64 0, .int .i64 0, .slice none 0 0, .slice none 0 0]) 4 64 Tryz.underlying42 HIW.out HZW0.out HZW1.out HZW2.out rfl (by decide) (.slice wp fs.length wc) fs.length (frcells fs ws) rfl (World.ownsRow.alloc HDQ.out.wr.row _) (.slice (some ⟨wq.heap.size, 0, none⟩) 1 1) 1 [.int .i64 k, .int .i64 0, .slice sp LL sc, .slice none 0 0] rfl (.inr ⟨_, _, rfl, wr_new _ _ _⟩) rfl (by simp [Value.oneCell']) ?c1 ?c2 ?c3 ?c4)
                  case c1 => unfold maxLen; omega
                  case c2 => omega
                  case c3 =>
                    have h1 := HDQ.out.upd.size
                    have h2 := HP.out.duo.upd.size
                    obtain ⟨_, _, _, _, h3, _⟩ := HDQ.out
                    have h4 := lt_of_heap h3.st.box
                    simp
                    omega
                  case c4 =>
                    intro v1 w7 hown hgr hat
                    have hws : ws.length = fs.length := HDQ.out.wr.len
                    have hown2 : w7.ownsRow (W0.heap.size + 1) 56 4 v1 (fs.length + 1) (frcells fs ws ++ fr4 ⟨k, 0, dl ++ zeroL m.locals, []⟩ ⟨.slice sp LL sc, .slice none 0 0⟩) := hown
                    have hbase : W0.heap.size + 1 ≤ w10.heap.size := by
                      obtain ⟨_, _, _, _, h3, _⟩ := HTT.out.duo
                      have h4 := lt_of_heap h3.st.box
                      omega
                    have hlow : ∀ b, (Value.slice sp LL sc).ownBlock = some b → w10.heap.size ≤ b := fun b hb => by
                      have h := HHOW.out
                      rw [HLL.out] at h
                      exact (World.ownsRow.lt h b hb).1
                    have hpush := WrsAt.push (o := .cells #[.int .i64 k, .int .i64 0, .slice sp LL sc, .slice none 0 0] 56) ⟨k, 0, dl ++ zeroL m.locals, []⟩ ⟨.slice sp LL sc, .slice none 0 0⟩ HDQ.out.wr (by
                      have h := HHOW.out
                      rw [HLL.out] at h
                      exact row_base h hbase) rfl rfl (fun b hb i2 hi2 hh => by
                      have h1 := hlow b hb
                      have h2 := HTT.out.duo.wr.base hi2 hh
                      omega) (fun b hb => by
                      have h := HHOW.out
                      rw [HLL.out] at h
                      exact own_ne h HDQ.out.wr.row (by decide) b hb) hown2 hgr
                    obtain ⟨hw7, hu7⟩ := hpush
                    have HD7 : Hid (Duo wA W0 w7 W0.heap.size ib p ss lim (n + 1) (words + Wd) (fs ++ [⟨k, 0, dl ++ zeroL m.locals, []⟩]) v1 (fs ++ [⟨k, 0, dl ++ zeroL m.locals, []⟩]) (ws ++ [⟨.slice sp LL sc, .slice none 0 0⟩])) := by
                      have hd := HTT.out.duo
                      rw [HNF.out, HWE.out] at hd
                      refine hd.law ((HUW.out.mono (by simp)).trans hu7) hw7 (fun t3 ht3 => .inl (Option.mem_toList.1 ht3)) (fun j2 hj2 b hb => ?_)
                      rcases has_snoc (by simp at hj2; omega) hb with ⟨k2, hk2, h7⟩ | h7
                      · exact .inr ⟨k2, by omega, h7⟩
                      · rcases h7 with h7 | h7
                        · exact .inl (hlow b h7)
                        · cases h7
                    have hfo : FrOk p ⟨k, 0, dl ++ zeroL m.locals, []⟩ := ⟨hkl, by rw [HM.out]; exact HLL2.out, by simp⟩
                    clear hown hown2 hgr hat hw7 hu7
                    go_wp2_with fail
                    refine Met.intro (HJ.out _ _ ?_)
                    exact ⟨_, _, _, _, _, ⟨HD7.out, HOKF.out.snoc hfo, by simp; omega, by omega⟩, fpF_eq (by kernel_rfl)⟩
end Go.Proofs.YtopojeanbpokaaaGreatDoor

/-! FramesPlay: the references. -/
/-! FramesPlay: the references. -/
namespace Go.Proofs.YtopojeanbpokaaaGreatDoor
open Go.RowKit
set_option maxRecDepth 1000000 in
set_option maxHeartbeats 16000000 in
theorem kind7b {E : Nat → Addr} {p : Prg} {ss : List Lk} {w wA W0 wd : World} {ib pb xb xd : Nat} {lim ask t : Int} {a0 a1 a2 la wp lp : Option Addr} {c0 c1 n2 c2 nl lc i wc lcc : Nat} {n words : Int} {fs : List Fr} {ws : List FrV} {kd da dby xn : Int} {xr : Bool} {dl : List Slt} {f : Nat → Value} {J K' : Act → World → Prop} {Q' : Exit → Act → World → Prop}
    (hC : FpC E p ss w wA W0 ib pb xb lim a0 a1 a2 c0 c1 n2 c2) (hP : PlF p ss wA W0 wd ib lim i n words (.slice wp fs.length wc) fs ws) (hD : FpD wA W0 wd xd kd da dby xr xn lp lcc dl) (_hi : i < nl) (_hn : nl ≤ 60)
    (h19 : f 19 = .pointer (some ⟨xd, 0, none⟩)) (h20 : f 20 = .int .i64 t) (_ht : t + 1 = (fs.length : Int)) (h132 : f 132 = .int .i64 kd) (hkd : kd ≠ 1 ∧ kd ≠ 2 ∧ kd ≠ 3 ∧ kd ≠ 4 ∧ kd ≠ 5 ∧ kd ≠ 6) (hm4 : da % 4 ≠ 0)
    (hJ : ∀ a' w', FpR p ss wA W0 lim la nl lc ask pb xb ib i a' w' → J a' w') (hK : ∀ a' w', Met J a' w' → K' a' w') :
    swC.wp Tryz.prog (Exit.then K' Q') (fpF lim la nl lc ask pb xb ib W0.heap.size (.slice wp fs.length wc) (.int .i64 words) (.int .i64 i) f) wd := by
  obtain ⟨n1, n2', n3, n4, n5, n6⟩ := hkd
  have k1 : (kd == 1) = false := by rw [beq_eq_false_iff_ne]; exact n1
  have k2 : (kd == 2) = false := by rw [beq_eq_false_iff_ne]; exact n2'
  have k3 : (kd == 3) = false := by rw [beq_eq_false_iff_ne]; exact n3
  have k4 : (kd == 4) = false := by rw [beq_eq_false_iff_ne]; exact n4
  have k5 : (kd == 5) = false := by rw [beq_eq_false_iff_ne]; exact n5
  have k6 : (kd == 6) = false := by rw [beq_eq_false_iff_ne]; exact n6
  clear n1 n2' n3 n4 n5 n6
  have HC := Lib.hid hC
  have HP := Lib.hid hP
  have HJ := Lib.hid hJ
  have HD := Lib.hid hD
  obtain ⟨b0, b1, b2, b3, b4, b5⟩ := hD.cells (Upd.refl [] wd)
  have hfew := hP.few
  have hcnt := hP.cnt
  have hok := hP.duo.ok.ok
  have hf60 : fs.length ≤ 60 := by omega
  have HRT := Lib.hid (roots13_any (W0.heap.size + 1) (.slice wp fs.length wc) fs ws wd hP.duo.wr (by omega) (fun j hj => by have := (hP.ok.getD hj).small hok; omega))
  have hrl : (rootsL fs).length ≤ 1440 := by have := FrsOk.roots2 hok hP.ok; omega
  obtain ⟨i1, hi0, hz0, hz1, hz2⟩ := info_parts Tryz.infoInt
  have HJ0 := Lib.hid hi0
  have HZ0 := Lib.hid hz0
  have HZ1 := Lib.hid hz1
  have HZ2 := Lib.hid hz2
  clear hi0 hz0 hz1 hz2 hC hP hD hJ b0 b3 b4 b5
  obtain ⟨R, hR⟩ : ∃ R, rootsL fs = R := ⟨_, rfl⟩
  rw [hR] at HRT hrl
  have HR := Lib.hid hR
  have hby : bits BinOp.and IntKind.i64 dby 1023 = dby % 1024 := and_mask dby 10 1023 (by omega) (by decide)
  obtain ⟨by_, hby2⟩ : ∃ y, dby % 1024 = y := ⟨_, rfl⟩
  have hy0 : 0 ≤ by_ ∧ by_ < 1024 := by omega
  rw [hby2] at hby
  have hda : bits BinOp.and IntKind.i64 da 3 = da % 4 := and_mask da 2 3 (by omega) (by decide)
  obtain ⟨d4, hd4⟩ : ∃ y, da % 4 = y := ⟨_, rfl⟩
  rw [hd4] at hda hm4
  clear hby2 hd4 hR
  unfold fpF
  rw [h19, h20, h132]
  conv => arg 2; whnf
  go_wp2_with fail
  refine HRT.out.mono ?_
  rintro e w1 ⟨u, rfl, ho, hu1⟩
  obtain ⟨rp, rc, rfl⟩ := ho.shape
  have b1 := hu1.cell b1 (by simp)
  have b2 := hu1.cell b2 (by simp)
  have HO1 := Lib.hid ho
  have HU1 := Lib.hid hu1
  clear ho hu1 HRT
  go_wp2_with fail
  go_loopw [38] (fun kv wr => ∃ k : Nat, k ≤ R.length ∧ kv = .int .i64 k ∧ Hid (OwnI wr wd.heap.size 3 (.slice rp R.length rc) (turnR by_ R k)) ∧ Hid (Upd [] wd wr)) (fun kv _ => R.length - (intOf kv).toNat)
  case atStart => exact ⟨0, by omega, rfl, by rw [turnR_zero]; exact HO1.out, HU1.out⟩
  case round =>
    obtain ⟨k, hk, rfl, HO, HU⟩ := hrel
    obtain ⟨wo, rfl⟩ : ∃ wo : World, wo = wr := ⟨_, rfl⟩
    by_cases hlt : k < R.length
    ·
      as_aux_lemma =>
      have ho := HO.out
      obtain ⟨rb, rc2, he, hb0, hb1, hc⟩ := ho.nth k (by rw [turnR_len]; exact hlt)
      injection he with e1 e2 e3
      subst e1 e3
      rw [turnR_get by_ R k hlt] at hc
      have hfz := ho.frozL
      have hst := turnR_step by_ R k hlt
      generalize R.getD k 0 = x at hc hst
      have hand : bits BinOp.and IntKind.i64 x 1048575 = x % 1048576 := and_mask x 20 1048575 (by omega) (by decide)
      have htx : trn by_ x = x % 1048576 + by_ := rfl
      have hwr : IntKind.i64.wrap (x % 1048576 + by_) = x % 1048576 + by_ := IntWalk.i64_in _ (by omega)
      have ho2 := OwnI.set (c := rc) (g := rb) (xs := turnR by_ R k) (by rw [turnR_len]; exact ho) k (trn by_ x)
      rw [turnR_len, hst, htx] at ho2
      have HO2 := Lib.hid ho2
      have HU2 : Hid (Upd [] wd (wo.setCell ⟨rb, k, none⟩ (.int .i64 (x % 1048576 + by_)))) := HU.out.setCell (.inr hb0) _
      have fz := hfz k
      clear ho ho2 hst htx e2 hfz HO
      go_wp2_with fail
      go_roundw
      case rel => exact ⟨k + 1, by omega, by go_num, HO2.out, HU2.out⟩
      case measure => simp [intOf]; omega
    · have hkR : k = R.length := by omega
      have HON : Hid (OwnI wo wd.heap.size 3 (.slice rp R.length rc) (R.map (trn by_))) := by
        have h1 := HO.out
        rw [hkR, turnR_all] at h1
        exact h1
      obtain ⟨b0, b1, b2, b3, b4, b5⟩ := HD.out.cells HU.out
      have HDU := Lib.hid (HP.out.duo.same HU.out)
      have hNl : (R.map (trn by_)).length = R.length := by simp
      have hN0 : ∀ x ∈ R.map (trn by_), 0 ≤ x := fun x hx => by
        obtain ⟨y, _, rfl⟩ := List.mem_map.1 hx
        exact trn_ge _ _ (by omega)
      obtain ⟨N, hN⟩ : ∃ N, R.map (trn by_) = N := ⟨_, rfl⟩
      rw [hN] at HON hNl hN0
      have HNL := Lib.hid hNl
      have HN0 := Lib.hid hN0
      clear hN hNl hN0 HO HO1 HU1 b0 b2 b3 b4 b5 hkR
      have hm5 : (d4 == 0) = false := by rw [beq_eq_false_iff_ne]; exact hm4
      clear hm4
      obtain ⟨b9, hv9, hb9, _⟩ := HON.out.iv
      have HSR := Lib.hid (duo_setroots HDU.out HP.out.ok hf60 hv9 hb9 (by rw [HR.out]; exact HNL.out) HN0.out)
      clear hv9 hb9
      go_wp2_with fail
      refine HSR.out.mono ?_
      rintro e w3 ⟨rfl, ⟨fs', hd3, hal, hro⟩, hint, _⟩
      have HON3 := Lib.hid (OwnI.stays HON.out hint)
      have HD3 := Lib.hid hd3
      have HAL := Lib.hid hal
      have HRO := Lib.hid hro
      clear hd3 hal hro hint HSR HDU HON b1 b2
      go_wp2_with fail
      go_loopw [40, 41] (fun nv kv wr => ∃ (k : Nat) (gs : List Fr), k ≤ fs.length ∧ kv = .int .i64 k ∧ nv = .int .i64 ((cntR fs k : Nat) : Int) ∧ Hid (SetI fs R N gs (cntR fs k)) ∧ Hid (Duo wA W0 wr W0.heap.size ib p ss lim n words fs' (.slice wp fs.length wc) gs ws) ∧ Hid (OwnI wr wd.heap.size 3 (.slice rp R.length rc) N)) (fun _ kv _ => fs.length - (intOf kv).toNat)
      case atStart => exact ⟨0, fs, by omega, rfl, rfl, SetI.start HR.out, HD3.out, HON3.out⟩
      case round =>
        clear HD3 HON3
        obtain ⟨k, gs, hk, rfl, rfl, HI, HD3, HON3⟩ := hrel
        obtain ⟨wk, rfl⟩ : ∃ wk : World, wk = wr := ⟨_, rfl⟩
        by_cases hkf : k < fs.length
        · have hgl0 : gs.length = fs.length := HI.out.al.len.symm
          obtain ⟨lp0, lc0, hv0⟩ := (HD3.out.wr.loc k (by omega)).shape
          obtain ⟨lp1, lc1, hv1⟩ := (HD3.out.wr.stk k (by omega)).shape
          rw [← (HI.out.al.at_ k).loc.len] at hv0
          rw [← (HI.out.al.at_ k).stk.len] at hv1
          have hb1 := baseF_step fs k 0 (by omega)
          have hb2 := baseF_step fs k 1 (by omega)
          have hb3 := baseF_two fs k hkf
          obtain ⟨L0, hL0⟩ : ∃ L, (fs.getD k default).loc.length = L := ⟨_, rfl⟩
          obtain ⟨L1, hL1⟩ : ∃ L, (fs.getD k default).stk.length = L := ⟨_, rfl⟩
          rw [hL0] at hv0
          rw [hL1] at hv1
          have hsm := (HP.out.ok.getD hkf).small hok
          have hL12 : L0 ≤ 12 ∧ L1 ≤ 12 := by omega
          have HL0 : Hid ((rowF (fs.getD k default) 0).length = L0) := hL0
          have HL1 : Hid ((rowF (fs.getD k default) 1).length = L1) := hL1
          have HV0 := Lib.hid hv0
          have HV1 := Lib.hid hv1
          have HB1 := Lib.hid hb1
          have HB2 := Lib.hid hb2
          have HB3 := Lib.hid hb3
          have HB0 : Hid (baseF fs k 0 = cntR fs k) := by
            refine Hid.mk ?_
            simp [baseF]
          clear hv0 hv1 hb1 hb2 hb3 hL0 hL1 hsm hgl0
          have HI0 : Hid (SetI fs R N gs (baseF fs k 0 + refN ((rowF (fs.getD k default) 0).take 0))) := by
            refine Hid.mk ?_
            rw [HB0.out]
            simpa [refN] using HI.out
          have HN00 : Hid (((cntR fs k : Nat) : Int) = ((baseF fs k 0 + refN ((rowF (fs.getD k default) 0).take 0) : Nat) : Int)) := by
            refine Hid.mk ?_
            rw [HB0.out]
            simp [refN]
          rw [HN00.out]
          go_wp2_with fail
          go_loopw [40, 42] (fun nv jv wr => ∃ (j : Nat) (gs : List Fr), j ≤ L0 ∧ jv = .int .i64 j ∧ nv = .int .i64 ((baseF fs k 0 + refN ((rowF (fs.getD k default) 0).take j) : Nat) : Int) ∧ Hid (SetI fs R N gs (baseF fs k 0 + refN ((rowF (fs.getD k default) 0).take j))) ∧ Hid (Duo wA W0 wr W0.heap.size ib p ss lim n words fs' (.slice wp fs.length wc) gs ws) ∧ Hid (OwnI wr wd.heap.size 3 (.slice rp R.length rc) N)) (fun _ jv _ => L0 - (intOf jv).toNat)
          case atStart => exact ⟨0, gs, by omega, rfl, rfl, HI0.out, HD3.out, HON3.out⟩
          case round =>
            clear HI0 HN00 HI HD3 HON3
            obtain ⟨j, gs, hj, rfl, rfl, HI, HD4, HON4⟩ := hrel
            obtain ⟨wj, rfl⟩ : ∃ wj : World, wj = wr := ⟨_, rfl⟩
            have hgl : gs.length = fs.length := HI.out.al.len.symm
            have hkg : k < gs.length := by omega
            obtain ⟨q, qc, he, _, _, y2, y3⟩ := HD4.out.wr.cell hkg
            injection he with e1 e2 e3
            subst e1 e3
            have yv := y2
            rw [HV0.out] at yv
            have h0k : (0 : Int) ≤ (k : Int) := by omega
            have h1k : (k : Int) < (fs.length : Int) := by omega
            by_cases hjl : j < L0
            ·
              have hrl2 := ((HI.out.al.at_ k).row 0).len
              have hjr : j < (rowF (fs.getD k default) 0).length := by rw [HL0.out]; exact hjl
              have hos : OwnSl wj (W0.heap.size + 1) (ws.getD k default).lv (gs.getD k default).loc := HD4.out.wr.loc k hkg
              rw [HV0.out] at hos
              obtain ⟨sb2, hread, _⟩ := hos.read
              have hgj : j < (gs.getD k default).loc.length := by
                have h1 : (rowF (gs.getD k default) 0).length = (gs.getD k default).loc.length := rfl
                omega
              obtain ⟨rfl⟩ : lp0 = some ⟨sb2, 0, none⟩ := by
                rcases hread.1 with ⟨_, e⟩ | ⟨c9, e⟩
                · rw [e] at hgj; simp at hgj
                · injection e
              obtain ⟨z0, z1⟩ := hread.2 j hgj
              have hbr : (((gs.getD k default).loc).getD j default).ref = ((rowF (fs.getD k default) 0).getD j default).ref := (((HI.out.al.at_ k).row 0).ref_at j).symm
              rw [hbr] at z0
              have HRT := Lib.hid (refN_take (rowF (fs.getD k default) 0) j hjr)
              have h0j : (0 : Int) ≤ (j : Int) := by omega
              have h1j : (j : Int) < (L0 : Int) := by omega
              obtain ⟨cur, hcur⟩ := hos.typed (b := sb2) rfl
              have fz := froz_of hcur (j * 2 + 1)
              generalize hbb : ((rowF (fs.getD k default) 0).getD j default).ref = bb at z0
              have HBB := Lib.hid hbb
              rw [hbb] at HRT
              clear hbb hbr hos hread hcur y2 y3 e2 hrl2
              cases bb with
              | false =>
                have HC2 : Hid (baseF fs k 0 + refN ((rowF (fs.getD k default) 0).take (j + 1)) = baseF fs k 0 + refN ((rowF (fs.getD k default) 0).take j)) := by
                  refine Hid.mk ?_
                  have h1 := HRT.out
                  simp only [Bool.false_eq_true, if_false, Nat.add_zero] at h1
                  rw [h1]
                obtain ⟨cc, hcc⟩ : ∃ cc, baseF fs k 0 + refN ((rowF (fs.getD k default) 0).take j) = cc := ⟨_, rfl⟩
                rw [hcc] at HC2 HI ⊢
                clear hcc
                go_wp2_with fail
                go_roundw
                case rel => exact ⟨j + 1, gs, by omega, by go_num, by rw [HC2.out], by rw [HC2.out]; exact HI.out, HD4.out, HON4.out⟩
                case measure => simp [intOf]; omega
              | true =>
                obtain ⟨cc, hcc⟩ : ∃ cc, baseF fs k 0 + refN ((rowF (fs.getD k default) 0).take j) = cc := ⟨_, rfl⟩
                have HC2 : Hid (baseF fs k 0 + refN ((rowF (fs.getD k default) 0).take (j + 1)) = cc + 1) := by
                  refine Hid.mk ?_
                  have h1 := HRT.out
                  simp only [if_true] at h1
                  rw [h1]
                  omega
                obtain ⟨hlt, hst⟩ := HI.out.step HNL.out HR.out (r := 0) hkf (by omega) hjr HBB.out rfl
                rw [hcc] at hlt hst HI ⊢
                have HS2 := Lib.hid hst
                have hcr : cc < R.length := by have := HNL.out; omega
                obtain ⟨rb, rc2, he2, hb0, hb1, hcn⟩ := OwnI.nth (v := .slice rp R.length rc) (xs := N) HON4.out cc hlt
                injection he2 with e4 e5 e6
                subst e4 e6
                obtain ⟨x, hx⟩ : ∃ x, N.getD cc 0 = x := ⟨_, rfl⟩
                rw [hx] at hcn HS2
                have hal2 := (HI.out.al.at_ k).row 0
                have hgj2 : j < (rowF (gs.getD k default) 0).length := hgj
                have hbg : ((rowF (gs.getD k default) 0).getD j default).ref = true := by rw [← hal2.ref_at j]; exact HBB.out
                have hsn := HD4.out.wr.setN x hkg (show 0 < 2 by omega) hgj2 hbg (b := sb2) HV0.out
                have hsu : Upd [sb2] wj (wj.setCell ⟨sb2, j * 2 + 1, none⟩ (.int .i64 x)) := (Upd.refl [sb2] wj).setCell (.inl (by simp)) _
                have HD5 : Hid (Duo wA W0 (wj.setCell ⟨sb2, j * 2 + 1, none⟩ (.int .i64 x)) W0.heap.size ib p ss lim n words fs' (.slice (some ⟨q, 0, none⟩) fs.length wc) (updF gs k 0 j x) ws) := HD4.out.law hsu hsn (fun t ht => by
                  rw [List.mem_singleton] at ht
                  subst ht
                  exact .inr (.inl ⟨k, hkg, by exact .inl (by rw [HV0.out]; rfl)⟩)) (fun i2 hi2 b hb => .inr ⟨i2, by simpa [updF] using hi2, hb⟩)
                have HON5 : Hid (OwnI (wj.setCell ⟨sb2, j * 2 + 1, none⟩ (.int .i64 x)) wd.heap.size 3 (.slice (some ⟨rb, 0, none⟩) R.length rc) N) := OwnI.upd HON4.out hsu (fun z hz hm => by
                  rw [List.mem_singleton] at hm
                  subst hm
                  obtain ⟨c8, h8⟩ := HD4.out.wr.hasT hkg (b := z) (by exact .inl (by rw [HV0.out]; rfl))
                  exact own_heap_ne HON4.out h8 (by decide) hz)
                have h0c : (0 : Int) ≤ (cc : Int) := by omega
                have h1c : (cc : Int) < (R.length : Int) := by omega
                have hdr := (Upd.refl [] wj).drew
                have dyv := hdr.cell yv (by simp)
                have dcn := hdr.cell hcn (by simp)
                have dz1 := hdr.cell z1 (by simp)
                have dz0 := hdr.cell z0 (by simp)
                have hqs : q ≠ sb2 := by
                  obtain ⟨_, c9, h9⟩ := HD4.out.wr.blk
                  obtain ⟨c8, h8⟩ := HD4.out.wr.hasT hkg (b := sb2) (by exact .inl (by rw [HV0.out]; rfl))
                  exact heap_ne h9 h8 (by decide)
                have hrs : rb ≠ sb2 := fun e => by
                  obtain ⟨c8, h8⟩ := HD4.out.wr.hasT hkg (b := sb2) (by exact .inl (by rw [HV0.out]; rfl))
                  exact own_heap_ne HON4.out h8 (by decide) (by rw [e]; rfl)
                have hS0 : wj.cell? ⟨q, k * 4 + 2, none⟩ = some (.slice (some ⟨sb2, 0, none⟩) L0 lc0) ∧ wj.cell? ⟨rb, cc, none⟩ = some (.int .i64 x) := ⟨yv, hcn⟩
                have hS1 : wj.drew.cell? ⟨q, k * 4 + 2, none⟩ = some (.slice (some ⟨sb2, 0, none⟩) L0 lc0) ∧ wj.drew.cell? ⟨rb, cc, none⟩ = some (.int .i64 x) := ⟨dyv, dcn⟩
                have hS2 : (wj.drew.setCell ⟨sb2, j * 2 + 1, none⟩ (.int .i64 x)).cell? ⟨q, k * 4 + 2, none⟩ = some (.slice (some ⟨sb2, 0, none⟩) L0 lc0) ∧ (wj.drew.setCell ⟨sb2, j * 2 + 1, none⟩ (.int .i64 x)).cell? ⟨rb, cc, none⟩ = some (.int .i64 x) := by
                  have h := (Upd.refl [sb2] wj.drew).setCell (p := ⟨sb2, j * 2 + 1, none⟩) (.inl (by simp)) (.int .i64 x)
                  exact ⟨h.cell dyv (by simpa using hqs), h.cell dcn (by simpa using hrs)⟩
                clear hcc hx hst hlt hal2 hgj2 hbg hsn hsu hdr e5 HI HD4 HON4 hqs hrs yv hcn dyv dcn
                go_upto_region 47 with fail
                go_region_held3 (fun W => W.cell? ⟨q, k * 4 + 2, none⟩ = some (.slice (some ⟨sb2, 0, none⟩) L0 lc0) ∧ W.cell? ⟨rb, cc, none⟩ = some (.int .i64 x))
                  (first | exact hS2 | exact hS1 | exact hS0)
                  (fail)
                all_goals
                  have HD6 := Lib.hid (HD5.out.same (Upd.refl [] _).drew)
                  have HON6 := Lib.hid (OwnI.upd HON5.out (Upd.refl [] _).drew (by simp))
                  clear hS0 hS1 hS2
                  go_wp2_with fail
                  go_roundw
                  case rel => exact ⟨j + 1, updF gs k 0 j x, by omega, by go_num, by rw [HC2.out]; go_num, by rw [HC2.out]; exact HS2.out, HD6.out, HON6.out⟩
                  case measure => simp [intOf]; omega

            ·
              have hjL : j = L0 := by omega
              have HI1 : Hid (SetI fs R N gs (baseF fs k 1 + refN ((rowF (fs.getD k default) 1).take 0))) := by
                refine Hid.mk ?_
                have h1 := HI.out
                rw [hjL, ← HL0.out, List.take_length, ← HB1.out] at h1
                simpa [refN] using h1
              have HN1 : Hid (((baseF fs k 0 + refN ((rowF (fs.getD k default) 0).take j) : Nat) : Int) = ((baseF fs k 1 + refN ((rowF (fs.getD k default) 1).take 0) : Nat) : Int)) := by
                refine Hid.mk ?_
                rw [hjL, ← HL0.out, List.take_length, ← HB1.out]
                simp [refN]
              rw [HN1.out]
              clear hjL HI y2 y3 e2
              go_wp2_with fail
              go_loopw [40, 43] (fun nv jv wr => ∃ (j : Nat) (gs : List Fr), j ≤ L1 ∧ jv = .int .i64 j ∧ nv = .int .i64 ((baseF fs k 1 + refN ((rowF (fs.getD k default) 1).take j) : Nat) : Int) ∧ Hid (SetI fs R N gs (baseF fs k 1 + refN ((rowF (fs.getD k default) 1).take j))) ∧ Hid (Duo wA W0 wr W0.heap.size ib p ss lim n words fs' (.slice (some ⟨q, 0, none⟩) fs.length wc) gs ws) ∧ Hid (OwnI wr wd.heap.size 3 (.slice rp R.length rc) N)) (fun _ jv _ => L1 - (intOf jv).toNat)
              case atStart => exact ⟨0, gs, by omega, rfl, rfl, HI1.out, HD4.out, HON4.out⟩
              case round =>
                clear HI1 HN1 HD4 HON4 yv
                obtain ⟨j, gs, hj, rfl, rfl, HI, HD4, HON4⟩ := hrel
                obtain ⟨wj, rfl⟩ : ∃ wj : World, wj = wr := ⟨_, rfl⟩
                have hgl : gs.length = fs.length := HI.out.al.len.symm
                have hkg : k < gs.length := by omega
                obtain ⟨q, qc, he, _, _, y2, y3⟩ := HD4.out.wr.cell hkg
                injection he with e1 e2 e3
                subst e3
                injection e1 with e1
                injection e1 with e1
                subst e1
                have yv := y3
                rw [HV1.out] at yv
                have h0k : (0 : Int) ≤ (k : Int) := by omega
                have h1k : (k : Int) < (fs.length : Int) := by omega
                by_cases hjl : j < L1
                ·
                  have hrl2 := ((HI.out.al.at_ k).row 1).len
                  have hjr : j < (rowF (fs.getD k default) 1).length := by rw [HL1.out]; exact hjl
                  have hos : OwnSl wj (W0.heap.size + 1) (ws.getD k default).sv (gs.getD k default).stk := HD4.out.wr.stk k hkg
                  rw [HV1.out] at hos
                  obtain ⟨sb2, hread, _⟩ := hos.read
                  have hgj : j < (gs.getD k default).stk.length := by
                    have h1 : (rowF (gs.getD k default) 1).length = (gs.getD k default).stk.length := rfl
                    omega
                  obtain ⟨rfl⟩ : lp1 = some ⟨sb2, 0, none⟩ := by
                    rcases hread.1 with ⟨_, e⟩ | ⟨c9, e⟩
                    · rw [e] at hgj; simp at hgj
                    · injection e
                  obtain ⟨z0, z1⟩ := hread.2 j hgj
                  have hbr : (((gs.getD k default).stk).getD j default).ref = ((rowF (fs.getD k default) 1).getD j default).ref := (((HI.out.al.at_ k).row 1).ref_at j).symm
                  rw [hbr] at z0
                  have HRT := Lib.hid (refN_take (rowF (fs.getD k default) 1) j hjr)
                  have h0j : (0 : Int) ≤ (j : Int) := by omega
                  have h1j : (j : Int) < (L1 : Int) := by omega
                  obtain ⟨cur, hcur⟩ := hos.typed (b := sb2) rfl
                  have fz := froz_of hcur (j * 2 + 1)
                  generalize hbb : ((rowF (fs.getD k default) 1).getD j default).ref = bb at z0
                  have HBB := Lib.hid hbb
                  rw [hbb] at HRT
                  clear hbb hbr hos hread hcur y2 y3 e2 hrl2
                  cases bb with
                  | false =>
                    have HC2 : Hid (baseF fs k 1 + refN ((rowF (fs.getD k default) 1).take (j + 1)) = baseF fs k 1 + refN ((rowF (fs.getD k default) 1).take j)) := by
                      refine Hid.mk ?_
                      have h1 := HRT.out
                      simp only [Bool.false_eq_true, if_false, Nat.add_zero] at h1
                      rw [h1]
                    obtain ⟨cc, hcc⟩ : ∃ cc, baseF fs k 1 + refN ((rowF (fs.getD k default) 1).take j) = cc := ⟨_, rfl⟩
                    rw [hcc] at HC2 HI ⊢
                    clear hcc
                    go_wp2_with fail
                    go_roundw
                    case rel => exact ⟨j + 1, gs, by omega, by go_num, by rw [HC2.out], by rw [HC2.out]; exact HI.out, HD4.out, HON4.out⟩
                    case measure => simp [intOf]; omega
                  | true =>
                    obtain ⟨cc, hcc⟩ : ∃ cc, baseF fs k 1 + refN ((rowF (fs.getD k default) 1).take j) = cc := ⟨_, rfl⟩
                    have HC2 : Hid (baseF fs k 1 + refN ((rowF (fs.getD k default) 1).take (j + 1)) = cc + 1) := by
                      refine Hid.mk ?_
                      have h1 := HRT.out
                      simp only [if_true] at h1
                      rw [h1]
                      omega
                    obtain ⟨hlt, hst⟩ := HI.out.step HNL.out HR.out (r := 1) hkf (by omega) hjr HBB.out rfl
                    rw [hcc] at hlt hst HI ⊢
                    have HS2 := Lib.hid hst
                    have hcr : cc < R.length := by have := HNL.out; omega
                    obtain ⟨rb, rc2, he2, hb0, hb1, hcn⟩ := OwnI.nth (v := .slice rp R.length rc) (xs := N) HON4.out cc hlt
                    injection he2 with e4 e5 e6
                    subst e4 e6
                    obtain ⟨x, hx⟩ : ∃ x, N.getD cc 0 = x := ⟨_, rfl⟩
                    rw [hx] at hcn HS2
                    have hal2 := (HI.out.al.at_ k).row 1
                    have hgj2 : j < (rowF (gs.getD k default) 1).length := hgj
                    have hbg : ((rowF (gs.getD k default) 1).getD j default).ref = true := by rw [← hal2.ref_at j]; exact HBB.out
                    have hsn := HD4.out.wr.setN x hkg (show 1 < 2 by omega) hgj2 hbg (b := sb2) HV1.out
                    have hsu : Upd [sb2] wj (wj.setCell ⟨sb2, j * 2 + 1, none⟩ (.int .i64 x)) := (Upd.refl [sb2] wj).setCell (.inl (by simp)) _
                    have HD5 : Hid (Duo wA W0 (wj.setCell ⟨sb2, j * 2 + 1, none⟩ (.int .i64 x)) W0.heap.size ib p ss lim n words fs' (.slice (some ⟨q, 0, none⟩) fs.length wc) (updF gs k 1 j x) ws) := HD4.out.law hsu hsn (fun t ht => by
                      rw [List.mem_singleton] at ht
                      subst ht
                      exact .inr (.inl ⟨k, hkg, by exact .inr (by rw [HV1.out]; rfl)⟩)) (fun i2 hi2 b hb => .inr ⟨i2, by simpa [updF] using hi2, hb⟩)
                    have HON5 : Hid (OwnI (wj.setCell ⟨sb2, j * 2 + 1, none⟩ (.int .i64 x)) wd.heap.size 3 (.slice (some ⟨rb, 0, none⟩) R.length rc) N) := OwnI.upd HON4.out hsu (fun z hz hm => by
                      rw [List.mem_singleton] at hm
                      subst hm
                      obtain ⟨c8, h8⟩ := HD4.out.wr.hasT hkg (b := z) (by exact .inr (by rw [HV1.out]; rfl))
                      exact own_heap_ne HON4.out h8 (by decide) hz)
                    have h0c : (0 : Int) ≤ (cc : Int) := by omega
                    have h1c : (cc : Int) < (R.length : Int) := by omega
                    have hdr := (Upd.refl [] wj).drew
                    have dyv := hdr.cell yv (by simp)
                    have dcn := hdr.cell hcn (by simp)
                    have dz1 := hdr.cell z1 (by simp)
                    have dz0 := hdr.cell z0 (by simp)
                    have hqs : q ≠ sb2 := by
                      obtain ⟨_, c9, h9⟩ := HD4.out.wr.blk
                      obtain ⟨c8, h8⟩ := HD4.out.wr.hasT hkg (b := sb2) (by exact .inr (by rw [HV1.out]; rfl))
                      exact heap_ne h9 h8 (by decide)
                    have hrs : rb ≠ sb2 := fun e => by
                      obtain ⟨c8, h8⟩ := HD4.out.wr.hasT hkg (b := sb2) (by exact .inr (by rw [HV1.out]; rfl))
                      exact own_heap_ne HON4.out h8 (by decide) (by rw [e]; rfl)
                    have hS0 : wj.cell? ⟨q, k * 4 + 3, none⟩ = some (.slice (some ⟨sb2, 0, none⟩) L1 lc1) ∧ wj.cell? ⟨rb, cc, none⟩ = some (.int .i64 x) := ⟨yv, hcn⟩
                    have hS1 : wj.drew.cell? ⟨q, k * 4 + 3, none⟩ = some (.slice (some ⟨sb2, 0, none⟩) L1 lc1) ∧ wj.drew.cell? ⟨rb, cc, none⟩ = some (.int .i64 x) := ⟨dyv, dcn⟩
                    have hS2 : (wj.drew.setCell ⟨sb2, j * 2 + 1, none⟩ (.int .i64 x)).cell? ⟨q, k * 4 + 3, none⟩ = some (.slice (some ⟨sb2, 0, none⟩) L1 lc1) ∧ (wj.drew.setCell ⟨sb2, j * 2 + 1, none⟩ (.int .i64 x)).cell? ⟨rb, cc, none⟩ = some (.int .i64 x) := by
                      have h := (Upd.refl [sb2] wj.drew).setCell (p := ⟨sb2, j * 2 + 1, none⟩) (.inl (by simp)) (.int .i64 x)
                      exact ⟨h.cell dyv (by simpa using hqs), h.cell dcn (by simpa using hrs)⟩
                    clear hcc hx hst hlt hal2 hgj2 hbg hsn hsu hdr e5 HI HD4 HON4 hqs hrs yv hcn dyv dcn
                    go_upto_region 53 with fail
                    go_region_held3 (fun W => W.cell? ⟨q, k * 4 + 3, none⟩ = some (.slice (some ⟨sb2, 0, none⟩) L1 lc1) ∧ W.cell? ⟨rb, cc, none⟩ = some (.int .i64 x))
                      (first | exact hS2 | exact hS1 | exact hS0)
                      (fail)
                    all_goals
                      have HD6 := Lib.hid (HD5.out.same (Upd.refl [] _).drew)
                      have HON6 := Lib.hid (OwnI.upd HON5.out (Upd.refl [] _).drew (by simp))
                      clear hS0 hS1 hS2
                      go_wp2_with fail
                      go_roundw
                      case rel => exact ⟨j + 1, updF gs k 1 j x, by omega, by go_num, by rw [HC2.out]; go_num, by rw [HC2.out]; exact HS2.out, HD6.out, HON6.out⟩
                      case measure => simp [intOf]; omega

                ·
                  have hjL : j = L1 := by omega
                  have HC3 : Hid (baseF fs k 1 + refN ((rowF (fs.getD k default) 1).take j) = cntR fs (k + 1)) := by
                    refine Hid.mk ?_
                    rw [hjL, ← HL1.out, List.take_length, ← HB2.out, HB3.out]
                  rw [HC3.out] at HI ⊢
                  clear hjL y2 y3 e2
                  go_wp2_with fail
                  go_roundw
                  case rel => exact ⟨k + 1, gs, by omega, by go_num, rfl, HI.out, HD4.out, HON4.out⟩
                  case measure => simp [intOf]; omega
        ·
          have hkF : k = fs.length := by omega
          have hge : gs = fs' := by
            have h1 := HI.out
            rw [hkF] at h1
            exact h1.done HNL.out HR.out HAL.out HRO.out
          subst hge
          clear hkF
          go_wp2_with fail
          refine Met.intro (HJ.out _ _ ?_)
          exact ⟨_, n, words, _, _, ⟨HD3.out, HP.out.ok.alike HAL.out, by rw [← HAL.out.len]; omega, by omega⟩, fpF_eq (by kernel_rfl)⟩
end Go.Proofs.YtopojeanbpokaaaGreatDoor
