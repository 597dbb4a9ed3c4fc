/- FramesPlay: a value is laid. -/
import Derived.Test.YtopojeanbpokaaaGreatDoorFwI
/-! FramesPlay: a value is laid. -/
namespace Go.Proofs.YtopojeanbpokaaaGreatDoor
open Go.RowKit
set_option maxRecDepth 1000000 in
set_option maxHeartbeats 16000000 in
theorem kind5 {E : Nat → Addr} {p : Prg} {ss : List Lk} {w wA W0 wd : World} {ib pb xb xd : Nat} {lim ask t : Int} {a0 a1 a2 la wp lp : Option Addr} {c0 c1 n2 c2 nl lc i wc lcc : Nat} {n words : Int} {fs : List Fr} {ws : List FrV} {kd da dby xn : Int} {xr : Bool} {dl : List Slt} {f : Nat → Value} {J K' : Act → World → Prop} {Q' : Exit → Act → World → Prop}
    (hC : FpC E p ss w wA W0 ib pb xb lim a0 a1 a2 c0 c1 n2 c2) (hP : PlF p ss wA W0 wd ib lim i n words (.slice wp fs.length wc) fs ws) (hD : FpD wA W0 wd xd kd da dby xr xn lp lcc dl) (_hi : i < nl) (_hn : nl ≤ 60)
    (h19 : f 19 = .pointer (some ⟨xd, 0, none⟩)) (h20 : f 20 = .int .i64 t) (ht : t + 1 = (fs.length : Int)) (h132 : f 132 = .int .i64 kd) (hkd : kd = 5)
    (hJ : ∀ a' w', FpR p ss wA W0 lim la nl lc ask pb xb ib i a' w' → J a' w') (hK : ∀ a' w', Met J a' w' → K' a' w') :
    swC.wp Tryz.prog (Exit.then K' Q') (fpF lim la nl lc ask pb xb ib W0.heap.size (.slice wp fs.length wc) (.int .i64 words) (.int .i64 i) f) wd := by
  subst hkd
  have HC := Lib.hid hC
  have HP := Lib.hid hP
  have HJ := Lib.hid hJ
  have HD := Lib.hid hD
  obtain ⟨b0, b1, b2, b3, b4, b5⟩ := hD.cells (Upd.refl [] wd)
  have hfew := hP.few
  have hcnt := hP.cnt
  clear hC hP hD hJ b0 b1 b2 b5
  unfold fpF
  rw [h19, h20, h132]
  conv => arg 2; whnf
  obtain ⟨i0, hi0, hz0, hz1, hz2⟩ := info_parts Tryz.infoSlot
  have HI := Lib.hid hi0
  have HZ0 := Lib.hid hz0
  have HZ1 := Lib.hid hz1
  have HZ2 := Lib.hid hz2
  clear hi0 hz0 hz1 hz2
  rcases List.eq_nil_or_concat fs with rfl | ⟨gs, g, rfl⟩
  · obtain rfl : t = -1 := by simp at ht; omega
    cases xr with
    | true =>
      as_aux_lemma =>
        have HPO := Lib.hid (duo_lay_none ⟨true, xn⟩ HP.out.duo)
        go_wp2_with fail
        refine HPO.out.mono ?_
        rintro e w2 ⟨rfl, hu2⟩
        have HP2 : Hid (PlF p ss wA W0 w2 ib lim (i + 1) n words (.slice wp ([] : List Fr).length wc) [] ws) := ⟨HP.out.duo.same hu2, HP.out.ok, by simp, by omega⟩
        clear hu2 HPO HP
        go_wp2_with fail
        refine Met.intro (HJ.out _ _ ?_)
        exact ⟨_, n, words, [], ws, HP2.out, fpF_eq (by kernel_rfl)⟩
    | false =>
      as_aux_lemma =>
        have HPO := Lib.hid (duo_lay_none ⟨false, xn⟩ HP.out.duo)
        go_wp2_with fail
        refine HPO.out.mono ?_
        rintro e w2 ⟨rfl, hu2⟩
        have HP2 : Hid (PlF p ss wA W0 w2 ib lim (i + 1) n words (.slice wp ([] : List Fr).length wc) [] ws) := ⟨HP.out.duo.same hu2, HP.out.ok, by simp, by omega⟩
        clear hu2 HPO HP
        go_wp2_with fail
        refine Met.intro (HJ.out _ _ ?_)
        exact ⟨_, n, words, [], ws, HP2.out, fpF_eq (by kernel_rfl)⟩
  · rw [List.concat_eq_append] at *
    obtain rfl : t = (gs.length : Int) := by simp at ht; omega
    have hgl : (gs ++ [g]).length = gs.length + 1 := by simp
    rw [hgl] at HP hfew ⊢
    obtain ⟨ws2, gv, rfl, hwl⟩ := vs_split2 (n := gs.length) (vs := ws) (by rw [HP.out.duo.wr.len]; simp)
    have hd : decide ((0 : Int) ≤ (gs.length : Int)) = true := decide_eq_true (by omega)
    have h0i : (0 : Int) ≤ (gs.length : Int) := by omega
    have h1i : (gs.length : Int) < (gs.length : Int) + 1 := by omega
    have HF := Lib.hid HP.out.ok
    have hg12 := HP.out.ok.last.stk
    obtain ⟨q, wc', e1, _, hqb, _, _, _, y3⟩ := wtop_at HP.out.duo.wr hwl
    injection e1 with e1 e2 e3
    subst e1 e3
    obtain ⟨sp, sc, hsv⟩ : ∃ sp sc, gv.sv = .slice sp g.stk.length sc := by
      have h3 := HP.out.duo.wr.stk gs.length (by simp)
      rw [getD_snoc_eq] at h3
      rw [show (ws2 ++ [gv]).getD gs.length default = gv by rw [← hwl]; exact getD_snoc_eq _ _ _] at h3
      exact h3.shape
    have HGV := Lib.hid hsv
    rw [hsv] at y3
    have HDU := Lib.hid HP.out.duo
    clear ht e2 hsv HP
    by_cases hs : g.stk.length < 12
    · have hd2 : decide ((g.stk.length : Int) < 12) = true := decide_eq_true (by omega)
      have hd3 : decide (g.stk.length < 12) = true := decide_eq_true hs
      cases xr with
      | false =>
       as_aux_lemma =>
        have HPO := Lib.hid (duo_lay ⟨false, xn⟩ HDU.out hs (fun h => by cases h))
        go_wp2_with fail
        refine HPO.out.mono ?_
        rintro e w2 ⟨rfl, hd2, hk2⟩
        obtain ⟨y0, _, _, y3, fz⟩ := hd2.wr.top hwl
        obtain ⟨_, _, _, x3, x4, _⟩ := (HD.out.keep hk2).cells (Upd.refl [] _)
        have hos : OwnSl w2 (W0.heap.size + 1) gv.sv g.stk := by
          have h3 := hd2.wr.stk gs.length (by simp)
          rw [getD_snoc_eq] at h3
          rw [show (ws2 ++ [gv]).getD gs.length default = gv by rw [← hwl]; exact getD_snoc_eq _ _ _] at h3
          exact h3
        have HOS := Lib.hid hos
        rw [HGV.out] at y3 HOS
        have HD2 := Lib.hid hd2
        have HD2K := Lib.hid (HD.out.keep hk2)
        clear hd2 hk2 HPO hos fz y0
        go_upto_region 110 with fail
        have hdr := (Upd.refl [] w2).drew
        have hal := (Upd.refl [] w2.drew).alloc (.cells #[.bool false, .int .i64 xn] 44)
        have dx3 := hdr.cell x3 (by simp)
        have dx4 := hdr.cell x4 (by simp)
        have dy3 := hdr.cell y3 (by simp)
        have ax3 := hal.cell dx3 (by simp)
        have ax4 := hal.cell dx4 (by simp)
        have ay3 := hal.cell dy3 (by simp)
        have bl := (Upd.refl [] w2).alloc (.cells #[.bool false, .int .i64 xn] 44)
        have bx3 := bl.cell x3 (by simp)
        have bx4 := bl.cell x4 (by simp)
        have by3 := bl.cell y3 (by simp)
        clear bl
        have HROW : Hid ((w2.drew.alloc (.cells #[.bool false, .int .i64 xn] 44)).ownsRow (W0.heap.size + 1) 44 2 (.slice sp g.stk.length sc) g.stk.length (slcells g.stk)) := row_upd HOS.out (hdr.trans hal) (by simp)
        have HD3 := Lib.hid (HD2.out.same hdr)
        have hsbl : W0.heap.size < w2.heap.size := by
          obtain ⟨_, _, _, _, h1, _⟩ := HD2.out
          exact lt_of_heap h1.st.box
        have hbxd := (HD2K.out).bx
        have hne : xd ∉ (Value.slice sp g.stk.length sc).ownBlock.toList := fun hm => own_heap_ne HOS.out hbxd (by decide) (Option.mem_toList.1 hm)
        have hqx : xd ≠ q := by
          obtain ⟨_, c9, h9⟩ := HD2.out.wr.blk
          exact heap_ne hbxd h9 (by decide)
        clear hdr hal HD2 HOS hbxd HD2K
        refine wp_region_noPanic ?_
        refine wp_region_held_drew (S := fun W => W.cell? ⟨xd, 3, none⟩ = some (.bool false) ∧ W.cell? ⟨xd, 4, none⟩ = some (.int .i64 xn)) (by kernel_rfl) ?_ (fun hHeld => ?_)
        · first | exact ⟨s3f _, s4f _⟩ | exact ⟨s3, s4⟩ | exact ⟨ax3, ax4⟩ | exact ⟨dx3, dx4⟩ | exact ⟨x3, x4⟩
        refine wpAnyH_take (i := 0) (oi := ?_) (v := ?_) ?_ (by kernel_rfl) (by kernel_rfl) (by kernel_rfl) (fun _ _ _ h => h) (Or.inl ⟨?_, ?_⟩) hHeld ?_
        rotate_left 2
        · simp only [List.getElem?_toArray, List.getElem?_cons_zero]; rfl
        · rfl
        · intro _ hSw; (try dsimp only at hSw); go_simp <;> with_reducible rfl
        (try simp only [Act.put, List.setIfInBounds_toArray, List.set_cons_zero, List.set_cons_succ])
        refine wpAnyH_take (i := 1) (oi := ?_) (v := ?_) ?_ (by kernel_rfl) (by kernel_rfl) (by kernel_rfl) (fun _ _ _ h => h) (Or.inl ⟨?_, ?_⟩) hHeld ?_
        rotate_left 2
        · simp only [List.getElem?_toArray, List.getElem?_cons_zero, List.getElem?_cons_succ]; rfl
        · rfl
        · intro _ hSw; (try dsimp only at hSw); go_simp <;> with_reducible rfl
        (try simp only [Act.put, List.setIfInBounds_toArray, List.set_cons_zero, List.set_cons_succ])
        refine wpAnyH_take (i := 2) (oi := ?_) (v := ?_) ?_ (by kernel_rfl) (by kernel_rfl) (by kernel_rfl) (fun _ _ _ h => h) (Or.inl ⟨?_, ?_⟩) hHeld ?_
        rotate_left 2
        · simp only [List.getElem?_toArray, List.getElem?_cons_zero, List.getElem?_cons_succ]; rfl
        · rfl
        · intro _ hSw; (try dsimp only at hSw); go_simp <;> with_reducible rfl
        (try simp only [Act.put, List.setIfInBounds_toArray, List.set_cons_zero, List.set_cons_succ])
        refine wpAnyH_take (i := 3) (oi := ?_) (v := ?_) ?_ (by kernel_rfl) (by kernel_rfl) (by kernel_rfl) (fun _ _ _ h => h) (Or.inl ⟨?_, ?_⟩) hHeld ?_
        rotate_left 2
        · simp only [List.getElem?_toArray, List.getElem?_cons_zero, List.getElem?_cons_succ]; rfl
        · rfl
        · intro _ hSw; (try dsimp only at hSw); go_simp <;> with_reducible rfl
        (try simp only [Act.put, List.setIfInBounds_toArray, List.set_cons_zero, List.set_cons_succ])
        refine wpAnyH_take (i := 4) (oi := ?_) (v := ?_) ?_ (by kernel_rfl) (by kernel_rfl) (by kernel_rfl) (fun _ _ _ h => h) (Or.inl ⟨?_, ?_⟩) hHeld ?_
        rotate_left 2
        · simp only [List.getElem?_toArray, List.getElem?_cons_zero, List.getElem?_cons_succ]; rfl
        · rfl
        · intro _ hSw; (try dsimp only at hSw); go_simp <;> with_reducible rfl
        (try simp only [Act.put, List.setIfInBounds_toArray, List.set_cons_zero, List.set_cons_succ])
        refine wpAnyH_take (i := 5) (oi := ?_) (v := ?_) ?_ (by kernel_rfl) (by kernel_rfl) (by kernel_rfl) (fun _ _ _ h => h) (Or.inl ⟨?_, ?_⟩) hHeld ?_
        rotate_left 2
        · simp only [List.getElem?_toArray, List.getElem?_cons_zero, List.getElem?_cons_succ]; rfl
        · rfl
        · intro _ hSw; (try dsimp only at hSw); go_simp <;> with_reducible rfl
        (try simp only [Act.put, List.setIfInBounds_toArray, List.set_cons_zero, List.set_cons_succ])
        refine wpAnyH_take (i := 7) (oi := ?_) (v := ?_) ?_ (by kernel_rfl) (by kernel_rfl) (by kernel_rfl) (fun _ _ _ h => h) (Or.inl ⟨?_, ?_⟩) hHeld ?_
        rotate_left 2
        · simp only [List.getElem?_toArray, List.getElem?_cons_zero, List.getElem?_cons_succ]; rfl
        · rfl
        · intro _ hSw; (try dsimp only at hSw); go_simp <;> with_reducible rfl
        (try simp only [Act.put, List.setIfInBounds_toArray, List.set_cons_zero, List.set_cons_succ])
        refine wpAnyH_take (i := 8) (oi := ?_) (v := ?_) ?_ (by kernel_rfl) (by kernel_rfl) (by kernel_rfl) (fun _ _ _ h => h) (Or.inl ⟨?_, ?_⟩) hHeld ?_
        rotate_left 2
        · simp only [List.getElem?_toArray, List.getElem?_cons_zero, List.getElem?_cons_succ]; rfl
        · rfl
        · intro _ hSw; (try dsimp only at hSw); go_simp <;> with_reducible rfl
        (try simp only [Act.put, List.setIfInBounds_toArray, List.set_cons_zero, List.set_cons_succ])
        refine wpAnyH_ready (rs := [6, 9]) (by kernel_rfl) (by simp) ?_
        refine (AllReadyH.cons (o := ?o6) ?ho6 (fun K hK => ?w6) (AllReadyH.cons (o := ?o9) ?ho9 (fun K hK => ?w9) AllReadyH.nil))
        case ho6 => (simp only [List.getElem?_toArray, List.getElem?_cons_zero, List.getElem?_cons_succ]; rfl)
        case ho9 => (simp only [List.getElem?_toArray, List.getElem?_cons_zero, List.getElem?_cons_succ]; rfl)
        case' w6 =>
          clear hHeld
          go_simp
          refine hK.out _ _ ?_ (fun hHeld => ?_)
          · first | exact ⟨s3f _, s4f _⟩ | exact ⟨s3, s4⟩ | exact ⟨ax3, ax4⟩ | exact ⟨dx3, dx4⟩ | exact ⟨x3, x4⟩
          clear hK K
          (try simp only [Act.put, List.setIfInBounds_toArray, List.set_cons_zero, List.set_cons_succ])
          refine wpAnyH_ready (rs := [9]) (by kernel_rfl) (by simp) ?_
          refine AllReadyH.cons (o := ?_) ?_ (fun K hK => ?_) AllReadyH.nil
          rotate_left 1
          · simp only [List.getElem?_toArray, List.getElem?_cons_zero, List.getElem?_cons_succ]; rfl
          clear hHeld
          go_simp
          refine hK.out _ _ ?_ (fun hHeld => ?_)
          · first | exact ⟨s3f _, s4f _⟩ | exact ⟨s3, s4⟩ | exact ⟨ax3, ax4⟩ | exact ⟨dx3, dx4⟩ | exact ⟨x3, x4⟩
          clear hK K
          (try simp only [Act.put, List.setIfInBounds_toArray, List.set_cons_zero, List.set_cons_succ])
        case' w9 =>
          clear hHeld
          go_simp
          refine hK.out _ _ ?_ (fun hHeld => ?_)
          · first | exact ⟨s3f _, s4f _⟩ | exact ⟨s3, s4⟩ | exact ⟨ax3, ax4⟩ | exact ⟨dx3, dx4⟩ | exact ⟨x3, x4⟩
          clear hK K
          (try simp only [Act.put, List.setIfInBounds_toArray, List.set_cons_zero, List.set_cons_succ])
          refine wpAnyH_ready (rs := [6]) (by kernel_rfl) (by simp) ?_
          refine AllReadyH.cons (o := ?_) ?_ (fun K hK => ?_) AllReadyH.nil
          rotate_left 1
          · simp only [List.getElem?_toArray, List.getElem?_cons_zero, List.getElem?_cons_succ]; rfl
          clear hHeld
          go_simp
          refine hK.out _ _ ?_ (fun hHeld => ?_)
          · first | exact ⟨s3f _, s4f _⟩ | exact ⟨s3, s4⟩ | exact ⟨ax3, ax4⟩ | exact ⟨dx3, dx4⟩ | exact ⟨x3, x4⟩
          clear hK K
          (try simp only [Act.put, List.setIfInBounds_toArray, List.set_cons_zero, List.set_cons_succ])
        all_goals
          refine wpAnyH_ready (rs := [10]) (by kernel_rfl) (by simp) ?_
          refine AllReadyH.cons (o := ?_) ?_ (fun K hK => ?_) AllReadyH.nil
          rotate_left 1
          · simp only [List.getElem?_toArray, List.getElem?_cons_zero, List.getElem?_cons_succ]; rfl
          clear hHeld
          (refine step_append_own_at rfl (.tmp 531) (.tmp 534) 45 rfl (W0.heap.size + 1) 44 i0 (.agg #[.bool false, .int .i64 0]) 2 16 Tryz.underlying45 HI.out HZ0.out HZ1.out HZ2.out rfl (by decide) (.slice sp g.stk.length sc) g.stk.length (slcells g.stk) rfl HROW.out ⟨w2.heap.size, 0, none⟩ 1 1 [.bool false, .int .i64 xn] rfl rfl (slot_new w2.drew ⟨false, xn⟩) (by simp [Value.oneCell']) (by unfold maxLen; omega) (by omega) (by simp; omega) ?_; intro v' w6 hown' hgrow hat; obtain ⟨gn, cn, rfl⟩ := ownsRow_succ hown'; obtain ⟨hfr6, hup6⟩ := WrsAt.lay ⟨false, xn⟩ HD3.out.wr hown' (by rw [HGV.out]; exact hgrow) (by rw [HGV.out]; exact hat); obtain ⟨cur6, hcur6⟩ := wlay_cell HD3.out.wr (by rw [HGV.out]; exact hgrow); have z3 := hcur6.2; rw [HGV.out] at z3; have fz := froz_of hcur6.1 (gs.length * 4 + 3); have HF6 := Lib.hid hfr6; have HP6 := Lib.hid hup6; have HAT6 := Lib.hid hat; have hu6 := ((Upd.refl (Value.slice sp g.stk.length sc).ownBlock.toList w2.drew).alloc _).grown hgrow (fun z hz => Or.inl (Option.mem_toList.2 hz)); have s3 := hu6.cell dx3 hne; have s4 := hu6.cell dx4 hne; have s3f := fun v => ((Upd.refl [q] w6).setCell (p := ⟨q, gs.length * 4 + 3, none⟩) (Or.inl (by simp)) v).cell s3 (by simpa using hqx); have s4f := fun v => ((Upd.refl [q] w6).setCell (p := ⟨q, gs.length * 4 + 3, none⟩) (Or.inl (by simp)) v).cell s4 (by simpa using hqx); clear hown' hgrow hat hfr6 hup6 hcur6 hu6)
          refine hK.out _ _ ?_ (fun hHeld => ?_)
          · first | exact ⟨s3f _, s4f _⟩ | exact ⟨s3, s4⟩ | exact ⟨ax3, ax4⟩ | exact ⟨dx3, dx4⟩ | exact ⟨x3, x4⟩
          clear hK K
          (try simp only [Act.put, List.setIfInBounds_toArray, List.set_cons_zero, List.set_cons_succ])
          refine wpAnyH_take (i := 11) (oi := ?_) (v := ?_) ?_ (by kernel_rfl) (by kernel_rfl) (by kernel_rfl) (fun _ _ _ h => h) (Or.inl ⟨?_, ?_⟩) hHeld ?_
          rotate_left 2
          · simp only [List.getElem?_toArray, List.getElem?_cons_zero, List.getElem?_cons_succ]; rfl
          · rfl
          · intro _ hSw; (try dsimp only at hSw); go_simp <;> with_reducible rfl
          (try simp only [Act.put, List.setIfInBounds_toArray, List.set_cons_zero, List.set_cons_succ])
          refine wpAnyH_take (i := 12) (oi := ?_) (v := ?_) ?_ (by kernel_rfl) (by kernel_rfl) (by kernel_rfl) (fun _ _ _ h => h) (Or.inl ⟨?_, ?_⟩) hHeld ?_
          rotate_left 2
          · simp only [List.getElem?_toArray, List.getElem?_cons_zero, List.getElem?_cons_succ]; rfl
          · rfl
          · intro _ hSw; (try dsimp only at hSw); go_simp <;> with_reducible rfl
          (try simp only [Act.put, List.setIfInBounds_toArray, List.set_cons_zero, List.set_cons_succ])
          refine wpAnyH_ready (rs := [13]) (by kernel_rfl) (by simp) ?_
          refine AllReadyH.cons (o := ?_) ?_ (fun K hK => ?_) AllReadyH.nil
          rotate_left 1
          · simp only [List.getElem?_toArray, List.getElem?_cons_zero, List.getElem?_cons_succ]; rfl
          clear hHeld
          go_simp
          refine hK.out _ _ ?_ (fun hHeld => ?_)
          · first | exact ⟨s3f _, s4f _⟩ | exact ⟨s3, s4⟩ | exact ⟨ax3, ax4⟩ | exact ⟨dx3, dx4⟩ | exact ⟨x3, x4⟩
          clear hK K
          (try simp only [Act.put, List.setIfInBounds_toArray, List.set_cons_zero, List.set_cons_succ])
          refine wpAnyH_done (by kernel_rfl) ?_ _
          refine NoPanic.normal ?_
        all_goals
          go_wp2_with fail
          refine Met.intro (HJ.out _ _ ?_)
          have hnew := HAT6.out
          have hsv := HGV.out
          refine ⟨_, n, words, gs ++ [{ g with stk := g.stk ++ [⟨false, xn⟩] }], ws2 ++ [⟨gv.lv, .slice (some ⟨gn, 0, none⟩) (g.stk.length + 1) cn⟩], ⟨HD3.out.law HP6.out HF6.out (fun t ht => ?_) (fun j hj b hb => ?_), HF.out.init.snoc (HF.out.last.same rfl rfl (by simp; omega)), by simp; omega, by omega⟩, fpF_eq (by kernel_rfl)⟩
          · rcases List.mem_append.1 ht with ht | ht
            · exact .inr (.inl ⟨gs.length, by simp, by rw [← hwl]; exact snoc_has2 (.inr (Option.mem_toList.1 ht))⟩)
            · rw [List.mem_singleton] at ht
              subst ht
              exact .inl rfl
          · have hlast : ∀ c, gv.has c → ∃ k, k < (gs ++ [g]).length ∧ ((ws2 ++ [gv]).getD k default).has c := fun c hc => ⟨gs.length, by simp, by rw [← hwl]; exact snoc_has2 hc⟩
            rcases has_snoc (by simp at hj; omega) hb with ⟨k, hk, h7⟩ | h7
            · exact .inr ⟨k, by simp; omega, snoc_has hk h7⟩
            · rcases h7 with h7 | h7
              · exact .inr (hlast b (.inl h7))
              · rcases hnew with h8 | h8
                · exact .inr (hlast b (.inr (by rw [hsv]; exact h8.symm.trans h7)))
                · have h10 := h8.symm.trans h7
                  injection h10 with h10
                  simp at h10 ⊢
                  exact .inl (by omega)
      | true =>
        by_cases hxn : 0 ≤ xn
        ·
          as_aux_lemma =>
          have hd4 : decide (0 ≤ xn) = true := decide_eq_true hxn
          have HPO := Lib.hid (duo_lay ⟨true, xn⟩ HDU.out hs (fun _ => hxn))
          go_wp2_with fail
          refine HPO.out.mono ?_
          rintro e w2 ⟨rfl, hd2, hk2⟩
          obtain ⟨y0, _, _, y3, fz⟩ := hd2.wr.top hwl
          obtain ⟨_, _, _, x3, x4, _⟩ := (HD.out.keep hk2).cells (Upd.refl [] _)
          have hos : OwnSl w2 (W0.heap.size + 1) gv.sv g.stk := by
            have h3 := hd2.wr.stk gs.length (by simp)
            rw [getD_snoc_eq] at h3
            rw [show (ws2 ++ [gv]).getD gs.length default = gv by rw [← hwl]; exact getD_snoc_eq _ _ _] at h3
            exact h3
          have HOS := Lib.hid hos
          rw [HGV.out] at y3 HOS
          have HD2 := Lib.hid hd2
          have HD2K := Lib.hid (HD.out.keep hk2)
          clear hd2 hk2 HPO hos fz y0
          go_upto_region 110 with fail
          have hdr := (Upd.refl [] w2).drew
          have hal := (Upd.refl [] w2.drew).alloc (.cells #[.bool true, .int .i64 xn] 44)
          have dx3 := hdr.cell x3 (by simp)
          have dx4 := hdr.cell x4 (by simp)
          have dy3 := hdr.cell y3 (by simp)
          have ax3 := hal.cell dx3 (by simp)
          have ax4 := hal.cell dx4 (by simp)
          have ay3 := hal.cell dy3 (by simp)
          have bl := (Upd.refl [] w2).alloc (.cells #[.bool true, .int .i64 xn] 44)
          have bx3 := bl.cell x3 (by simp)
          have bx4 := bl.cell x4 (by simp)
          have by3 := bl.cell y3 (by simp)
          clear bl
          have HROW : Hid ((w2.drew.alloc (.cells #[.bool true, .int .i64 xn] 44)).ownsRow (W0.heap.size + 1) 44 2 (.slice sp g.stk.length sc) g.stk.length (slcells g.stk)) := row_upd HOS.out (hdr.trans hal) (by simp)
          have HD3 := Lib.hid (HD2.out.same hdr)
          have hsbl : W0.heap.size < w2.heap.size := by
            obtain ⟨_, _, _, _, h1, _⟩ := HD2.out
            exact lt_of_heap h1.st.box
          have hbxd := (HD2K.out).bx
          have hne : xd ∉ (Value.slice sp g.stk.length sc).ownBlock.toList := fun hm => own_heap_ne HOS.out hbxd (by decide) (Option.mem_toList.1 hm)
          have hqx : xd ≠ q := by
            obtain ⟨_, c9, h9⟩ := HD2.out.wr.blk
            exact heap_ne hbxd h9 (by decide)
          clear hdr hal HD2 HOS hbxd HD2K
          refine wp_region_noPanic ?_
          refine wp_region_held_drew (S := fun W => W.cell? ⟨xd, 3, none⟩ = some (.bool true) ∧ W.cell? ⟨xd, 4, none⟩ = some (.int .i64 xn)) (by kernel_rfl) ?_ (fun hHeld => ?_)
          · first | exact ⟨s3f _, s4f _⟩ | exact ⟨s3, s4⟩ | exact ⟨ax3, ax4⟩ | exact ⟨dx3, dx4⟩ | exact ⟨x3, x4⟩
          refine wpAnyH_take (i := 0) (oi := ?_) (v := ?_) ?_ (by kernel_rfl) (by kernel_rfl) (by kernel_rfl) (fun _ _ _ h => h) (Or.inl ⟨?_, ?_⟩) hHeld ?_
          rotate_left 2
          · simp only [List.getElem?_toArray, List.getElem?_cons_zero]; rfl
          · rfl
          · intro _ hSw; (try dsimp only at hSw); go_simp <;> with_reducible rfl
          (try simp only [Act.put, List.setIfInBounds_toArray, List.set_cons_zero, List.set_cons_succ])
          refine wpAnyH_take (i := 1) (oi := ?_) (v := ?_) ?_ (by kernel_rfl) (by kernel_rfl) (by kernel_rfl) (fun _ _ _ h => h) (Or.inl ⟨?_, ?_⟩) hHeld ?_
          rotate_left 2
          · simp only [List.getElem?_toArray, List.getElem?_cons_zero, List.getElem?_cons_succ]; rfl
          · rfl
          · intro _ hSw; (try dsimp only at hSw); go_simp <;> with_reducible rfl
          (try simp only [Act.put, List.setIfInBounds_toArray, List.set_cons_zero, List.set_cons_succ])
          refine wpAnyH_take (i := 2) (oi := ?_) (v := ?_) ?_ (by kernel_rfl) (by kernel_rfl) (by kernel_rfl) (fun _ _ _ h => h) (Or.inl ⟨?_, ?_⟩) hHeld ?_
          rotate_left 2
          · simp only [List.getElem?_toArray, List.getElem?_cons_zero, List.getElem?_cons_succ]; rfl
          · rfl
          · intro _ hSw; (try dsimp only at hSw); go_simp <;> with_reducible rfl
          (try simp only [Act.put, List.setIfInBounds_toArray, List.set_cons_zero, List.set_cons_succ])
          refine wpAnyH_take (i := 3) (oi := ?_) (v := ?_) ?_ (by kernel_rfl) (by kernel_rfl) (by kernel_rfl) (fun _ _ _ h => h) (Or.inl ⟨?_, ?_⟩) hHeld ?_
          rotate_left 2
          · simp only [List.getElem?_toArray, List.getElem?_cons_zero, List.getElem?_cons_succ]; rfl
          · rfl
          · intro _ hSw; (try dsimp only at hSw); go_simp <;> with_reducible rfl
          (try simp only [Act.put, List.setIfInBounds_toArray, List.set_cons_zero, List.set_cons_succ])
          refine wpAnyH_take (i := 4) (oi := ?_) (v := ?_) ?_ (by kernel_rfl) (by kernel_rfl) (by kernel_rfl) (fun _ _ _ h => h) (Or.inl ⟨?_, ?_⟩) hHeld ?_
          rotate_left 2
          · simp only [List.getElem?_toArray, List.getElem?_cons_zero, List.getElem?_cons_succ]; rfl
          · rfl
          · intro _ hSw; (try dsimp only at hSw); go_simp <;> with_reducible rfl
          (try simp only [Act.put, List.setIfInBounds_toArray, List.set_cons_zero, List.set_cons_succ])
          refine wpAnyH_take (i := 5) (oi := ?_) (v := ?_) ?_ (by kernel_rfl) (by kernel_rfl) (by kernel_rfl) (fun _ _ _ h => h) (Or.inl ⟨?_, ?_⟩) hHeld ?_
          rotate_left 2
          · simp only [List.getElem?_toArray, List.getElem?_cons_zero, List.getElem?_cons_succ]; rfl
          · rfl
          · intro _ hSw; (try dsimp only at hSw); go_simp <;> with_reducible rfl
          (try simp only [Act.put, List.setIfInBounds_toArray, List.set_cons_zero, List.set_cons_succ])
          refine wpAnyH_take (i := 7) (oi := ?_) (v := ?_) ?_ (by kernel_rfl) (by kernel_rfl) (by kernel_rfl) (fun _ _ _ h => h) (Or.inl ⟨?_, ?_⟩) hHeld ?_
          rotate_left 2
          · simp only [List.getElem?_toArray, List.getElem?_cons_zero, List.getElem?_cons_succ]; rfl
          · rfl
          · intro _ hSw; (try dsimp only at hSw); go_simp <;> with_reducible rfl
          (try simp only [Act.put, List.setIfInBounds_toArray, List.set_cons_zero, List.set_cons_succ])
          refine wpAnyH_take (i := 8) (oi := ?_) (v := ?_) ?_ (by kernel_rfl) (by kernel_rfl) (by kernel_rfl) (fun _ _ _ h => h) (Or.inl ⟨?_, ?_⟩) hHeld ?_
          rotate_left 2
          · simp only [List.getElem?_toArray, List.getElem?_cons_zero, List.getElem?_cons_succ]; rfl
          · rfl
          · intro _ hSw; (try dsimp only at hSw); go_simp <;> with_reducible rfl
          (try simp only [Act.put, List.setIfInBounds_toArray, List.set_cons_zero, List.set_cons_succ])
          refine wpAnyH_ready (rs := [6, 9]) (by kernel_rfl) (by simp) ?_
          refine (AllReadyH.cons (o := ?o6_2) ?ho6_2 (fun K hK => ?w6_2) (AllReadyH.cons (o := ?o9_2) ?ho9_2 (fun K hK => ?w9_2) AllReadyH.nil))
          case ho6_2 => (simp only [List.getElem?_toArray, List.getElem?_cons_zero, List.getElem?_cons_succ]; rfl)
          case ho9_2 => (simp only [List.getElem?_toArray, List.getElem?_cons_zero, List.getElem?_cons_succ]; rfl)
          case' w6_2 =>
            clear hHeld
            go_simp
            refine hK.out _ _ ?_ (fun hHeld => ?_)
            · first | exact ⟨s3f _, s4f _⟩ | exact ⟨s3, s4⟩ | exact ⟨ax3, ax4⟩ | exact ⟨dx3, dx4⟩ | exact ⟨x3, x4⟩
            clear hK K
            (try simp only [Act.put, List.setIfInBounds_toArray, List.set_cons_zero, List.set_cons_succ])
            refine wpAnyH_ready (rs := [9]) (by kernel_rfl) (by simp) ?_
            refine AllReadyH.cons (o := ?_) ?_ (fun K hK => ?_) AllReadyH.nil
            rotate_left 1
            · simp only [List.getElem?_toArray, List.getElem?_cons_zero, List.getElem?_cons_succ]; rfl
            clear hHeld
            go_simp
            refine hK.out _ _ ?_ (fun hHeld => ?_)
            · first | exact ⟨s3f _, s4f _⟩ | exact ⟨s3, s4⟩ | exact ⟨ax3, ax4⟩ | exact ⟨dx3, dx4⟩ | exact ⟨x3, x4⟩
            clear hK K
            (try simp only [Act.put, List.setIfInBounds_toArray, List.set_cons_zero, List.set_cons_succ])
          case' w9_2 =>
            clear hHeld
            go_simp
            refine hK.out _ _ ?_ (fun hHeld => ?_)
            · first | exact ⟨s3f _, s4f _⟩ | exact ⟨s3, s4⟩ | exact ⟨ax3, ax4⟩ | exact ⟨dx3, dx4⟩ | exact ⟨x3, x4⟩
            clear hK K
            (try simp only [Act.put, List.setIfInBounds_toArray, List.set_cons_zero, List.set_cons_succ])
            refine wpAnyH_ready (rs := [6]) (by kernel_rfl) (by simp) ?_
            refine AllReadyH.cons (o := ?_) ?_ (fun K hK => ?_) AllReadyH.nil
            rotate_left 1
            · simp only [List.getElem?_toArray, List.getElem?_cons_zero, List.getElem?_cons_succ]; rfl
            clear hHeld
            go_simp
            refine hK.out _ _ ?_ (fun hHeld => ?_)
            · first | exact ⟨s3f _, s4f _⟩ | exact ⟨s3, s4⟩ | exact ⟨ax3, ax4⟩ | exact ⟨dx3, dx4⟩ | exact ⟨x3, x4⟩
            clear hK K
            (try simp only [Act.put, List.setIfInBounds_toArray, List.set_cons_zero, List.set_cons_succ])
          all_goals
            refine wpAnyH_ready (rs := [10]) (by kernel_rfl) (by simp) ?_
            refine AllReadyH.cons (o := ?_) ?_ (fun K hK => ?_) AllReadyH.nil
            rotate_left 1
            · simp only [List.getElem?_toArray, List.getElem?_cons_zero, List.getElem?_cons_succ]; rfl
            clear hHeld
            (refine step_append_own_at rfl (.tmp 531) (.tmp 534) 45 rfl (W0.heap.size + 1) 44 i0 (.agg #[.bool false, .int .i64 0]) 2 16 Tryz.underlying45 HI.out HZ0.out HZ1.out HZ2.out rfl (by decide) (.slice sp g.stk.length sc) g.stk.length (slcells g.stk) rfl HROW.out ⟨w2.heap.size, 0, none⟩ 1 1 [.bool true, .int .i64 xn] rfl rfl (slot_new w2.drew ⟨true, xn⟩) (by simp [Value.oneCell']) (by unfold maxLen; omega) (by omega) (by simp; omega) ?_; intro v' w6 hown' hgrow hat; obtain ⟨gn, cn, rfl⟩ := ownsRow_succ hown'; obtain ⟨hfr6, hup6⟩ := WrsAt.lay ⟨true, xn⟩ HD3.out.wr hown' (by rw [HGV.out]; exact hgrow) (by rw [HGV.out]; exact hat); obtain ⟨cur6, hcur6⟩ := wlay_cell HD3.out.wr (by rw [HGV.out]; exact hgrow); have z3 := hcur6.2; rw [HGV.out] at z3; have fz := froz_of hcur6.1 (gs.length * 4 + 3); have HF6 := Lib.hid hfr6; have HP6 := Lib.hid hup6; have HAT6 := Lib.hid hat; have hu6 := ((Upd.refl (Value.slice sp g.stk.length sc).ownBlock.toList w2.drew).alloc _).grown hgrow (fun z hz => Or.inl (Option.mem_toList.2 hz)); have s3 := hu6.cell dx3 hne; have s4 := hu6.cell dx4 hne; have s3f := fun v => ((Upd.refl [q] w6).setCell (p := ⟨q, gs.length * 4 + 3, none⟩) (Or.inl (by simp)) v).cell s3 (by simpa using hqx); have s4f := fun v => ((Upd.refl [q] w6).setCell (p := ⟨q, gs.length * 4 + 3, none⟩) (Or.inl (by simp)) v).cell s4 (by simpa using hqx); clear hown' hgrow hat hfr6 hup6 hcur6 hu6)
            refine hK.out _ _ ?_ (fun hHeld => ?_)
            · first | exact ⟨s3f _, s4f _⟩ | exact ⟨s3, s4⟩ | exact ⟨ax3, ax4⟩ | exact ⟨dx3, dx4⟩ | exact ⟨x3, x4⟩
            clear hK K
            (try simp only [Act.put, List.setIfInBounds_toArray, List.set_cons_zero, List.set_cons_succ])
            refine wpAnyH_take (i := 11) (oi := ?_) (v := ?_) ?_ (by kernel_rfl) (by kernel_rfl) (by kernel_rfl) (fun _ _ _ h => h) (Or.inl ⟨?_, ?_⟩) hHeld ?_
            rotate_left 2
            · simp only [List.getElem?_toArray, List.getElem?_cons_zero, List.getElem?_cons_succ]; rfl
            · rfl
            · intro _ hSw; (try dsimp only at hSw); go_simp <;> with_reducible rfl
            (try simp only [Act.put, List.setIfInBounds_toArray, List.set_cons_zero, List.set_cons_succ])
            refine wpAnyH_take (i := 12) (oi := ?_) (v := ?_) ?_ (by kernel_rfl) (by kernel_rfl) (by kernel_rfl) (fun _ _ _ h => h) (Or.inl ⟨?_, ?_⟩) hHeld ?_
            rotate_left 2
            · simp only [List.getElem?_toArray, List.getElem?_cons_zero, List.getElem?_cons_succ]; rfl
            · rfl
            · intro _ hSw; (try dsimp only at hSw); go_simp <;> with_reducible rfl
            (try simp only [Act.put, List.setIfInBounds_toArray, List.set_cons_zero, List.set_cons_succ])
            refine wpAnyH_ready (rs := [13]) (by kernel_rfl) (by simp) ?_
            refine AllReadyH.cons (o := ?_) ?_ (fun K hK => ?_) AllReadyH.nil
            rotate_left 1
            · simp only [List.getElem?_toArray, List.getElem?_cons_zero, List.getElem?_cons_succ]; rfl
            clear hHeld
            go_simp
            refine hK.out _ _ ?_ (fun hHeld => ?_)
            · first | exact ⟨s3f _, s4f _⟩ | exact ⟨s3, s4⟩ | exact ⟨ax3, ax4⟩ | exact ⟨dx3, dx4⟩ | exact ⟨x3, x4⟩
            clear hK K
            (try simp only [Act.put, List.setIfInBounds_toArray, List.set_cons_zero, List.set_cons_succ])
            refine wpAnyH_done (by kernel_rfl) ?_ _
            refine NoPanic.normal ?_
          all_goals
            go_wp2_with fail
            refine Met.intro (HJ.out _ _ ?_)
            have hnew := HAT6.out
            have hsv := HGV.out
            refine ⟨_, n, words, gs ++ [{ g with stk := g.stk ++ [⟨true, xn⟩] }], ws2 ++ [⟨gv.lv, .slice (some ⟨gn, 0, none⟩) (g.stk.length + 1) cn⟩], ⟨HD3.out.law HP6.out HF6.out (fun t ht => ?_) (fun j hj b hb => ?_), HF.out.init.snoc (HF.out.last.same rfl rfl (by simp; omega)), by simp; omega, by omega⟩, fpF_eq (by kernel_rfl)⟩
            · rcases List.mem_append.1 ht with ht | ht
              · exact .inr (.inl ⟨gs.length, by simp, by rw [← hwl]; exact snoc_has2 (.inr (Option.mem_toList.1 ht))⟩)
              · rw [List.mem_singleton] at ht
                subst ht
                exact .inl rfl
            · have hlast : ∀ c, gv.has c → ∃ k, k < (gs ++ [g]).length ∧ ((ws2 ++ [gv]).getD k default).has c := fun c hc => ⟨gs.length, by simp, by rw [← hwl]; exact snoc_has2 hc⟩
              rcases has_snoc (by simp at hj; omega) hb with ⟨k, hk, h7⟩ | h7
              · exact .inr ⟨k, by simp; omega, snoc_has hk h7⟩
              · rcases h7 with h7 | h7
                · exact .inr (hlast b (.inl h7))
                · rcases hnew with h8 | h8
                  · exact .inr (hlast b (.inr (by rw [hsv]; exact h8.symm.trans h7)))
                  · have h10 := h8.symm.trans h7
                    injection h10 with h10
                    simp at h10 ⊢
                    exact .inl (by omega)
        ·
          as_aux_lemma =>
          have hd4 : decide (0 ≤ xn) = false := decide_eq_false hxn
          have HPO := Lib.hid (duo_lay_no ⟨true, xn⟩ HDU.out hg12 (fun h => hxn (h.2 rfl)))
          go_wp2_with fail
          refine HPO.out.mono ?_
          rintro e w2 ⟨rfl, hu2⟩
          have HP2 : Hid (PlF p ss wA W0 w2 ib lim (i + 1) n words (.slice (some ⟨q, 0, none⟩) (gs.length + 1) wc) (gs ++ [g]) (ws2 ++ [gv])) := ⟨HDU.out.same hu2, HF.out, by rw [hgl]; omega, by omega⟩
          clear hu2 HPO
          go_wp2_with fail
          refine Met.intro (HJ.out _ _ ?_)
          exact ⟨_, n, words, _, _, HP2.out, fpF_eq (by kernel_rfl)⟩
    ·
      have hd2 : decide ((g.stk.length : Int) < 12) = false := decide_eq_false (by omega)
      have hd3 : decide (g.stk.length < 12) = false := decide_eq_false hs
      cases xr with
      | false =>
       as_aux_lemma =>
        have HPO := Lib.hid (duo_lay_no ⟨false, xn⟩ HDU.out hg12 (fun h => hs h.1))
        go_wp2_with fail
        refine HPO.out.mono ?_
        rintro e w2 ⟨rfl, hu2⟩
        have HP2 : Hid (PlF p ss wA W0 w2 ib lim (i + 1) n words (.slice (some ⟨q, 0, none⟩) (gs.length + 1) wc) (gs ++ [g]) (ws2 ++ [gv])) := ⟨HDU.out.same hu2, HF.out, by rw [hgl]; omega, by omega⟩
        clear hu2 HPO
        go_wp2_with fail
        refine Met.intro (HJ.out _ _ ?_)
        exact ⟨_, n, words, _, _, HP2.out, fpF_eq (by kernel_rfl)⟩
      | true =>
       as_aux_lemma =>
        have HPO := Lib.hid (duo_lay_no ⟨true, xn⟩ HDU.out hg12 (fun h => hs h.1))
        go_wp2_with fail
        refine HPO.out.mono ?_
        rintro e w2 ⟨rfl, hu2⟩
        have HP2 : Hid (PlF p ss wA W0 w2 ib lim (i + 1) n words (.slice (some ⟨q, 0, none⟩) (gs.length + 1) wc) (gs ++ [g]) (ws2 ++ [gv])) := ⟨HDU.out.same hu2, HF.out, by rw [hgl]; omega, by omega⟩
        clear hu2 HPO
        go_wp2_with fail
        refine Met.intro (HJ.out _ _ ?_)
        exact ⟨_, n, words, _, _, HP2.out, fpF_eq (by kernel_rfl)⟩
end Go.Proofs.YtopojeanbpokaaaGreatDoor
