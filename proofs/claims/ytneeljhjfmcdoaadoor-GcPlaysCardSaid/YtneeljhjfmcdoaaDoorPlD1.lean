/- GcPlays: one thing of kind 1 is done. -/
import Derived.Test.YtneeljhjfmcdoaaDoorPlD
namespace Go.Proofs.YtneeljhjfmcdoaaDoor
open Go.RowKit

section
variable {w0 w : World} {xb : Nat} {L : HL} {hv hmv cv mv : Value} {cb co : Nat} {S : Hp} {rv ov nv : Value} {rs ts : List Int} {ps : List OP} {R : Int → Int → Prop} {kk : Nat}
set_option maxRecDepth 100000 in
set_option maxHeartbeats 16000000 in
theorem do1_any (h : PlAt w0 w xb L hv hmv cv mv cb co S rv ov nv rs ts ps) (hk : PlOk kk S R rs ts ps) (he : S.Even) (hkk : kk ≤ 80) (a b n v : Int) :
    Calls Tryd.prog 30 #[.pointer (some ⟨xb, 0, none⟩), .agg #[.int .i64 1, .int .i64 a, .int .i64 b, .int .i64 n, .int .i64 v]] w fun e w' => e = .returned (.bool true) ∧ PlEnd w0 xb hv hmv cv mv cb co (kk + 1) S.cs w' := by
  obtain ⟨i0, hi, hz0, hz1, hz2⟩ := info_parts Tryd.infoInt
  have HI := Lib.hid hi
  have HZ0 := Lib.hid hz0
  have HZ1 := Lib.hid hz1
  have HZ2 := Lib.hid hz2
  clear hi hz0 hz1 hz2
  have hud := (Upd.refl [] w).alloc (.cells #[.int .i64 1, .int .i64 a, .int .i64 b, .int .i64 n, .int .i64 v] 75)
  have hd0 := heap_alloc_new w (.cells #[.int .i64 1, .int .i64 a, .int .i64 b, .int .i64 n, .int .i64 v] 75)
  have HBX : Hid (xb < w.heap.size ∧ (∀ i ∈ L.all, i < w.heap.size)) := ⟨h.lt, h.gc.hi⟩
  have HNW := Lib.hid h.new
  obtain ⟨cp, cc, hcve⟩ := h.cls.shape
  subst hcve
  obtain ⟨pr, cr, hre⟩ := ownI_shape h.rt
  subst hre
  obtain ⟨po, pc, hoe⟩ := h.ob.form
  subst hoe
  obtain ⟨pn, cn, hne⟩ := ownI_shape h.nm
  subst hne
  have hrl := hk.fewr
  have htl : ts.length = rs.length := hk.rt.1.symm
  have hpl := hk.few
  have hS := h.gc.hp.ok
  have hfew := hS.few
  have HP1 := Lib.hid (h.upd hud)
  have HK := Lib.hid hk
  have HE := Lib.hid he
  have HSK := Lib.hid hS
  have hcn : -2 ≤ (0 : Int) := by omega
  clear h hk he hS hud hcn
  have HD := Lib.hid hd0
  have d0 := cell_of hd0 0
  have d1 := cell_of hd0 1
  have d2 := cell_of hd0 2
  have d3 := cell_of hd0 3
  have d4 := cell_of hd0 4
  clear hd0
  obtain ⟨x0, x1, x2, x3, x4, x5⟩ := HP1.out.cells
  go_enter Tryd.func30, Tryd.ntmps30
  have dk1 : ((1 : Int) == 1) = true := rfl
  have hwr : IntKind.i64.wrap ((S.cs.length : Int) + 2) = (S.cs.length : Int) + 2 := IntWalk.i64_in _ (by omega)
  have hq0 := Int.emod_nonneg a (show ((S.cs.length : Int) + 2) ≠ 0 by omega)
  have hq1 := Int.emod_lt_of_pos a (show (0 : Int) < (S.cs.length : Int) + 2 by omega)
  have hz0 := Int.emod_nonneg n (show (16 : Int) ≠ 0 by omega)
  have hz1 := Int.emod_lt_of_pos n (show (0 : Int) < 16 by omega)
  go_wp2_with fail
  generalize w.alloc (.cells #[.int .i64 1, .int .i64 a, .int .i64 b, .int .i64 n, .int .i64 v] 75) = w1 at HP1 HD d0 d1 d2 d3 d4 x0 x1 x2 x3 x4 x5 ⊢
  go_still_tail 9, (by kernel_rfl)
  change wpList _ _ _ _ _ w1.drew
  have hu2 : Upd [] w1 w1.drew := (Upd.refl _ _).drew
  have HP2 := Lib.hid (HP1.out.upd hu2)
  have hd2 := hu2.heap HD.out (by simp)
  clear HP1 HD d0 d1 d2 d3 d4 x0 x1 x2 x3 x4 x5 hwr
  generalize w1.drew = w2 at HP2 hd2 ⊢
  clear hu2
  have d3 := cell_of hd2 3
  obtain ⟨x0, x1, x2, x3, x4, x5⟩ := HP2.out.cells
  clear hd2
  go_wp2_with fail
  refine (number_any a ((S.cs.length : Int) + 2) w2 (by omega) (by omega)).mono ?_
  rintro e w' ⟨rfl, rfl⟩
  generalize a % ((S.cs.length : Int) + 2) = q at hq0 hq1 ⊢
  have e15 := and_15 n
  go_wp2_with fail
  clear e15 d3
  generalize n % 16 = nn at hz0 hz1 ⊢
  have hu3 : Upd [] w2 w2.drew := (Upd.refl _ _).drew
  have HP3 := Lib.hid (HP2.out.upd hu3)
  have z2 := hu3.cell x2 (by simp)
  have z3 := hu3.cell x3 (by simp)
  have hxl : xb ∉ L.own := fun hm => (HP2.out.ap _ (HL.sub hm)).1 rfl
  obtain ⟨-, rb, hpr, hcr⟩ := own_arg3 HP3.out.rt
  have HM := Lib.hid (make_any w0 L hv hmv S (q - 2) nn pr cr rb rs w2.drew HP3.out.gc (by omega) hpr hcr (HP3.out.gc.rng (HK.out.rt.roots HK.out.bd)))
  clear hpr hcr
  go_region_held3 (fun w' => w'.cell? ⟨xb, 2, none⟩ = some (.pointer (some ⟨L.hb, 0, none⟩)) ∧ w'.cell? ⟨xb, 3, none⟩ = some (.slice pr rs.length cr))
    (first | exact ⟨k0, k1⟩ | exact ⟨z2, z3⟩ | exact ⟨x2, x3⟩)
    ((go_at_call 32; refine HM.out.mono ?_; rintro e w5 ⟨vv, L2, r, rs', is, S', u, rfl, hme⟩; obtain ⟨rfl, hown, hmade, hg5, hb5, hs5, hu5, hcb5⟩ := hme; have k0 := hu5.cell z2 hxl; have k1 := hu5.cell z3 hxl))
  clear x0 x1 x2 x3 x4 x5 z2 z3 k0 k1 hu3 HP2
  obtain ⟨hl5, hcs5, hbn5, hout⟩ := pl_made HK.out.bd HSK.out HP3.out.gc.inv HP3.out.gc.hp.bg.2.2.2.1 HE.out HK.out.rt (c := q - 2) (n := nn) (by omega) (by omega) hmade hg5.hp.bg.2.2.2.1
  have hp5 := HP3.out.heap hu5 hg5 hb5 hs5 hcs5
  have hx3 : xb < w2.drew.heap.size := HP3.out.lt
  have hap5 : ∀ i ∈ L2.all, u.ownBlock ≠ some i := fun i hi e => hg5.freeAll hown (by rw [hcb5]; exact HP3.out.gc.hi _ (by simp [HL.all])) i e hi
  have hp6 := hp5.roots (row_base hown (by omega)) hap5
  obtain ⟨p5, c5, rfl⟩ := ownI_shape hown
  have y3 := hp5.cells.2.2.2.1
  have z3 := froz_of hp5.x 3
  have HP6 := Lib.hid hp6
  have HCS := Lib.hid hcs5
  have HBN := Lib.hid hbn5
  have HLE := Lib.hid hl5
  have hq2 : -2 ≤ q - 2 ∧ q - 2 < S'.cs.length := by rw [hcs5]; omega
  clear hown hmade hg5 hb5 hs5 hu5 hcb5 hp5 hp6 hap5 HM hcs5 hbn5
  rw [hl5] at HP6 ⊢
  clear hl5
  rcases hout with ⟨rfl, R', hbd, hrt⟩ | ⟨rfl, rfl, R', hbd, hrt, hroom⟩
  · as_aux_lemma =>
    have HBD := Lib.hid hbd
    have HRT := Lib.hid hrt
    clear hbd hrt
    go_wp2_with fail
    generalize w5.setCell ⟨xb, 3, none⟩ (.slice p5 rs.length c5) = w6 at HP6 ⊢
    clear y3 z3
    obtain ⟨-, rb, hpr, hcr⟩ := own_arg3 HP6.out.rt
    have hri := rints_any p5 c5 rb rs' w6 (by have := HLE.out; omega) (hpr.imp And.left id) hcr
    rw [HLE.out] at hri
    have HRI := Lib.hid hri
    clear hri hpr hcr
    refine HRI.out.mono ?_
    rintro e w7 ⟨u7, rfl, ho7, hu7⟩
    obtain ⟨p7, c7, rfl⟩ := ownI_shape ho7
    have HO7 := Lib.hid ho7
    have HU7 := Lib.hid hu7
    clear ho7 hu7 HRI
    rw [HLE.out]
    go_wp2_with (at_builtin; refine stop_here ?_)
    refine Hid.mk ?_
    have hcn := cell_of (heap_alloc_new w7 (.cells #[.int .i64 r] 3))
    have hO8 := HO7.out
    rw [OwnI, HLE.out] at hO8
    have hsz := HU7.out.size
    refine (wpList_append_own _ rfl _ _ 22 rfl w6.heap.size 3 i0 (.int .i64 0) 1 8 Tryd.underlying22 HI.out HZ0.out HZ1.out HZ2.out rfl (by decide) _ _ _ rfl (hO8.alloc (.cells #[.int .i64 r] 3)) ⟨w7.heap.size, 0, none⟩ 1 1 [.int .i64 r] rfl rfl ?c1 ?c2 ?c3 ?c4 ?c5 ?c6)
    case c1 =>
      intro jj uu hjj
      rw [Addr.add_lit, Nat.zero_add, hcn]
      simpa using hjj
    case c2 => simp [Value.oneCell']
    case c3 => unfold maxLen; omega
    case c4 => omega
    case c5 => simp; omega
    case c6 =>
      intro v' w8 hown hgr _
      have hl := HLE.out
      have hu8 : Upd (Value.slice p7 rs.length c7).ownBlock.toList w7 w8 := ((Upd.refl _ w7).alloc (.cells #[.int .i64 r] 3)).grown hgr (fun q hq => .inl (Option.mem_toList.2 hq))
      have hO9 : OwnI w8 w6.heap.size 3 v' (rs' ++ [r]) := by
        unfold OwnI
        rw [List.length_append, List.map_append, hl]
        exact hown
      have hu68 : Upd [] w6 w8 := HU7.out.trans' hu8 (fun i hi hlt => by
        have h9 := HO7.out
        rw [hl] at h9
        have := (World.ownsRow.lt h9 i (Option.mem_toList.1 hi)).1
        omega)
      have hp8 := HP6.out.upd hu68
      have hx6 := HP6.out.lt
      have hp9 := hp8.roots (row_base hO9 (by omega)) (fun i hi e => by
        have h1 := (World.ownsRow.lt hO9 i e).1
        have h2 := HP6.out.gc.hi i hi
        omega)
      have y3 := hp8.cells.2.2.2.1
      have z3 := froz_of hp8.x 3
      have HP9 := Lib.hid hp9
      obtain ⟨g9, c9, rfl⟩ := ownsRow_succ hown
      have HOB := Lib.hid (object_any hp9 (q - 2) nn hq2.1 hq2.2 (by omega) (by have := HK.out.k; omega) (by have := HK.out.k; omega))
      clear hown hgr hu8 hO9 hO8 hu68 hp8 hp9 hcn HO7 HU7
      go_wp2_with fail
      refine HOB.out.mono ?_
      rintro e wA ⟨rfl, ov', nv', q', hPA, hq1', hq2'⟩
      rw [HCS.out] at hq2'
      have HEND : Hid (PlEnd w0 xb hv hmv (.slice cp S.cs.length cc) mv cb co (kk + 1) S.cs wA) := ⟨L2, S', R', _, _, _, _, _, _, hPA, HK.out.new hkk HSK.out HCS.out (by have := hq2.2; rw [HCS.out] at this; exact this) (by omega) HBD.out HRT.out HLE.out q' hq1' hq2', even_bnd HBN.out HE.out, HCS.out⟩
      clear hPA hq1' hq2' HOB y3 z3
      go_wp2_with fail
      go_ret
      exact ⟨rfl, HEND.out⟩
  · as_aux_lemma =>
    have hbn : S'.h0.to - S'.h0.fr = S.h0.to - S.h0.fr ∧ S'.y.to - S'.y.fr = S.y.to - S.y.fr := by
      have := HBN.out
      unfold Hp.bnd at this
      simp only [List.cons.injEq, and_true] at this
      omega
    have hbd2 := want_bd HSK.out (c := q - 2) (n := nn) (by omega) hz0
    have HOK := Lib.hid (HK.out.keep hkk HCS.out hbd hrt HLE.out)
    have HEV := Lib.hid (even_bnd HBN.out HE.out)
    clear hbd hrt
    go_upto_region 29 with fail
    generalize w5.setCell ⟨xb, 3, none⟩ (.slice p5 rs.length c5) = w6 at HP6 ⊢
    clear y3 z3
    obtain ⟨x0, x1, x2, x3, x4, x5⟩ := HP6.out.cells
    obtain ⟨pr', cr', e5, hsh⟩ := pl_shape HP6.out HOK.out
    rw [HLE.out] at e5 hsh
    injection e5 with e5 e6 e7
    subst e5 e7
    have HSH := Lib.hid hsh
    have hS' := HP6.out.gc.hp.ok
    have HWB := Lib.hid (shape_sizes hS' rs')
    have HWF := Lib.hid (shape_few S' hS' rs')
    have HSM := Lib.hid hS'.small
    have HFW : Hid (S'.cs.length ≤ 12) := hS'.few
    obtain ⟨g1, g2, g3, g4⟩ := hS'.sp0 1
    have eg : S'.sp 1 = S'.h0 := rfl
    rw [eg] at g1 g2 g3 g4
    have hlen' := hS'.len
    clear hsh hS' eg
    have hu6 : Upd [] w6 w6.drew := (Upd.refl _ _).drew
    have z2 := hu6.cell x2 (by simp)
    have z3 := hu6.cell x3 (by simp)
    go_wp2_with fail
    go_region_held3 (fun w' => w'.cell? ⟨xb, 2, none⟩ = some (.pointer (some ⟨L2.hb, 0, none⟩)) ∧ w'.cell? ⟨xb, 3, none⟩ = some (.slice p5 rs.length c5))
      (first | exact ⟨k0, k1⟩ | exact ⟨z2, z3⟩ | exact ⟨x2, x3⟩)
      ((go_at_call 21; refine (HSH.out _ hu6).mono ?_; rintro e w7 ⟨uv, av, ub, ac, ap, rfl, ho7, hu7, rfl⟩; have k0 := hu7.cell z2 (by simp); have k1 := hu7.cell z3 (by simp)))
    have HP7 := Lib.hid (HP6.out.upd (hu6.trans hu7))
    have HO7 := Lib.hid ho7
    clear x0 x1 x2 x3 x4 x5 z2 z3 k0 k1 hu6 hu7 ho7 HP6 HSH
    obtain ⟨x0, x1, x2, x3, x4, x5⟩ := HP7.out.cells
    have HSI := Lib.hid (size_any L2 hv hmv S' w7 HP7.out.gc.hp)
    rw [hbn.1, hbn.2] at HSI
    go_wp2_with fail
    refine HSI.out.mono ?_
    rintro e w8' ⟨rfl, n8, hw8⟩
    have hu8 := (Upd.refl [] w7).drewN n8
    rw [← hw8] at hu8
    obtain ⟨w8, rfl⟩ : ∃ w' : World, w' = w8' := ⟨_, rfl⟩
    have HP8 := Lib.hid (HP7.out.upd hu8)
    have HO8 := Lib.hid (HO7.out.upd hu8)
    clear hw8 hu8 HSI HP7 HO7 x0 x1 x2 x3 x4 x5
    obtain ⟨x0, x1, x2, x3, x4, x5⟩ := HP8.out.cells
    have HSI := Lib.hid (size_any L2 hv hmv S' w8 HP8.out.gc.hp)
    rw [hbn.1, hbn.2] at HSI
    go_wp2_with fail
    refine HSI.out.mono ?_
    rintro e w9' ⟨rfl, n9, hw9⟩
    have hu9 := (Upd.refl [] w8).drewN n9
    rw [← hw9] at hu9
    obtain ⟨w9, rfl⟩ : ∃ w' : World, w' = w9' := ⟨_, rfl⟩
    have HP9 := Lib.hid (HP8.out.upd hu9)
    have HO9 := Lib.hid (HO8.out.upd hu9)
    have hwb := wordsO_le12 (S'.shape rs').1 (fun o ho => (HWB.out o ho).2.2)
    have HWC : Hid (∀ w', Upd [] w9 w' → Calls Tryd.prog 61 #[.agg #[.slice cp S.cs.length cc, mv], .slice ub (S'.shape rs').1.length av] w' fun e w'' => e = .returned (.int .i64 (wordsO (S'.shape rs').1)) ∧ Upd [] w' w'') := fun w' hu => by
      exact words12_any (.slice cp S.cs.length cc) mv (.slice ub (S'.shape rs').1.length av) cb co S'.cs (S'.shape rs').1 w' (HP9.out.cls.upd hu (by simp)) (HO9.out.upd hu) (by have := HFW.out; omega) HSM.out HWB.out (by have := HWF.out; omega)
    have HWN : Hid (∀ w', Upd [] w9 w' → Calls Tryd.prog 34 #[.agg #[.slice cp S.cs.length cc, mv], .int .i64 (q - 2), .int .i64 nn] w' fun e w'' => e = .returned (.int .i64 (2 + wantN S.cs (q - 2) nn)) ∧ Upd [] w' w'') := fun w' hu => by
      have h9 := words3_any (.slice cp S.cs.length cc) mv cb co (q - 2) nn S'.cs w' (HP9.out.cls.upd hu (by simp)) hq2.2 (by have := HFW.out; omega) HSM.out hz0 (by omega)
      rw [HCS.out] at h9
      exact h9
    have hwl : ((S'.shape rs').1.length : Int) ≤ 65536 := by have := HWF.out; omega
    clear hw9 hu9 HSI HP8 HO8 HO9 x0 x1 x2 x3 x4 x5
    obtain ⟨x0, x1, x2, x3, x4, x5⟩ := HP9.out.cells
    generalize wordsO (S'.shape rs').1 = W at hroom hwb HWC
    generalize (S'.shape rs').1.length = wl at hwl hwb HWC ⊢
    generalize wantN S.cs (q - 2) nn = wn at hroom hbd2 HWN
    generalize S.h0.to - S.h0.fr = hf at hroom ⊢
    generalize S.y.to - S.y.fr = yf
    have hsum : IntKind.i64.wrap (W + (2 + wn)) = W + (2 + wn) := IntWalk.i64_in _ (by omega)
    have dgt : decide (W + (2 + wn) > hf) = true := decide_eq_true (by omega)
    have hu10 : Upd [] w9 w9.drew := (Upd.refl _ _).drew
    have z0 := hu10.cell x0 (by simp)
    have z1 := hu10.cell x1 (by simp)
    go_upto_region 33 with fail
    refine wp_region_noPanic ?_
    refine wp_region_held_drew (S := fun w' => w'.cell? ⟨xb, 0, none⟩ = some (.slice cp S.cs.length cc) ∧ w'.cell? ⟨xb, 1, none⟩ = some mv) (by kernel_rfl) ?_ (fun hHeld => ?_)
    · first | exact ⟨kb0, kb1⟩ | exact ⟨ka0, ka1⟩ | exact ⟨z0, z1⟩ | exact ⟨x0, x1⟩
    refine wpAnyH_take (i := 0) (oi := ?_) (v := ?_) ?_ (by kernel_rfl) (by kernel_rfl) (by kernel_rfl) (fun _ _ _ h => h) (Or.inl ⟨?_, ?_⟩) hHeld ?_
    rotate_left 2
    · simp only [List.getElem?_toArray, List.getElem?_cons_zero]; rfl
    · rfl
    · intro _ hSw; (try dsimp only at hSw); go_simp <;> with_reducible rfl
    (try simp only [Act.put, List.setIfInBounds_toArray, List.set_cons_zero, List.set_cons_succ])
    refine wpAnyH_take (i := 1) (oi := ?_) (v := ?_) ?_ (by kernel_rfl) (by kernel_rfl) (by kernel_rfl) (fun _ _ _ h => h) (Or.inl ⟨?_, ?_⟩) hHeld ?_
    rotate_left 2
    · simp only [List.getElem?_toArray, List.getElem?_cons_zero, List.getElem?_cons_succ]; rfl
    · rfl
    · intro _ hSw; (try dsimp only at hSw); go_simp <;> with_reducible rfl
    (try simp only [Act.put, List.setIfInBounds_toArray, List.set_cons_zero, List.set_cons_succ])
    refine wpAnyH_take (i := 2) (oi := ?_) (v := ?_) ?_ (by kernel_rfl) (by kernel_rfl) (by kernel_rfl) (fun _ _ _ h => h) (Or.inl ⟨?_, ?_⟩) hHeld ?_
    rotate_left 2
    · simp only [List.getElem?_toArray, List.getElem?_cons_zero, List.getElem?_cons_succ]; rfl
    · rfl
    · intro _ hSw; (try dsimp only at hSw); go_simp <;> with_reducible rfl
    (try simp only [Act.put, List.setIfInBounds_toArray, List.set_cons_zero, List.set_cons_succ])
    refine wpAnyH_take (i := 3) (oi := ?_) (v := ?_) ?_ (by kernel_rfl) (by kernel_rfl) (by kernel_rfl) (fun _ _ _ h => h) (Or.inl ⟨?_, ?_⟩) hHeld ?_
    rotate_left 2
    · simp only [List.getElem?_toArray, List.getElem?_cons_zero, List.getElem?_cons_succ]; rfl
    · rfl
    · intro _ hSw; (try dsimp only at hSw); go_simp <;> with_reducible rfl
    (try simp only [Act.put, List.setIfInBounds_toArray, List.set_cons_zero, List.set_cons_succ])
    refine wpAnyH_take (i := 4) (oi := ?_) (v := ?_) ?_ (by kernel_rfl) (by kernel_rfl) (by kernel_rfl) (fun _ _ _ h => h) (Or.inl ⟨?_, ?_⟩) hHeld ?_
    rotate_left 2
    · simp only [List.getElem?_toArray, List.getElem?_cons_zero, List.getElem?_cons_succ]; rfl
    · rfl
    · intro _ hSw; (try dsimp only at hSw); go_simp <;> with_reducible rfl
    (try simp only [Act.put, List.setIfInBounds_toArray, List.set_cons_zero, List.set_cons_succ])
    refine wpAnyH_take (i := 6) (oi := ?_) (v := ?_) ?_ (by kernel_rfl) (by kernel_rfl) (by kernel_rfl) (fun _ _ _ h => h) (Or.inl ⟨?_, ?_⟩) hHeld ?_
    rotate_left 2
    · simp only [List.getElem?_toArray, List.getElem?_cons_zero, List.getElem?_cons_succ]; rfl
    · rfl
    · intro _ hSw; (try dsimp only at hSw); go_simp <;> with_reducible rfl
    (try simp only [Act.put, List.setIfInBounds_toArray, List.set_cons_zero, List.set_cons_succ])
    refine wpAnyH_take (i := 7) (oi := ?_) (v := ?_) ?_ (by kernel_rfl) (by kernel_rfl) (by kernel_rfl) (fun _ _ _ h => h) (Or.inl ⟨?_, ?_⟩) hHeld ?_
    rotate_left 2
    · simp only [List.getElem?_toArray, List.getElem?_cons_zero, List.getElem?_cons_succ]; rfl
    · rfl
    · intro _ hSw; (try dsimp only at hSw); go_simp <;> with_reducible rfl
    (try simp only [Act.put, List.setIfInBounds_toArray, List.set_cons_zero, List.set_cons_succ])
    refine wpAnyH_take (i := 8) (oi := ?_) (v := ?_) ?_ (by kernel_rfl) (by kernel_rfl) (by kernel_rfl) (fun _ _ _ h => h) (Or.inl ⟨?_, ?_⟩) hHeld ?_
    rotate_left 2
    · simp only [List.getElem?_toArray, List.getElem?_cons_zero, List.getElem?_cons_succ]; rfl
    · rfl
    · intro _ hSw; (try dsimp only at hSw); go_simp <;> with_reducible rfl
    (try simp only [Act.put, List.setIfInBounds_toArray, List.set_cons_zero, List.set_cons_succ])
    refine wpAnyH_take (i := 9) (oi := ?_) (v := ?_) ?_ (by kernel_rfl) (by kernel_rfl) (by kernel_rfl) (fun _ _ _ h => h) (Or.inl ⟨?_, ?_⟩) hHeld ?_
    rotate_left 2
    · simp only [List.getElem?_toArray, List.getElem?_cons_zero, List.getElem?_cons_succ]; rfl
    · rfl
    · intro _ hSw; (try dsimp only at hSw); go_simp <;> with_reducible rfl
    (try simp only [Act.put, List.setIfInBounds_toArray, List.set_cons_zero, List.set_cons_succ])
    refine wpAnyH_take (i := 10) (oi := ?_) (v := ?_) ?_ (by kernel_rfl) (by kernel_rfl) (by kernel_rfl) (fun _ _ _ h => h) (Or.inl ⟨?_, ?_⟩) hHeld ?_
    rotate_left 2
    · simp only [List.getElem?_toArray, List.getElem?_cons_zero, List.getElem?_cons_succ]; rfl
    · rfl
    · intro _ hSw; (try dsimp only at hSw); go_simp <;> with_reducible rfl
    (try simp only [Act.put, List.setIfInBounds_toArray, List.set_cons_zero, List.set_cons_succ])
    refine wpAnyH_take (i := 11) (oi := ?_) (v := ?_) ?_ (by kernel_rfl) (by kernel_rfl) (by kernel_rfl) (fun _ _ _ h => h) (Or.inl ⟨?_, ?_⟩) hHeld ?_
    rotate_left 2
    · simp only [List.getElem?_toArray, List.getElem?_cons_zero, List.getElem?_cons_succ]; rfl
    · rfl
    · intro _ hSw; (try dsimp only at hSw); go_simp <;> with_reducible rfl
    (try simp only [Act.put, List.setIfInBounds_toArray, List.set_cons_zero, List.set_cons_succ])
    refine wpAnyH_take (i := 14) (oi := ?_) (v := ?_) ?_ (by kernel_rfl) (by kernel_rfl) (by kernel_rfl) (fun _ _ _ h => h) (Or.inl ⟨?_, ?_⟩) hHeld ?_
    rotate_left 2
    · simp only [List.getElem?_toArray, List.getElem?_cons_zero, List.getElem?_cons_succ]; rfl
    · rfl
    · intro _ hSw; (try dsimp only at hSw); go_simp <;> with_reducible rfl
    (try simp only [Act.put, List.setIfInBounds_toArray, List.set_cons_zero, List.set_cons_succ])
    refine wpAnyH_ready (rs := [5]) (by kernel_rfl) (by simp) ?_
    refine AllReadyH.cons (o := ?_) ?_ (fun K hK => ?_) AllReadyH.nil
    rotate_left 1
    · simp only [List.getElem?_toArray, List.getElem?_cons_zero, List.getElem?_cons_succ]; rfl
    clear hHeld
    go_simp
    (go_at_call 61; refine (HWC.out _ hu10).mono ?_; rintro e wA ⟨rfl, huA⟩; have hvA := hu10.trans huA; have ka0 := hvA.cell x0 (by simp); have ka1 := hvA.cell x1 (by simp))
    try go_wp2_with fail
    refine hK.out _ _ ?_ (fun hHeld => ?_)
    · first | exact ⟨kb0, kb1⟩ | exact ⟨ka0, ka1⟩ | exact ⟨z0, z1⟩ | exact ⟨x0, x1⟩
    clear hK K
    (try simp only [Act.put, List.setIfInBounds_toArray, List.set_cons_zero, List.set_cons_succ])
    refine wpAnyH_ready (rs := [12]) (by kernel_rfl) (by simp) ?_
    refine AllReadyH.cons (o := ?_) ?_ (fun K hK => ?_) AllReadyH.nil
    rotate_left 1
    · simp only [List.getElem?_toArray, List.getElem?_cons_zero, List.getElem?_cons_succ]; rfl
    clear hHeld
    go_simp
    (go_at_call 34; refine (HWN.out _ hvA).mono ?_; rintro e wB ⟨rfl, huB⟩; have hvB := hvA.trans huB; have kb0 := hvB.cell x0 (by simp); have kb1 := hvB.cell x1 (by simp))
    try go_wp2_with fail
    refine hK.out _ _ ?_ (fun hHeld => ?_)
    · first | exact ⟨kb0, kb1⟩ | exact ⟨ka0, ka1⟩ | exact ⟨z0, z1⟩ | exact ⟨x0, x1⟩
    clear hK K
    (try simp only [Act.put, List.setIfInBounds_toArray, List.set_cons_zero, List.set_cons_succ])
    refine wpAnyH_take (i := 13) (oi := ?_) (v := ?_) ?_ (by kernel_rfl) (by kernel_rfl) (by kernel_rfl) (fun _ _ _ h => h) (Or.inl ⟨?_, ?_⟩) hHeld ?_
    rotate_left 2
    · simp only [List.getElem?_toArray, List.getElem?_cons_zero, List.getElem?_cons_succ]; rfl
    · rfl
    · intro _ hSw; (try dsimp only at hSw); go_simp <;> with_reducible rfl
    (try simp only [Act.put, List.setIfInBounds_toArray, List.set_cons_zero, List.set_cons_succ])
    refine wpAnyH_take (i := 15) (oi := ?_) (v := ?_) ?_ (by kernel_rfl) (by kernel_rfl) (by kernel_rfl) (fun _ _ _ h => h) (Or.inl ⟨?_, ?_⟩) hHeld ?_
    rotate_left 2
    · simp only [List.getElem?_toArray, List.getElem?_cons_zero, List.getElem?_cons_succ]; rfl
    · rfl
    · intro _ hSw; (try dsimp only at hSw); go_simp <;> with_reducible rfl
    (try simp only [Act.put, List.setIfInBounds_toArray, List.set_cons_zero, List.set_cons_succ])
    refine wpAnyH_take (i := 16) (oi := ?_) (v := ?_) ?_ (by kernel_rfl) (by kernel_rfl) (by kernel_rfl) (fun _ _ _ h => h) (Or.inl ⟨?_, ?_⟩) hHeld ?_
    rotate_left 2
    · simp only [List.getElem?_toArray, List.getElem?_cons_zero, List.getElem?_cons_succ]; rfl
    · rfl
    · intro _ hSw; (try dsimp only at hSw); go_simp <;> with_reducible rfl
    (try simp only [Act.put, List.setIfInBounds_toArray, List.set_cons_zero, List.set_cons_succ])
    refine wpAnyH_take (i := 17) (oi := ?_) (v := undef) ?_ (by kernel_rfl) (by kernel_rfl) (by kernel_rfl) (fun _ _ _ h => h) (Or.inr ⟨?_, rfl⟩) hHeld ?_
    rotate_left 1
    · simp only [List.getElem?_toArray, List.getElem?_cons_zero, List.getElem?_cons_succ]; rfl
    · rfl
    (try simp only [Act.put, List.setIfInBounds_toArray, List.set_cons_zero, List.set_cons_succ])
    refine wpAnyH_take (i := 18) (oi := ?_) (v := undef) ?_ (by kernel_rfl) (by kernel_rfl) (by kernel_rfl) (fun _ _ _ h => h) (Or.inr ⟨?_, rfl⟩) hHeld ?_
    rotate_left 1
    · simp only [List.getElem?_toArray, List.getElem?_cons_zero, List.getElem?_cons_succ]; rfl
    · rfl
    (try simp only [Act.put, List.setIfInBounds_toArray, List.set_cons_zero, List.set_cons_succ])
    refine wpAnyH_take (i := 19) (oi := ?_) (v := undef) ?_ (by kernel_rfl) (by kernel_rfl) (by kernel_rfl) (fun _ _ _ h => h) (Or.inr ⟨?_, rfl⟩) hHeld ?_
    rotate_left 1
    · simp only [List.getElem?_toArray, List.getElem?_cons_zero, List.getElem?_cons_succ]; rfl
    · rfl
    (try simp only [Act.put, List.setIfInBounds_toArray, List.set_cons_zero, List.set_cons_succ])
    refine wpAnyH_take (i := 20) (oi := ?_) (v := undef) ?_ (by kernel_rfl) (by kernel_rfl) (by kernel_rfl) (fun _ _ _ h => h) (Or.inr ⟨?_, rfl⟩) hHeld ?_
    rotate_left 1
    · simp only [List.getElem?_toArray, List.getElem?_cons_zero, List.getElem?_cons_succ]; rfl
    · rfl
    (try simp only [Act.put, List.setIfInBounds_toArray, List.set_cons_zero, List.set_cons_succ])
    refine wpAnyH_take (i := 21) (oi := ?_) (v := undef) ?_ (by kernel_rfl) (by kernel_rfl) (by kernel_rfl) (fun _ _ _ h => h) (Or.inr ⟨?_, rfl⟩) hHeld ?_
    rotate_left 1
    · simp only [List.getElem?_toArray, List.getElem?_cons_zero, List.getElem?_cons_succ]; rfl
    · rfl
    (try simp only [Act.put, List.setIfInBounds_toArray, List.set_cons_zero, List.set_cons_succ])
    refine wpAnyH_take (i := 22) (oi := ?_) (v := undef) ?_ (by kernel_rfl) (by kernel_rfl) (by kernel_rfl) (fun _ _ _ h => h) (Or.inr ⟨?_, rfl⟩) hHeld ?_
    rotate_left 1
    · simp only [List.getElem?_toArray, List.getElem?_cons_zero, List.getElem?_cons_succ]; rfl
    · rfl
    (try simp only [Act.put, List.setIfInBounds_toArray, List.set_cons_zero, List.set_cons_succ])
    refine wpAnyH_take (i := 23) (oi := ?_) (v := undef) ?_ (by kernel_rfl) (by kernel_rfl) (by kernel_rfl) (fun _ _ _ h => h) (Or.inr ⟨?_, rfl⟩) hHeld ?_
    rotate_left 1
    · simp only [List.getElem?_toArray, List.getElem?_cons_zero, List.getElem?_cons_succ]; rfl
    · rfl
    (try simp only [Act.put, List.setIfInBounds_toArray, List.set_cons_zero, List.set_cons_succ])
    refine wpAnyH_take (i := 24) (oi := ?_) (v := undef) ?_ (by kernel_rfl) (by kernel_rfl) (by kernel_rfl) (fun _ _ _ h => h) (Or.inr ⟨?_, rfl⟩) hHeld ?_
    rotate_left 1
    · simp only [List.getElem?_toArray, List.getElem?_cons_zero, List.getElem?_cons_succ]; rfl
    · rfl
    (try simp only [Act.put, List.setIfInBounds_toArray, List.set_cons_zero, List.set_cons_succ])
    refine wpAnyH_take (i := 25) (oi := ?_) (v := undef) ?_ (by kernel_rfl) (by kernel_rfl) (by kernel_rfl) (fun _ _ _ h => h) (Or.inr ⟨?_, rfl⟩) hHeld ?_
    rotate_left 1
    · simp only [List.getElem?_toArray, List.getElem?_cons_zero, List.getElem?_cons_succ]; rfl
    · rfl
    (try simp only [Act.put, List.setIfInBounds_toArray, List.set_cons_zero, List.set_cons_succ])
    refine wpAnyH_take (i := 26) (oi := ?_) (v := undef) ?_ (by kernel_rfl) (by kernel_rfl) (by kernel_rfl) (fun _ _ _ h => h) (Or.inr ⟨?_, rfl⟩) hHeld ?_
    rotate_left 1
    · simp only [List.getElem?_toArray, List.getElem?_cons_zero, List.getElem?_cons_succ]; rfl
    · rfl
    (try simp only [Act.put, List.setIfInBounds_toArray, List.set_cons_zero, List.set_cons_succ])
    refine wpAnyH_take (i := 27) (oi := ?_) (v := ?_) ?_ (by kernel_rfl) (by kernel_rfl) (by kernel_rfl) (fun _ _ _ h => h) (Or.inl ⟨?_, ?_⟩) hHeld ?_
    rotate_left 2
    · simp only [List.getElem?_toArray, List.getElem?_cons_zero, List.getElem?_cons_succ]; rfl
    · rfl
    · intro _ hSw; (try dsimp only at hSw); go_simp <;> with_reducible rfl
    (try simp only [Act.put, List.setIfInBounds_toArray, List.set_cons_zero, List.set_cons_succ])
    refine wpAnyH_take (i := 28) (oi := ?_) (v := ?_) ?_ (by kernel_rfl) (by kernel_rfl) (by kernel_rfl) (fun _ _ _ h => h) (Or.inl ⟨?_, ?_⟩) hHeld ?_
    rotate_left 2
    · simp only [List.getElem?_toArray, List.getElem?_cons_zero, List.getElem?_cons_succ]; rfl
    · rfl
    · intro _ hSw; (try dsimp only at hSw); go_simp <;> with_reducible rfl
    (try simp only [Act.put, List.setIfInBounds_toArray, List.set_cons_zero, List.set_cons_succ])
    refine wpAnyH_done (by kernel_rfl) ?_ _
    refine NoPanic.normal ?_
    have HPE := Lib.hid (HP9.out.upd hvB)
    clear hu10 hvA hvB huA huB ka0 ka1 kb0 kb1 x0 x1 z0 z1 HWC HWN HP9
    go_wp2_with fail
    go_ret
    exact ⟨rfl, L2, S', R', _, _, _, _, _, _, HPE.out, HOK.out, HEV.out, HCS.out⟩
end
end Go.Proofs.YtneeljhjfmcdoaaDoor
