/- GcPlays: a collection. -/
import Derived.Test.YtneeljhjfmcdoaaDoorPlD
namespace Go.Proofs.YtneeljhjfmcdoaaDoor
open Go.RowKit

section
variable {w0 w : World} {xb : Nat} {L : HL} {hv hmv cv mv : Value} {cb co : Nat} {S : Hp} {rv ov nv : Value} {rs ts : List Int} {ps : List OP} {R : Int → Int → Prop} {kk : Nat}
set_option maxRecDepth 100000 in
set_option maxHeartbeats 16000000 in
theorem do4_any (h : PlAt w0 w xb L hv hmv cv mv cb co S rv ov nv rs ts ps) (hk : PlOk kk S R rs ts ps) (he : S.Even) (hkk : kk ≤ 80) (kd a b n v : Int) (hk1 : ¬ kd = 1) (hk2 : ¬ kd = 2) (hk3 : ¬ kd = 3) :
    Calls Tryd.prog 30 #[.pointer (some ⟨xb, 0, none⟩), .agg #[.int .i64 kd, .int .i64 a, .int .i64 b, .int .i64 n, .int .i64 v]] w fun e w' => e = .returned (.bool true) ∧ PlEnd w0 xb hv hmv cv mv cb co (kk + 1) S.cs w' := by
  obtain ⟨i0, hi, hz0, hz1, hz2⟩ := info_parts Tryd.infoInt
  have HI := Lib.hid hi
  have HZ0 := Lib.hid hz0
  have HZ1 := Lib.hid hz1
  have HZ2 := Lib.hid hz2
  clear hi hz0 hz1 hz2
  have hud := (Upd.refl [] w).alloc (.cells #[.int .i64 kd, .int .i64 a, .int .i64 b, .int .i64 n, .int .i64 v] 75)
  have hd0 := heap_alloc_new w (.cells #[.int .i64 kd, .int .i64 a, .int .i64 b, .int .i64 n, .int .i64 v] 75)
  have HBX : Hid (xb < w.heap.size ∧ (∀ i ∈ L.all, i < w.heap.size)) := ⟨h.lt, h.gc.hi⟩
  have HNW := Lib.hid h.new
  obtain ⟨cp, cc, hcve⟩ := h.cls.shape
  subst hcve
  obtain ⟨pr, cr, hre⟩ := ownI_shape h.rt
  subst hre
  obtain ⟨po, pc, hoe⟩ := h.ob.form
  subst hoe
  obtain ⟨pn, cn, hne⟩ := ownI_shape h.nm
  subst hne
  have hrl := hk.fewr
  have htl : ts.length = rs.length := hk.rt.1.symm
  have hpl := hk.few
  have hS := h.gc.hp.ok
  have hfew := hS.few
  have HP1 := Lib.hid (h.upd hud)
  have HK := Lib.hid hk
  have HE := Lib.hid he
  have HSK := Lib.hid hS
  have hcn : -2 ≤ (0 : Int) := by omega
  clear h hk he hS hud hcn
  have HD := Lib.hid hd0
  have d0 := cell_of hd0 0
  have d1 := cell_of hd0 1
  have d2 := cell_of hd0 2
  have d3 := cell_of hd0 3
  have d4 := cell_of hd0 4
  clear hd0
  obtain ⟨x0, x1, x2, x3, x4, x5⟩ := HP1.out.cells
  go_enter Tryd.func30, Tryd.ntmps30
  have dk1 : (kd == 1) = false := by simpa using hk1
  have dk2 : (kd == 2) = false := by simpa using hk2
  have dk3 : (kd == 3) = false := by simpa using hk3
  have HRO := Lib.hid (hroom_any L hv hmv S _ HP1.out.gc.hp)
  obtain ⟨y1, y2, y3', y4⟩ := HSK.out.sp0 0
  have ey : S.sp 0 = S.y := rfl
  rw [ey] at y1 y2 y3' y4
  obtain ⟨o1, o2, o3, o4⟩ := HSK.out.sp0 S.oldK
  rw [sp_oldK] at o1 o2 o3 o4
  obtain ⟨p1, p2, p3, p4⟩ := HSK.out.sp0 1
  have ep : S.sp 1 = S.h0 := rfl
  rw [ep] at p1 p2 p3 p4
  have hal := HSK.out.len
  clear ey ep
  go_wp2_with fail
  generalize w.alloc (.cells #[.int .i64 kd, .int .i64 a, .int .i64 b, .int .i64 n, .int .i64 v] 75) = w1 at HP1 HD HRO d0 d1 d2 d3 d4 x0 x1 x2 x3 x4 x5 ⊢
  refine HRO.out.mono ?_
  rintro e w2' ⟨rfl, n2, hw2⟩
  have hu2 := (Upd.refl [] w1).drewN n2
  rw [← hw2] at hu2
  obtain ⟨w2, rfl⟩ : ∃ w' : World, w' = w2' := ⟨_, rfl⟩
  have HP2 := Lib.hid (HP1.out.upd hu2)
  have HD2 := Lib.hid (hu2.heap HD.out (by simp))
  clear hw2 hu2 HRO HP1 HD x0 x1 x2 x3 x4 x5 d0 d1 d2 d3 d4
  obtain ⟨x0, x1, x2, x3, x4, x5⟩ := HP2.out.cells
  have HSI := Lib.hid (size_any L hv hmv S w2 HP2.out.gc.hp)
  go_wp2_with fail
  refine HSI.out.mono ?_
  rintro e w3' ⟨rfl, n3, hw3⟩
  have hu3 := (Upd.refl [] w2).drewN n3
  rw [← hw3] at hu3
  obtain ⟨w3, rfl⟩ : ∃ w' : World, w' = w3' := ⟨_, rfl⟩
  have HP3 := Lib.hid (HP2.out.upd hu3)
  have HD3 := Lib.hid (hu3.heap HD2.out (by simp))
  clear hw3 hu3 HSI HP2 HD2 x0 x1 x2 x3 x4 x5
  obtain ⟨x0, x1, x2, x3, x4, x5⟩ := HP3.out.cells
  have d0 := cell_of HD3.out 0
  by_cases hk4 : kd = 4
  · as_aux_lemma =>
    subst hk4
    have dk4 : ((4 : Int) == 4) = true := rfl
    have dk5 : ((4 : Int) == 5) = false := by decide
    go_wp2_with fail
    have hu4 : Upd [] w3 w3.drew := (Upd.refl _ _).drew
    have HP4 := Lib.hid (HP3.out.upd hu4)
    have HD4 := Lib.hid (hu4.heap HD3.out (by simp))
    have z2 := hu4.cell x2 (by simp)
    have z3 := hu4.cell x3 (by simp)
    have hxl : xb ∉ L.own := fun hm => (HP3.out.ap _ (HL.sub hm)).1 rfl
    obtain ⟨w4, hw4⟩ : ∃ w' : World, w' = w3.drew := ⟨_, rfl⟩
    rw [← hw4] at HP4 HD4 z2 z3
    obtain ⟨-, rb, hpr, hcr⟩ := own_arg3 HP4.out.rt
    have hrb : (rs = [] ∨ pr = some ⟨rb, 0, none⟩) := hpr.imp And.left id
    have HC : Hid (Calls Tryd.prog 15 #[.pointer (some ⟨L.hb, 0, none⟩), .slice pr rs.length cr] w4 fun e w' => ∃ v, e = .returned v ∧ GcEnd w0 L hv hmv S false rs w4 v w' ∧ Upd L.own w4 w') := by
      rcases hpr with ⟨e1, e2, e3⟩ | e1
      · subst e1
        exact gminor2 HP4.out.gc pr cr w4.heap.size [] (by simp) (.inl rfl) (by simp) (by simp) (fun hm => by have := HP4.out.gc.hi _ (HL.sub hm); omega)
      · exact gminor2 HP4.out.gc pr cr rb rs (by omega) (.inr e1) hcr (HP4.out.gc.rng (HK.out.rt.roots HK.out.bd)) (fun hm => (HP4.out.ap rb (HL.sub hm)).2.1 (by rw [e1]; rfl))
    clear hpr hcr hrb
    rw [hw4] at HC z2 z3
    go_region_held3 (fun w' => w'.cell? ⟨xb, 2, none⟩ = some (.pointer (some ⟨L.hb, 0, none⟩)) ∧ w'.cell? ⟨xb, 3, none⟩ = some (.slice pr rs.length cr))
      (first | exact ⟨k0, k1⟩ | exact ⟨z2, z3⟩ | exact ⟨x2, x3⟩)
      ((go_at_call 15; refine HC.out.mono ?_; rintro e w5 ⟨vv, rfl, hend, hu5⟩; obtain ⟨pu, lu, cu, is, rfl⟩ := hend.form; have k0 := hu5.cell z2 hxl; have k1 := hu5.cell z3 hxl))
    rw [← hw4] at hend hu5
    clear hw4 z2 z3 k0 k1 x0 x1 x2 x3 x4 x5 HP3 HD3 hu4 d0
    rcases hend with ⟨h9, hve, hg5⟩ | ⟨h9, sc, M, bg, L2, u, hd, hve, ho, hg5, hb5, hs5, hso, hcb5⟩
    · obtain ⟨hv1, hv2⟩ := tup2 hve
      injection hv1 with hv3 hv4 hv5
      injection hv2 with hv6
      subst hv3 hv4 hv5 hv6
      clear hve
      have HP5 := Lib.hid (HP4.out.heap hu5 hg5 rfl (fun i hi => .inl hi) rfl)
      have hgt : S.old.to - S.old.top < S.y.to - S.y.fr - (S.y.to - S.y.top) := by
        have h8 : S.gives false = S.old.to - S.old.top := by unfold Hp.gives; rw [if_neg (by simp), sp_oldK]
        have h7 : S.asks false rs = S.y.top - S.y.fr := by unfold Hp.asks; rw [if_neg (by simp)]
        omega
      have dge : decide (S.old.to - S.old.top ≥ S.y.to - S.y.fr - (S.y.to - S.y.top)) = false := decide_eq_false (by omega)
      have HEND : Hid (PlEnd w0 xb hv hmv (.slice cp S.cs.length cc) mv cb co (kk + 1) S.cs w5) :=
        ⟨L, S, R, _, _, _, _, _, _, HP5.out, HK.out.keep hkk rfl HK.out.bd HK.out.rt rfl, HE.out, rfl⟩
      clear h9 hg5 hu5 HC HP5
      generalize S.old.to - S.old.top = A1 at hgt dge o1 o2 o3 o4 ⊢
      go_wp2_with fail
      go_ret
      exact ⟨rfl, HEND.out⟩
    · obtain ⟨hv1, hv2⟩ := tup2 hve
      injection hv2 with hv6
      subst hv1 hv6
      clear hve
      obtain ⟨R', bd', rt', cs', sh'⟩ := pl_left HK.out.bd HP4.out.gc.inv HK.out.rt hd
      have hg5' : GcAt w0 w5 L2 hv hmv (S.left false M bg) := hg5
      have hp5 := HP4.out.heap hu5 hg5' hb5 hs5 cs'
      have hx4 := HP4.out.lt
      have hap5 : ∀ i ∈ L2.all, (Value.slice pu lu cu).ownBlock ≠ some i := fun i hi e => hg5'.freeAll ho (by rw [hcb5]; exact HP4.out.gc.hi _ (by simp [HL.all])) i e hi
      have hp6 := hp5.roots (row_base ho (by omega)) hap5
      have hy : (S.left false M bg).y.to - (S.left false M bg).y.top = S.y.to - S.y.fr := by rw [left_y hd]
      have hml : (rs.map (fwL M.mv)).length = rs.length := List.length_map _
      obtain ⟨p5, c5, hpe⟩ := ownI_shape ho
      injection hpe with hp1 hp2 hp3
      subst hp2
      clear hp1 hp3 p5 c5
      have y3 := hp5.cells.2.2.2.1
      have z3 := froz_of hp5.x 3
      have hd5 := hu5.heap HD4.out (fun hm => by have := HBX.out.2 _ (HL.sub hm); omega)
      have HD6 := Lib.hid (((Upd.refl [xb] w5).setCell (p := ⟨xb, 3, none⟩) (.inl (by simp)) (.slice pu (rs.map (fwL M.mv)).length cu)).heap hd5 (by have := HBX.out.1; simp; omega))
      have HP6 := Lib.hid hp6
      have HY := Lib.hid hy
      have HEV := Lib.hid (even_bnd (left_bnd S false M bg) HE.out)
      have HOKE := Lib.hid (HK.out.keep hkk cs' bd' rt' hml)
      have HCS := Lib.hid cs'
      have hge : S.y.to - S.y.fr - (S.y.to - S.y.top) ≤ S.old.to - S.old.top := by
        have h8 : S.gives false = S.old.to - S.old.top := by unfold Hp.gives; rw [if_neg (by simp), sp_oldK]
        have h7 : S.asks false rs = S.y.top - S.y.fr := by unfold Hp.asks; rw [if_neg (by simp)]
        omega
      have dge : decide (S.old.to - S.old.top ≥ S.y.to - S.y.fr - (S.y.to - S.y.top)) = true := decide_eq_true (by omega)
      clear h9 hg5 hg5' hu5 HC hd ho hb5 hs5 hso hcb5 hp5 hp6 hap5 hy bd' rt' cs' sh'
      clear hd5
      rw [hml] at HP6 HD6 ⊢
      generalize S.left false M bg = S1 at HP6 HY HEV HOKE HCS
      generalize rs.map (fwL M.mv) = rs1 at HP6 HOKE hml
      generalize S.old.to - S.old.top = A1 at hge dge o1 o2 o3 o4 ⊢
      go_upto_region 19 with fail
      generalize w5.setCell ⟨xb, 3, none⟩ (.slice pu rs.length cu) = w6 at HP6 HD6 ⊢
      clear y3 z3
      obtain ⟨x0, x1, x2, x3, x4, x5⟩ := HP6.out.cells
      have HRO := Lib.hid (hroom_any L2 hv hmv S1 w6 HP6.out.gc.hp)
      rw [HY.out] at HRO
      go_wp2_with fail
      refine HRO.out.mono ?_
      rintro e w7' ⟨rfl, n7, hw7⟩
      have hu7 := (Upd.refl [] w6).drewN n7
      rw [← hw7] at hu7
      obtain ⟨w7, rfl⟩ : ∃ w' : World, w' = w7' := ⟨_, rfl⟩
      have HEND : Hid (PlEnd w0 xb hv hmv (.slice cp S.cs.length cc) mv cb co (kk + 1) S.cs w7) :=
        ⟨L2, S1, R', _, _, _, _, _, _, HP6.out.upd hu7, HOKE.out, HEV.out, HCS.out⟩
      have d0 := cell_of (hu7.heap HD6.out (by simp)) 0
      clear hw7 hu7 HRO HP6 x0 x1 x2 x3 x4 x5
      have dsz : ((S.y.to - S.y.fr) != (S.y.to - S.y.fr)) = false := by simp
      go_wp2_with fail
      go_ret
      exact ⟨rfl, HEND.out⟩
  · as_aux_lemma =>
    have dk4 : (kd == 4) = false := by simpa using hk4
    go_wp2_with fail
    have hu4 : Upd [] w3 w3.drew := (Upd.refl _ _).drew
    have HP4 := Lib.hid (HP3.out.upd hu4)
    have HD4 := Lib.hid (hu4.heap HD3.out (by simp))
    have z2 := hu4.cell x2 (by simp)
    have z3 := hu4.cell x3 (by simp)
    have hxl : xb ∉ L.own := fun hm => (HP3.out.ap _ (HL.sub hm)).1 rfl
    obtain ⟨w4, hw4⟩ : ∃ w' : World, w' = w3.drew := ⟨_, rfl⟩
    rw [← hw4] at HP4 HD4 z2 z3
    obtain ⟨-, rb, hpr, hcr⟩ := own_arg3 HP4.out.rt
    have hrng := HP4.out.gc.rng (HK.out.rt.roots HK.out.bd)
    have HPR : Hid (rs = [] ∨ pr = some ⟨rb, 0, none⟩) := hpr.imp And.left id
    have HRNG := Lib.hid hrng
    have HC : Hid (Calls Tryd.prog 14 #[.pointer (some ⟨L.hb, 0, none⟩), .slice pr rs.length cr] w4 fun e w' => ∃ v, e = .returned v ∧ GcEnd w0 L hv hmv S true rs w4 v w' ∧ Upd L.own w4 w') := by
      rcases hpr with ⟨e1, e2, e3⟩ | e1
      · subst e1
        exact gmajor2 HP4.out.gc pr cr w4.heap.size [] (by simp) (.inl rfl) (by simp) (by simp) (fun hm => by have := HP4.out.gc.hi _ (HL.sub hm); omega)
      · exact gmajor2 HP4.out.gc pr cr rb rs (by omega) (.inr e1) hcr hrng (fun hm => (HP4.out.ap rb (HL.sub hm)).2.1 (by rw [e1]; rfl))
    clear hpr hcr hrng
    rw [hw4] at HC z2 z3
    go_region_held3 (fun w' => w'.cell? ⟨xb, 2, none⟩ = some (.pointer (some ⟨L.hb, 0, none⟩)) ∧ w'.cell? ⟨xb, 3, none⟩ = some (.slice pr rs.length cr))
      (first | exact ⟨k0, k1⟩ | exact ⟨z2, z3⟩ | exact ⟨x2, x3⟩)
      ((go_at_call 14; refine HC.out.mono ?_; rintro e w5 ⟨vv, rfl, hend, hu5⟩; obtain ⟨pu, lu, cu, is, rfl⟩ := hend.form; have k0 := hu5.cell z2 hxl; have k1 := hu5.cell z3 hxl))
    rw [← hw4] at hend hu5
    clear hw4 z2 z3 k0 k1 x0 x1 x2 x3 x4 x5 HP3 HD3 hu4 d0
    have HD5 := Lib.hid (hu5.heap HD4.out (fun hm => by have := HBX.out.2 _ (HL.sub hm); omega))
    have hev := even_old HE.out
    rcases hend with ⟨h9, hve, hg5⟩ | ⟨h9, sc, M, bg, L2, u, hd, hve, ho, hg5, hb5, hs5, hso, hcb5⟩
    · as_aux_lemma =>
      obtain ⟨hv1, hv2⟩ := tup2 hve
      injection hv1 with hv3 hv4 hv5
      injection hv2 with hv6
      subst hv3 hv4 hv5 hv6
      clear hve
      have HP5 := Lib.hid (HP4.out.heap hu5 hg5 rfl (fun i hi => .inl hi) rfl)
      have hlt : S.h0.to - S.h0.fr < wordsO (S.shape rs).1 := by
        have h8 : S.gives true = (S.sp (3 - S.oldK)).to - (S.sp (3 - S.oldK)).fr := by unfold Hp.gives; rw [if_pos rfl]
        have h7 : S.asks true rs = sumW S (S.reach rs) := by unfold Hp.asks; rw [if_pos rfl]
        rw [words_reach HSK.out]
        omega
      obtain ⟨pr', cr', e5, hsh⟩ := pl_shape HP5.out HK.out
      injection e5 with e5 e6 e7
      subst e5 e7
      have HSH := Lib.hid hsh
      have HWB := Lib.hid (shape_sizes HSK.out rs)
      have HWF := Lib.hid (shape_few S HSK.out rs)
      obtain ⟨x0, x1, x2, x3, x4, x5⟩ := HP5.out.cells
      clear h9 hg5 hu5 HC HP4 HD4 hev hsh
      generalize (S.shape rs).1 = os at hlt HSH HWB HWF
      go_wp2_with fail
      have hu6 : Upd [] w5 w5.drew := (Upd.refl _ _).drew
      have z2 := hu6.cell x2 (by simp)
      have z3 := hu6.cell x3 (by simp)
      go_region_held3 (fun w' => w'.cell? ⟨xb, 2, none⟩ = some (.pointer (some ⟨L.hb, 0, none⟩)) ∧ w'.cell? ⟨xb, 3, none⟩ = some (.slice pr rs.length cr))
        (first | exact ⟨k0, k1⟩ | exact ⟨z2, z3⟩ | exact ⟨x2, x3⟩)
        ((go_at_call 21; refine (HSH.out _ hu6).mono ?_; rintro e w7 ⟨uv, av, ub, ac, ap, rfl, ho7, hu7, rfl⟩; have k0 := hu7.cell z2 (by simp); have k1 := hu7.cell z3 (by simp)))
      clear x0 x1 x2 x3 x4 x5 z2 z3 k0 k1
      have HP7 := Lib.hid (HP5.out.upd (hu6.trans hu7))
      have HO7 := Lib.hid ho7
      clear hu6 hu7 ho7 HP5 HSH
      obtain ⟨x0, x1, x2, x3, x4, x5⟩ := HP7.out.cells
      have HSI := Lib.hid (size_any L hv hmv S w7 HP7.out.gc.hp)
      go_wp2_with fail
      refine HSI.out.mono ?_
      rintro e w8' ⟨rfl, n8, hw8⟩
      have hu8 := (Upd.refl [] w7).drewN n8
      rw [← hw8] at hu8
      obtain ⟨w8, rfl⟩ : ∃ w' : World, w' = w8' := ⟨_, rfl⟩
      have HP8 := Lib.hid (HP7.out.upd hu8)
      have hwb := wordsO_le12 os (fun o ho => (HWB.out o ho).2.2)
      have HWC := Lib.hid (words12_any (.slice cp S.cs.length cc) mv (.slice ub os.length av) cb co S.cs os w8 HP8.out.cls (HO7.out.upd hu8) (by omega) HSK.out.small HWB.out (by have := HWF.out; omega))
      clear hw8 hu8 HSI HP7 HO7 x0 x1 x2 x3 x4 x5
      obtain ⟨x0, x1, x2, x3, x4, x5⟩ := HP8.out.cells
      have dle : decide (wordsO os ≤ S.h0.to - S.h0.fr) = false := decide_eq_false (by omega)
      generalize wordsO os = W at hlt hwb HWC dle
      generalize S.h0.to - S.h0.fr = H at hlt dle ⊢
      go_wp2_with fail
      refine HWC.out.mono ?_
      rintro e w9 ⟨rfl, hu9⟩
      have HEND : Hid (PlEnd w0 xb hv hmv (.slice cp S.cs.length cc) mv cb co (kk + 1) S.cs w9) :=
        ⟨L, S, R, _, _, _, _, _, _, HP8.out.upd hu9, HK.out.keep hkk rfl HK.out.bd HK.out.rt rfl, HE.out, rfl⟩
      clear hu9 HWC HP8 x0 x1 x2 x3 x4 x5
      go_wp2_with fail
      go_ret
      exact ⟨rfl, HEND.out⟩
    · as_aux_lemma =>
      obtain ⟨hv1, hv2⟩ := tup2 hve
      injection hv2 with hv6
      subst hv1 hv6
      clear hve
      obtain ⟨R', bd', rt', cs', sh'⟩ := pl_left HK.out.bd HP4.out.gc.inv HK.out.rt hd
      have hj := pl_just HSK.out HP4.out.gc.inv HE.out hd
      have hg5' : GcAt w0 w5 L2 hv hmv (S.left true M bg) := hg5
      have hp5 := HP4.out.heap hu5 hg5' hb5 hs5 cs'
      have hx4 := HP4.out.lt
      have hap5 : ∀ i ∈ L2.all, (Value.slice pu lu cu).ownBlock ≠ some i := fun i hi e => hg5'.freeAll ho (by rw [hcb5]; exact HP4.out.gc.hi _ (by simp [HL.all])) i e hi
      have hy : (S.left true M bg).y.to - (S.left true M bg).y.top = S.y.to - S.y.fr := by rw [left_y hd]
      have hml : (rs.map (fwL M.mv)).length = rs.length := List.length_map _
      have hh0 : (S.left true M bg).h0.to - (S.left true M bg).h0.fr = S.h0.to - S.h0.fr := by
        have := left_bnd S true M bg
        unfold Hp.bnd at this
        simp only [List.cons.injEq, and_true] at this
        omega
      have hjx : (S.left true M bg).h0.to - (S.left true M bg).h0.fr - ((S.left true M bg).old.to - (S.left true M bg).old.top) = wordsO ((S.left true M bg).shape (rs.map (fwL M.mv))).1 := by rw [sh', hh0]; omega
      obtain ⟨q1, q2, q3, q4⟩ := hg5'.hp.ok.sp0 (S.left true M bg).oldK
      rw [sp_oldK] at q1 q2 q3 q4
      have hln5 := hg5'.hp.ok.len
      have HJB : Hid (-9000000 ≤ (S.left true M bg).old.to - (S.left true M bg).old.top ∧ (S.left true M bg).old.to - (S.left true M bg).old.top ≤ 9000000) := ⟨by omega, by omega⟩
      have HML := Lib.hid hml
      clear q1 q2 q3 q4 hln5
      obtain ⟨p5, c5, hpe⟩ := ownI_shape ho
      injection hpe with hp1 hp2 hp3
      subst hp2
      clear hp1 hp3 p5 c5
      have HO5 : Hid (OwnI w5 (xb + 1) 3 (.slice pu (rs.map (fwL M.mv)).length cu) (rs.map (fwL M.mv))) := row_base ho (show xb + 1 ≤ w4.heap.size by omega)
      have HAP := Lib.hid hap5
      have HP5 := Lib.hid hp5
      have HY := Lib.hid hy
      have HEV := Lib.hid (even_bnd (left_bnd S true M bg) HE.out)
      have HOKE := Lib.hid (HK.out.keep hkk cs' bd' rt' hml)
      have HCS := Lib.hid cs'
      have HJX := Lib.hid hjx
      have HSH : Hid (∀ w', Upd [] w5 w' → Calls Tryd.prog 21 #[.pointer (some ⟨L.hb, 0, none⟩), .slice pr rs.length cr] w' fun e w'' => ∃ ub ul av ap al ac, e = .returned (.tuple #[.slice ub ul av, .slice ap al ac]) ∧ Upd [] w' w'') := fun w' hu => by
        obtain ⟨-, rb2, hpr2, hcr2⟩ := own_arg3 HP5.out.rt
        have h9 := gshape (HP5.out.gc.upd hu) pr cr rb2 rs (by omega) (hpr2.imp And.left id) (fun i hi => hu.cell (hcr2 i hi) (by simp)) HRNG.out
        rw [hb5] at h9
        refine h9.mono ?_
        rintro e w'' ⟨uv, av, ps', ov', od, rfl, hout, hps, hu'⟩
        obtain ⟨q, k, e1⟩ := (hout.objsV rfl).shape
        obtain ⟨b, h2⟩ := hout.nums
        obtain ⟨q2, k2, e2⟩ := h2.form
        exact ⟨q, _, k, q2, _, k2, by rw [e1, e2], hu'⟩
      have HHB := Lib.hid hb5
      obtain ⟨x0, x1, x2, x3, x4, x5⟩ := hp5.cells
      rw [hb5] at x2
      clear h9 hg5 hg5' hu5 HC hd ho hb5 hs5 hso hcb5 hp5 hap5 hy bd' rt' cs' sh' hj hh0 hjx hev HD4 HPR
      rw [hml] at HO5 HAP ⊢
      clear hml hx4
      generalize S.left true M bg = S1 at HP5 HY HEV HOKE HCS HJX HAP HJB ⊢
      generalize rs.map (fwL M.mv) = rs1 at HOKE HML HO5 HJX
      go_wp2_with fail
      have hu6 : Upd [] w5 w5.drew := (Upd.refl _ _).drew
      have z2 := hu6.cell x2 (by simp)
      have z3 := hu6.cell x3 (by simp)
      go_region_held3 (fun w' => w'.cell? ⟨xb, 2, none⟩ = some (.pointer (some ⟨L.hb, 0, none⟩)) ∧ w'.cell? ⟨xb, 3, none⟩ = some (.slice pr rs.length cr))
        (first | exact ⟨k0, k1⟩ | exact ⟨z2, z3⟩ | exact ⟨x2, x3⟩)
        ((go_at_call 21; refine (HSH.out _ hu6).mono ?_; rintro e w7 ⟨ub, ul, av, ap, al, ac, rfl, hu7⟩; have k0 := hu7.cell z2 (by simp); have k1 := hu7.cell z3 (by simp)))
      clear x0 x1 x2 x3 x4 x5 z2 z3 k0 k1
      have hu57 := hu6.trans hu7
      have HP7 := Lib.hid (HP5.out.upd hu57)
      have HD7 := Lib.hid (hu57.heap HD5.out (by simp))
      have HO7 := Lib.hid (OwnI.upd HO5.out hu57 (by simp))
      clear hu6 hu7 hu57 HP5 HD5 HO5 HSH
      obtain ⟨x0, x1, x2, x3, x4, x5⟩ := HP7.out.cells
      have HSI := Lib.hid (size_any L2 hv hmv S1 w7 HP7.out.gc.hp)
      rw [HHB.out] at HSI
      go_wp2_with fail
      refine HSI.out.mono ?_
      rintro e w8' ⟨rfl, n8, hw8⟩
      have hu8 := (Upd.refl [] w7).drewN n8
      rw [← hw8] at hu8
      obtain ⟨w8, rfl⟩ : ∃ w' : World, w' = w8' := ⟨_, rfl⟩
      have hp8 := HP7.out.upd hu8
      have hd8 := hu8.heap HD7.out (by simp)
      have HD9 := Lib.hid (((Upd.refl [xb] w8).setCell (p := ⟨xb, 3, none⟩) (.inl (by simp)) (.slice pu rs.length cu)).heap hd8 (by have := HBX.out.1; simp; omega))
      have y3 := hp8.cells.2.2.2.1
      have z3 := froz_of hp8.x 3
      have HP9 := Lib.hid (hp8.roots (OwnI.upd HO7.out hu8 (by simp)) HAP.out)
      clear hw8 hu8 HSI HP7 HO7 HD7 hp8 hd8 x0 x1 x2 x3 x4 x5
      generalize S1.h0.to - S1.h0.fr = H1
      go_upto_region 19 with fail
      generalize w8.setCell ⟨xb, 3, none⟩ (.slice pu rs.length cu) = w9 at HP9 HD9 ⊢
      clear y3 z3
      obtain ⟨x0, x1, x2, x3, x4, x5⟩ := HP9.out.cells
      have HRO := Lib.hid (hroom_any L2 hv hmv S1 w9 HP9.out.gc.hp)
      rw [HY.out] at HRO
      go_wp2_with fail
      refine HRO.out.mono ?_
      rintro e wA' ⟨rfl, nA, hwA⟩
      have huA := (Upd.refl [] w9).drewN nA
      rw [← hwA] at huA
      obtain ⟨wA, rfl⟩ : ∃ w' : World, w' = wA' := ⟨_, rfl⟩
      have HPA := Lib.hid (HP9.out.upd huA)
      have d0 := cell_of (huA.heap HD9.out (by simp)) 0
      have dsz : ((S.y.to - S.y.fr) != (S.y.to - S.y.fr)) = false := by simp
      clear hwA huA HRO HP9 x0 x1 x2 x3 x4 x5
      by_cases hk5 : kd = 5
      · subst hk5
        have dk5 : ((5 : Int) == 5) = true := rfl
        have HJ := Lib.hid (just_any HPA.out HOKE.out (S1.old.to - S1.old.top) HJX.out HJB.out)
        generalize S1.old.to - S1.old.top = J at HJ ⊢
        go_wp2_with fail
        refine HJ.out.mono ?_
        rintro e wB ⟨rfl, huB⟩
        have HEND : Hid (PlEnd w0 xb hv hmv (.slice cp S.cs.length cc) mv cb co (kk + 1) S.cs wB) :=
          ⟨L2, S1, R', _, _, _, _, _, _, HPA.out.upd huB, HOKE.out, HEV.out, HCS.out⟩
        clear huB HJ HPA
        go_wp2_with fail
        go_ret
        exact ⟨rfl, HEND.out⟩
      · have dk5 : (kd == 5) = false := by simpa using hk5
        have HEND : Hid (PlEnd w0 xb hv hmv (.slice cp S.cs.length cc) mv cb co (kk + 1) S.cs wA) :=
          ⟨L2, S1, R', _, _, _, _, _, _, HPA.out, HOKE.out, HEV.out, HCS.out⟩
        clear HPA
        generalize S1.old.to - S1.old.top = J
        go_wp2_with fail
        go_ret
        exact ⟨rfl, HEND.out⟩
end
end Go.Proofs.YtneeljhjfmcdoaaDoor
