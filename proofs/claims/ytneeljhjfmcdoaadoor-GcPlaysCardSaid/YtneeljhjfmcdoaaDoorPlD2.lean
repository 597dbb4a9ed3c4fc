/- GcPlays: one thing of kind 2 is done. -/
import Derived.Test.YtneeljhjfmcdoaaDoorPlD
namespace Go.Proofs.YtneeljhjfmcdoaaDoor
open Go.RowKit

section
variable {w0 w : World} {xb : Nat} {L : HL} {hv hmv cv mv : Value} {cb co : Nat} {S : Hp} {rv ov nv : Value} {rs ts : List Int} {ps : List OP} {R : Int → Int → Prop} {kk : Nat}
set_option maxRecDepth 100000 in
set_option maxHeartbeats 16000000 in
theorem do2_any (h : PlAt w0 w xb L hv hmv cv mv cb co S rv ov nv rs ts ps) (hk : PlOk kk S R rs ts ps) (he : S.Even) (hkk : kk ≤ 80) (a b n v : Int) (hvb : -9223372036854775808 ≤ v ∧ v ≤ 9223372036854775807) :
    Calls Tryd.prog 30 #[.pointer (some ⟨xb, 0, none⟩), .agg #[.int .i64 2, .int .i64 a, .int .i64 b, .int .i64 n, .int .i64 v]] w fun e w' => e = .returned (.bool true) ∧ PlEnd w0 xb hv hmv cv mv cb co (kk + 1) S.cs w' := by
  obtain ⟨i0, hi, hz0, hz1, hz2⟩ := info_parts Tryd.infoInt
  have HI := Lib.hid hi
  have HZ0 := Lib.hid hz0
  have HZ1 := Lib.hid hz1
  have HZ2 := Lib.hid hz2
  clear hi hz0 hz1 hz2
  have hud := (Upd.refl [] w).alloc (.cells #[.int .i64 2, .int .i64 a, .int .i64 b, .int .i64 n, .int .i64 v] 75)
  have hd0 := heap_alloc_new w (.cells #[.int .i64 2, .int .i64 a, .int .i64 b, .int .i64 n, .int .i64 v] 75)
  have HBX : Hid (xb < w.heap.size ∧ (∀ i ∈ L.all, i < w.heap.size)) := ⟨h.lt, h.gc.hi⟩
  have HNW := Lib.hid h.new
  obtain ⟨cp, cc, hcve⟩ := h.cls.shape
  subst hcve
  obtain ⟨pr, cr, hre⟩ := ownI_shape h.rt
  subst hre
  obtain ⟨po, pc, hoe⟩ := h.ob.form
  subst hoe
  obtain ⟨pn, cn, hne⟩ := ownI_shape h.nm
  subst hne
  have hrl := hk.fewr
  have htl : ts.length = rs.length := hk.rt.1.symm
  have hpl := hk.few
  have hS := h.gc.hp.ok
  have hfew := hS.few
  have HP1 := Lib.hid (h.upd hud)
  have HK := Lib.hid hk
  have HE := Lib.hid he
  have HSK := Lib.hid hS
  have hcn : -2 ≤ (0 : Int) := by omega
  clear h hk he hS hud hcn
  have HD := Lib.hid hd0
  have d0 := cell_of hd0 0
  have d1 := cell_of hd0 1
  have d2 := cell_of hd0 2
  have d3 := cell_of hd0 3
  have d4 := cell_of hd0 4
  clear hd0
  obtain ⟨x0, x1, x2, x3, x4, x5⟩ := HP1.out.cells
  go_enter Tryd.func30, Tryd.ntmps30
  have dk1 : ((2 : Int) == 1) = false := by decide
  have dk2 : ((2 : Int) == 2) = true := rfl
  by_cases hr0 : rs.length = 0
  · have e1 : ((rs.length : Int) == 0) = true := beq_iff_eq.2 (by omega)
    have HEND : Hid (PlEnd w0 xb hv hmv (.slice cp S.cs.length cc) mv cb co (kk + 1) S.cs (w.alloc (.cells #[.int .i64 2, .int .i64 a, .int .i64 b, .int .i64 n, .int .i64 v] 75))) :=
      ⟨L, S, R, _, _, _, _, _, _, HP1.out, HK.out.keep hkk rfl HK.out.bd HK.out.rt rfl, HE.out, rfl⟩
    go_wp2_with fail
    go_ret
    exact ⟨rfl, HEND.out⟩
  have e1 : ((rs.length : Int) == 0) = false := beq_eq_false_iff_ne.2 (by omega)
  have hq0 := Int.emod_nonneg a (show (rs.length : Int) ≠ 0 by omega)
  have hq1 := Int.emod_lt_of_pos a (show (0 : Int) < (rs.length : Int) by omega)
  generalize hqe : a % (rs.length : Int) = q at hq0 hq1
  have HQE := Lib.hid hqe
  clear hqe
  obtain ⟨k, rfl⟩ : ∃ k : Nat, q = (k : Int) := ⟨q.toNat, by omega⟩
  have hkr : k < rs.length := by omega
  have hkt : k < ts.length := by omega
  obtain ⟨-, rb, hpr, hcr⟩ := own_arg3 HP1.out.rt
  obtain rfl : pr = some ⟨rb, 0, none⟩ := by
    rcases hpr with ⟨h1, _⟩ | h1
    · rw [h1] at hr0; exact absurd rfl hr0
    · exact h1
  have HC3 := Lib.hid hcr
  obtain ⟨-, nb, hpn, hcn⟩ := own_arg3 HP1.out.nm
  obtain rfl : pn = some ⟨nb, 0, none⟩ := by
    rcases hpn with ⟨h1, _⟩ | h1
    · rw [h1] at hkt; cases hkt
    · exact h1
  have HC5 := Lib.hid hcn
  clear hpr hcr hpn hcn
  have hrk := HK.out.rt.2 k hkr
  go_wp2_with fail
  refine (number_any a (rs.length : Int) _ (by omega) (by omega)).mono ?_
  rintro e w' ⟨rfl, rfl⟩
  rw [HQE.out]
  clear hq0 hq1 HQE
  generalize w.alloc (.cells #[.int .i64 2, .int .i64 a, .int .i64 b, .int .i64 n, .int .i64 v] 75) = w1 at HP1 HD HC3 HC5 d0 d1 d2 d3 d4 x0 x1 x2 x3 x4 x5 ⊢
  have c5 := HC5.out k hkt
  by_cases htk : ts.getD k 0 < 0
  · have e2 : decide (ts.getD k 0 < 0) = true := decide_eq_true htk
    have HEND : Hid (PlEnd w0 xb hv hmv (.slice cp S.cs.length cc) mv cb co (kk + 1) S.cs w1) :=
      ⟨L, S, R, _, _, _, _, _, _, HP1.out, HK.out.keep hkk rfl HK.out.bd HK.out.rt rfl, HE.out, rfl⟩
    generalize ts.getD k 0 = tk at htk e2 c5
    go_wp2_with fail
    go_ret
    exact ⟨rfl, HEND.out⟩
  have e2 : decide (ts.getD k 0 < 0) = false := decide_eq_false htk
  obtain ⟨o1, o2, o3, o4⟩ := HK.out.bd.obj hrk (by omega)
  obtain ⟨ob, hob⟩ : ∃ ob : Nat, ts.getD k 0 = (ob : Int) := ⟨(ts.getD k 0).toNat, by omega⟩
  have HRK : Hid (R (rs.getD k 0) (ob : Int)) := by rw [← hob]; exact hrk
  rw [hob] at o2 o3 o4 c5 e2 htk
  rw [List.length_map] at o2
  rw [Int.toNat_natCast] at o3 o4
  have hobp : ob < ps.length := by omega
  have hoget : (ps.map OP.o).getD ob (0, []) = ((ps[ob]'hobp).c, (ps[ob]'hobp).xs) := by
    rw [List.getD_eq_getElem?_getD, List.getElem?_map, List.getElem?_eq_getElem hobp]; rfl
  rw [hoget] at o3 o4
  obtain ⟨ub, ocap, hov, m0, m1, m2⟩ := HP1.out.ob.nth ob hobp
  injection hov with hov _ hoc
  subst hov hoc
  rw [Nat.mul_comm] at m0 m1
  have HVB := Lib.hid m2
  have HOG := Lib.hid hoget
  have hxsl := (HK.out.os _ (List.getElem_mem hobp)).2.2
  have HO1 := Lib.hid o1
  have HO4 := Lib.hid o4
  clear hob hrk o1 o2 o3 o4 hoget m2 htk
  generalize hr : rs.getD k 0 = r at HRK HO1 HO4
  have HR := Lib.hid hr
  clear hr
  have hPE := HP1.out
  generalize hpq : ps[ob]'hobp = pq at m0 m1 HVB HOG hxsl HO4
  have HPQ : Hid (ps[ob]'hobp = pq) := hpq
  obtain ⟨qc, qx, qv, qb⟩ := pq
  clear hpq hPE
  dsimp only at m0 m1 HVB HOG hxsl HO4
  go_wp2_with fail
  have hu2 : Upd [] w1 w1.drew := (Upd.refl _ _).drew
  have hua : Upd [] w1 (w1.alloc (.cells #[.int .i64 0, .slice none 0 0] 106)).drew := ((Upd.refl [] w1).alloc _).drew
  have y4 := hua.cell x4 (by simp)
  have y5 := hua.cell x5 (by simp)
  have yc := hua.cell c5 (by simp)
  have ym0 := hua.cell m0 (by simp)
  have ym1 := hua.cell m1 (by simp)
  go_region
  have hn2 : (w1.alloc (.cells #[.int .i64 qc, .slice (some ⟨qb, 0, none⟩) qx.length qx.length] 106)).drew.heap[w1.heap.size]? = some (.cells #[.int .i64 qc, .slice (some ⟨qb, 0, none⟩) qx.length qx.length] 106) := heap_alloc_new _ _
  have hub : Upd [] w1 (w1.alloc (.cells #[.int .i64 qc, .slice (some ⟨qb, 0, none⟩) qx.length qx.length] 106)).drew := ((Upd.refl [] w1).alloc _).drew
  have HP2 := Lib.hid (HP1.out.upd hub)
  have HD2 := Lib.hid (hub.heap HD.out (by simp))
  have HV2 := Lib.hid (hub.heap HVB.out (by simp))
  have HC32 : Hid (∀ i, i < rs.length → (w1.alloc (.cells #[.int .i64 qc, .slice (some ⟨qb, 0, none⟩) qx.length qx.length] 106)).drew.cell? ⟨rb, i, none⟩ = some (.int .i64 (rs.getD i 0))) := fun i hi => hub.cell (HC3.out i hi) (by simp)
  have HC52 : Hid (∀ i, i < ts.length → (w1.alloc (.cells #[.int .i64 qc, .slice (some ⟨qb, 0, none⟩) qx.length qx.length] 106)).drew.cell? ⟨nb, i, none⟩ = some (.int .i64 (ts.getD i 0))) := fun i hi => hub.cell (HC5.out i hi) (by simp)
  have hm1 := hub.cell m1 (by simp)
  have hc5 := hub.cell c5 (by simp)
  have hbo : w1.heap.size ≠ w.heap.size := fun e => by have := lt_of_heap HD.out; omega
  have hqbw : qb < w.heap.size ∧ xb + 1 ≤ qb := by
    have h9 := HNW.out.2.2.2 _ (List.getElem_mem hobp)
    rw [HPQ.out] at h9
    exact ⟨h9.2, h9.1⟩
  clear x0 x1 x2 x3 x4 x5 d0 d1 d2 d3 d4 m0 m1 c5 y4 y5 yc ym0 ym1 hua hub hu2 HP1 HD HVB HC3 HC5
  generalize (w1.alloc (.cells #[.int .i64 qc, .slice (some ⟨qb, 0, none⟩) qx.length qx.length] 106)).drew = w2 at hn2 HP2 HD2 HV2 HC32 HC52 hm1 hc5 ⊢
  have f1 := cell_of hn2 1
  by_cases hx0 : qx.length = 0
  · have e3 : ((qx.length : Int) == 0) = true := beq_iff_eq.2 (by omega)
    have HEND : Hid (PlEnd w0 xb hv hmv (.slice cp S.cs.length cc) mv cb co (kk + 1) S.cs w2) :=
      ⟨L, S, R, _, _, _, _, _, _, HP2.out, HK.out.keep hkk rfl HK.out.bd HK.out.rt rfl, HE.out, rfl⟩
    go_wp2_with fail
    go_ret
    exact ⟨rfl, HEND.out⟩
  have e3 : ((qx.length : Int) == 0) = false := beq_eq_false_iff_ne.2 (by omega)
  have hp0 := Int.emod_nonneg b (show (qx.length : Int) ≠ 0 by omega)
  have hp1 := Int.emod_lt_of_pos b (show (0 : Int) < (qx.length : Int) by omega)
  generalize hje : b % (qx.length : Int) = q at hp0 hp1
  have HJE := Lib.hid hje
  clear hje
  obtain ⟨j, rfl⟩ : ∃ j : Nat, q = (j : Int) := ⟨q.toNat, by omega⟩
  have hjx : j < qx.length := by omega
  have d2 := cell_of HD2.out 2
  obtain ⟨x0, x1, x2, x3, x4, x5⟩ := HP2.out.cells
  have hrd : r ≤ 65536 := by
    have := HSK.out.le HO1.out
    have := HSK.out.len
    omega
  have hnum : S.num r = (qx.length : Int) := HO4.out
  have c3 := HC32.out k hkr
  rw [HR.out] at c3
  go_wp2_with fail
  refine (number_any b (qx.length : Int) w2 (by omega) (by omega)).mono ?_
  rintro e w' ⟨rfl, rfl⟩
  rw [HJE.out]
  clear hp0 hp1 HJE
  go_wp2_with fail
  go_still_tail 12, (by kernel_rfl)
  change wpList _ _ _ _ _ w2.drew
  have hu3 : Upd [] w2 w2.drew := (Upd.refl _ _).drew
  have HP3 := Lib.hid (HP2.out.upd hu3)
  have HD3 := Lib.hid (hu3.heap HD2.out (by simp))
  have HV3 := Lib.hid (hu3.heap HV2.out (by simp))
  have HC33 : Hid (∀ i, i < rs.length → w2.drew.cell? ⟨rb, i, none⟩ = some (.int .i64 (rs.getD i 0))) := fun i hi => hu3.cell (HC32.out i hi) (by simp)
  have HC53 : Hid (∀ i, i < ts.length → w2.drew.cell? ⟨nb, i, none⟩ = some (.int .i64 (ts.getD i 0))) := fun i hi => hu3.cell (HC52.out i hi) (by simp)
  have hm1 := hu3.cell hm1 (by simp)
  have hc5 := hu3.cell hc5 (by simp)
  have hc3 := hu3.cell c3 (by simp)
  clear x0 x1 x2 x3 x4 x5 d2 c3 hn2 f1 HP2 HD2 HV2 HC32 HC52 hu3
  generalize w2.drew = w3 at HP3 HD3 HV3 HC33 HC53 hm1 hc5 hc3 ⊢
  have HRF := Lib.hid (ref_any L hv hmv S r j w3 HP3.out.gc.hp (by omega))
  go_wp2_with fail
  refine HRF.out.mono ?_
  rintro e w' ⟨rfl, rfl⟩
  obtain ⟨x0, x1, x2, x3, x4, x5⟩ := HP3.out.cells
  have hcj := cell_of HV3.out j
  rw [icells_get _ _ hjx] at hcj
  have hfj := froz_of HV3.out j
  have d4 := cell_of HD3.out 4
  have d3 := cell_of HD3.out 3
  cases hf : S.refB r j with
  | false =>
    as_aux_lemma =>
    have hmay := pl_may (S := S) (v := v) HO1.out (i := (j : Int)) (by omega) (by omega) (fun h => by rw [hf] at h; cases h)
    have HOK := Lib.hid (HK.out.put hkk HSK.out HRK.out hobp HPQ.out hjx hmay (x := v) (by rw [hf]; simp))
    go_wp2_with fail
    go_still_tail 18, (by kernel_rfl)
    change wpList _ _ _ _ _ w3.drew
    have hu4 : Upd [] w3 w3.drew := (Upd.refl _ _).drew
    have HP4 := Lib.hid (HP3.out.upd hu4)
    have HD4 := Lib.hid (hu4.heap HD3.out (by simp))
    have hcj := hu4.cell hcj (by simp)
    have hfj := froz_of (hu4.heap HV3.out (by simp)) j
    have hc3 := hu4.cell hc3 (by simp)
    clear x0 x1 x2 x3 x4 x5 d3 d4 hm1 hc5 HP3 HD3 HV3 HC33 HC53 HRF hu4 hf
    generalize w3.drew = w4 at HP4 HD4 hcj hfj hc3 ⊢
    go_upto_region 48 with fail
    have hus := (Upd.refl [qb] w4).setCell (p := ⟨qb, j, none⟩) (.inl (by simp)) (.int .i64 v)
    have HP5 := Lib.hid (HP4.out.setv hobp HPQ.out j v)
    have HD5 := Lib.hid (hus.heap HD4.out (by simp; omega))
    have hc3 := hus.cell hc3 (by
      have h9 := HP4.out.ob.vals _ (List.getElem_mem hobp)
      rw [HPQ.out] at h9
      have h8 := own_heap_ne2 HP4.out.rt h9.2.1 (by decide)
      simp only [List.mem_singleton]
      intro e
      exact h8 (by rw [← e]; rfl))
    clear hus HP4 HD4 hcj hfj
    generalize w4.setCell ⟨qb, j, none⟩ (.int .i64 v) = w5 at HP5 HD5 hc3 ⊢
    obtain ⟨x0, x1, x2, x3, x4, x5⟩ := HP5.out.cells
    have d4 := cell_of HD5.out 4
    go_wp2_with fail
    go_still_tail 14, (by kernel_rfl)
    change wpList _ _ _ _ _ w5.drew
    have hu6 : Upd [] w5 w5.drew := (Upd.refl _ _).drew
    have HP6 := Lib.hid (HP5.out.upd hu6)
    clear x0 x1 x2 x3 x4 x5 d4 hc3 HP5 HD5
    generalize w5.drew = w6 at HP6 ⊢
    clear hu6
    have hpt := gput HP6.out.gc r j v (by omega) hvb
    rw [hmay, if_pos rfl] at hpt
    have HPT := Lib.hid hpt
    clear hpt
    go_wp2_with fail
    refine HPT.out.mono ?_
    rintro e w7 ⟨rfl, hg7, hu7⟩
    have HEND : Hid (PlEnd w0 xb hv hmv (.slice cp S.cs.length cc) mv cb co (kk + 1) S.cs w7) :=
      ⟨L, _, R, _, _, _, _, _, _, HP6.out.heap hu7 hg7 rfl (fun i hi => .inl hi) (put_cs _ _ _ _), HOK.out, even_bnd (put_bnd _ _ _ _) HE.out, put_cs _ _ _ _⟩
    clear hg7 hu7 HPT HP6
    go_wp2_with fail
    go_ret
    exact ⟨rfl, HEND.out⟩
  | true =>
    as_aux_lemma =>
    have hq0 := Int.emod_nonneg n (show ((rs.length : Int) + 1) ≠ 0 by omega)
    have hq1 := Int.emod_lt_of_pos n (show (0 : Int) < (rs.length : Int) + 1 by omega)
    go_wp2_with fail
    refine (number_any n ((rs.length : Int) + 1) w3 (by omega) (by omega)).mono ?_
    rintro e w' ⟨rfl, rfl⟩
    generalize n % ((rs.length : Int) + 1) = q at hq0 hq1 ⊢
    go_wp2_with fail
    go_still_tail 16, (by kernel_rfl)
    change wpList _ _ _ _ _ w3.drew
    have hu4 : Upd [] w3 w3.drew := (Upd.refl _ _).drew
    have HP4 := Lib.hid (HP3.out.upd hu4)
    have HV4 := Lib.hid (hu4.heap HV3.out (by simp))
    have hcj := hu4.cell hcj (by simp)
    have hfj := froz_of HV4.out j
    have HC34 : Hid (∀ i, i < rs.length → w3.drew.cell? ⟨rb, i, none⟩ = some (.int .i64 (rs.getD i 0))) := fun i hi => hu4.cell (HC33.out i hi) (by simp)
    have HC54 : Hid (∀ i, i < ts.length → w3.drew.cell? ⟨nb, i, none⟩ = some (.int .i64 (ts.getD i 0))) := fun i hi => hu4.cell (HC53.out i hi) (by simp)
    have hm1 := hu4.cell hm1 (by simp)
    have hc5 := hu4.cell hc5 (by simp)
    clear x0 x1 x2 x3 x4 x5 d3 d4 hc3 HP3 HD3 HV3 HC33 HC53 HRF hu4
    generalize w3.drew = w4 at HP4 HV4 hcj hfj HC34 HC54 hm1 hc5 ⊢
    go_upto_region 52 with fail
    have hus := (Upd.refl [qb] w4).setCell (p := ⟨qb, j, none⟩) (.inl (by simp)) (.int .i64 (-1))
    have hrq : rb ≠ qb := fun e => by
      have h9 := HP4.out.ob.vals _ (List.getElem_mem hobp)
      rw [HPQ.out] at h9
      exact own_heap_ne2 HP4.out.rt h9.2.1 (by decide) (by rw [← e]; rfl)
    have hnq : nb ≠ qb := fun e => by
      have h9 := HP4.out.sp _ (List.getElem_mem hobp)
      rw [HPQ.out] at h9
      exact h9 (by rw [← e]; rfl)
    have huq : ub ≠ qb := fun e => by
      have h9 := (HP4.out.ob.vals _ (List.getElem_mem hobp)).2.2.2
      rw [HPQ.out] at h9
      exact h9 (by rw [← e]; rfl)
    have HP5 := Lib.hid (HP4.out.setv hobp HPQ.out j (-1))
    have hv5 := heap_setCell HV4.out j (.int .i64 (-1))
    rw [icells_set] at hv5
    have HV5 := Lib.hid hv5
    have HC35 : Hid (∀ i, i < rs.length → (w4.setCell ⟨qb, j, none⟩ (.int .i64 (-1))).cell? ⟨rb, i, none⟩ = some (.int .i64 (rs.getD i 0))) := fun i hi => hus.cell (HC34.out i hi) (by simpa using hrq)
    have HC55 : Hid (∀ i, i < ts.length → (w4.setCell ⟨qb, j, none⟩ (.int .i64 (-1))).cell? ⟨nb, i, none⟩ = some (.int .i64 (ts.getD i 0))) := fun i hi => hus.cell (HC54.out i hi) (by simpa using hnq)
    have hm1 := hus.cell hm1 (by simpa using huq)
    have hc5 := hus.cell hc5 (by simpa using hnq)
    clear hus hv5 HP4 HV4 HC34 HC54 hcj hfj
    generalize w4.setCell ⟨qb, j, none⟩ (.int .i64 (-1)) = w5 at HP5 HV5 HC35 HC55 hm1 hc5 ⊢
    obtain ⟨x0, x1, x2, x3, x4, x5⟩ := HP5.out.cells
    have hck := HC35.out k hkr
    rw [HR.out] at hck
    by_cases ht : q = 0
    · as_aux_lemma =>
      subst ht
      have e4 : decide ((0 : Int) - 1 ≥ 0) = false := by decide
      have e5 : decide ((-1 : Int) ≥ 0) = false := by decide
      clear HV5 HC35 HC55 hm1 hc5
      go_wp2_with fail
      have hmay := pl_may (S := S) (v := 0) HO1.out (i := (j : Int)) (by omega) (by omega) (fun _ => (.inl rfl))
      have HOK := Lib.hid (HK.out.put hkk HSK.out HRK.out hobp HPQ.out hjx hmay (x := -1) (by rw [if_pos hf]; exact HK.out.bd.zero))
      go_still_tail 13, (by kernel_rfl)
      change wpList _ _ _ _ _ w5.drew
      have hu9 : Upd [] w5 w5.drew := (Upd.refl _ _).drew
      have HP9 := Lib.hid (HP5.out.upd hu9)
      clear x0 x1 x2 x3 x4 x5 hck HP5
      generalize w5.drew = w9 at HP9 ⊢
      clear hu9
      have hpt := gput HP9.out.gc r j (0) (by omega) (by omega)
      rw [hmay, if_pos rfl] at hpt
      have HPT := Lib.hid hpt
      clear hpt
      go_wp2_with fail
      refine HPT.out.mono ?_
      rintro e wF ⟨rfl, hgF, huF⟩
      have HEND : Hid (PlEnd w0 xb hv hmv (.slice cp S.cs.length cc) mv cb co (kk + 1) S.cs wF) :=
        ⟨L, _, R, _, _, _, _, _, _, HP9.out.heap huF hgF rfl (fun i hi => .inl hi) (put_cs _ _ _ _), HOK.out, even_bnd (put_bnd _ _ _ _) HE.out, put_cs _ _ _ _⟩
      clear hgF huF HPT HP9
      go_wp2_with fail
      go_ret
      exact ⟨rfl, HEND.out⟩
    · obtain ⟨t, rfl⟩ : ∃ t : Nat, q = (t : Int) + 1 := ⟨(q - 1).toNat, by omega⟩
      have htr : t < rs.length := by omega
      have htt : t < ts.length := by omega
      have e4 : decide ((t : Int) ≥ 0) = true := decide_eq_true (by omega)
      rw [show (t : Int) + 1 - 1 = (t : Int) by omega]
      have hct := HC55.out t htt
      have hrt := HK.out.rt.2 t htr
      by_cases hneg : ts.getD t 0 < 0
      · as_aux_lemma =>
        have e5 : decide (ts.getD t 0 ≥ 0) = false := decide_eq_false (by omega)
        clear HV5 HC35 HC55 hm1 hc5
        generalize ts.getD t 0 = tt at hct e5 hneg hrt
        go_wp2_with fail
        clear hct
        have hmay := pl_may (S := S) (v := 0) HO1.out (i := (j : Int)) (by omega) (by omega) (fun _ => (.inl rfl))
        have HOK := Lib.hid (HK.out.put hkk HSK.out HRK.out hobp HPQ.out hjx hmay (x := -1) (by rw [if_pos hf]; exact HK.out.bd.zero))
        go_still_tail 13, (by kernel_rfl)
        change wpList _ _ _ _ _ w5.drew
        have hu9 : Upd [] w5 w5.drew := (Upd.refl _ _).drew
        have HP9 := Lib.hid (HP5.out.upd hu9)
        clear x0 x1 x2 x3 x4 x5 hck HP5
        generalize w5.drew = w9 at HP9 ⊢
        clear hu9
        have hpt := gput HP9.out.gc r j (0) (by omega) (by omega)
        rw [hmay, if_pos rfl] at hpt
        have HPT := Lib.hid hpt
        clear hpt
        go_wp2_with fail
        refine HPT.out.mono ?_
        rintro e wF ⟨rfl, hgF, huF⟩
        have HEND : Hid (PlEnd w0 xb hv hmv (.slice cp S.cs.length cc) mv cb co (kk + 1) S.cs wF) :=
          ⟨L, _, R, _, _, _, _, _, _, HP9.out.heap huF hgF rfl (fun i hi => .inl hi) (put_cs _ _ _ _), HOK.out, even_bnd (put_bnd _ _ _ _) HE.out, put_cs _ _ _ _⟩
        clear hgF huF HPT HP9
        go_wp2_with fail
        go_ret
        exact ⟨rfl, HEND.out⟩
      · as_aux_lemma =>
        have e5 : decide (ts.getD t 0 ≥ 0) = true := decide_eq_true (by omega)
        obtain ⟨o1, -, -, -⟩ := HK.out.bd.obj hrt (by omega)
        have hle := HSK.out.le o1
        have hsl := HSK.out.len
        have hcr := HC35.out t htr
        have HRT := Lib.hid hrt
        have HO := Lib.hid o1
        have hcj := cell_of HV5.out j
        rw [icells_get _ _ (by rw [List.length_set]; exact hjx)] at hcj
        have hfj := froz_of HV5.out j
        clear hrt o1
        generalize ts.getD t 0 = tt at hct e5 hneg HRT
        generalize rs.getD t 0 = rr at hcr hle HRT HO
        have hrr : 1 ≤ rr ∧ rr ≤ 65536 := by omega
        clear hle hsl
        go_wp2_with fail
        go_still_tail 23, (by kernel_rfl)
        change wpList _ _ _ _ _ w5.drew
        have hu6 : Upd [] w5 w5.drew := (Upd.refl _ _).drew
        have HP6 := Lib.hid (HP5.out.upd hu6)
        have hcj := hu6.cell hcj (by simp)
        have hfj := froz_of (hu6.heap HV5.out (by simp)) j
        have HCK6 := Lib.hid (hu6.cell hck (by simp))
        clear x0 x1 x2 x3 x4 x5 hm1 hc5 hct hcr HP5 HV5 HC35 HC55 hck hu6
        generalize w5.drew = w6 at HP6 hcj hfj HCK6 ⊢
        have hus := (Upd.refl [qb] w6).setCell (p := ⟨qb, j, none⟩) (.inl (by simp)) (.int .i64 tt)
        have hp7 := HP6.out.setv (ob := ob) (by rw [List.length_set]; exact hobp) (by rw [List.getElem_set_self]) j tt
        rw [List.set_set, List.set_set] at hp7
        have HP7 := Lib.hid hp7
        have hck := hus.cell HCK6.out (by simpa using hrq)
        clear hp7 HP6 HCK6
        go_upto_region 55 with fail
        clear hus hcj hfj
        generalize w6.setCell ⟨qb, j, none⟩ (.int .i64 tt) = w7 at HP7 hck ⊢
        obtain ⟨x0, x1, x2, x3, x4, x5⟩ := HP7.out.cells
        have hmay := pl_may (S := S) (v := rr) HO1.out (i := (j : Int)) (by omega) (by omega) (fun _ => (.inr ⟨hrr.1, hrr.2, HO.out⟩))
        have HOK := Lib.hid (HK.out.put hkk HSK.out HRK.out hobp HPQ.out hjx hmay (x := tt) (by rw [if_pos hf]; exact HRT.out))
        go_still_tail 13, (by kernel_rfl)
        change wpList _ _ _ _ _ w7.drew
        have hu9 : Upd [] w7 w7.drew := (Upd.refl _ _).drew
        have HP9 := Lib.hid (HP7.out.upd hu9)
        clear x0 x1 x2 x3 x4 x5 hck HP7
        generalize w7.drew = w9 at HP9 ⊢
        clear hu9
        have hpt := gput HP9.out.gc r j (rr) (by omega) (by omega)
        rw [hmay, if_pos rfl] at hpt
        have HPT := Lib.hid hpt
        clear hpt
        go_wp2_with fail
        refine HPT.out.mono ?_
        rintro e wF ⟨rfl, hgF, huF⟩
        have HEND : Hid (PlEnd w0 xb hv hmv (.slice cp S.cs.length cc) mv cb co (kk + 1) S.cs wF) :=
          ⟨L, _, R, _, _, _, _, _, _, HP9.out.heap huF hgF rfl (fun i hi => .inl hi) (put_cs _ _ _ _), HOK.out, even_bnd (put_bnd _ _ _ _) HE.out, put_cs _ _ _ _⟩
        clear hgF huF HPT HP9
        go_wp2_with fail
        go_ret
        exact ⟨rfl, HEND.out⟩
end
end Go.Proofs.YtneeljhjfmcdoaaDoor
