/- GcChain: the walk. -/
import Derived.Test.YtneeljhjfmcdoaaDoorChL
import Derived.Test.YtneeljhjfmcdoaaDoorSameO
import Derived.Test.YtneeljhjfmcdoaaDoorFrame
namespace Go.Proofs.YtneeljhjfmcdoaaDoor
open Go.RowKit

set_option maxRecDepth 100000 in
set_option maxHeartbeats 8000000 in
theorem chW_any (x v : Int) (drop : Bool) (w : World) (hT : TzAt w) :
    Calls Tryd.prog 4 #[.int .i64 x, .int .i64 v, .bool drop] w fun e w' => e = .returned (.bool true) ∧ Upd [] w w' := by
  have HF := Lib.hid (first12_any w hT)
  have HT := Lib.hid hT
  have e1 := and_15 x
  have hn0 := Int.emod_nonneg x (show (16 : Int) ≠ 0 by omega)
  have hn1 := Int.emod_lt_of_pos x (show (0 : Int) < 16 by omega)
  clear hT
  go_enter Tryd.func4, Tryd.ntmps4
  go_wp2_with fail
  refine HF.out.mono ?_
  rintro e wz ⟨rfl, huz⟩
  have HUZ := Lib.hid huz
  have HTZ := Lib.hid (HT.out.upd huz (by simp))
  clear huz HF HT
  go_upto_region 3 with fail
  go_cut [0, 8] (fun s q wx => ∃ n : Nat, s = .int .i64 (n : Int) ∧ q = .pointer (some ⟨wz.heap.size + 1 + 1 + 1, 0, none⟩) ∧ 1 ≤ n ∧ n ≤ 16 ∧ Hid (OnePrg wz wx IR))
  case first =>
    go_wp2_with fail
    go_meet
    exact ⟨(x % 16 + 1).toNat, by rw [show (((x % 16 + 1).toNat : Nat) : Int) = x % 16 + 1 by omega], rfl, by omega, by omega, onePrg wz IR⟩
  case rest =>
    obtain ⟨n, rfl, rfl, hn, hn2, HP⟩ := hcut
    obtain ⟨wp, rfl⟩ : ∃ wp : World, wp = wc := ⟨_, rfl⟩
    clear e1 hn0 hn1
    have c0 := HP.out.c0
    have c1 := HP.out.c1
    have HN := Lib.hid (newat_any _ (.slice (some ⟨wz.heap.size + 1 + 1, 0, none⟩) 1 1) wz.heap.size 0 [IR] 1000 200 wp HP.out.cls (by omega) (by omega) (by omega) (by simp) (by simp; decide) (HTZ.out.upd HP.out.up (by simp)))
    go_wp2_with fail
    refine HN.out.mono ?_
    rintro e w1 ⟨L, cv, mv, rfl, hg, hu1⟩
    have HU0 := Lib.hid (HUZ.out.trans HP.out.up)
    have HG1 := Lib.hid hg
    clear hg hu1 c0 c1 HN HTZ HUZ
    go_wp2_with fail
    obtain ⟨o1, o2, o3, o4⟩ := ch_old HG1.out.hp.ok HG1.out.hp.bg.2.2.2.1
    have hc := gold HG1.out 0 0
    rw [o1, o2, o3] at hc
    have HC := Lib.hid hc
    clear hc
    refine HC.out.mono ?_
    rintro e w2 ⟨rfl, hg, hu2⟩
    have HG2 := Lib.hid hg
    have HA := Lib.hid o4
    clear hg hu2 o1 o2 o3 o4 HC HG1
    go_wp2_with fail
    go_loopw [12, 13, 14] (fun isv lv iv wr => ∃ (i : Nat) (S : Hp), i ≤ n ∧ isv = .bool true ∧ lv = .int .i64 (chL i) ∧ iv = .int .i64 i ∧ Hid (GcAt wp wr L cv mv S) ∧ Hid (ChA S i (8 * (i : Int)) i)) (fun _ _ iv _ => n - (intOf iv).toNat)
    case atStart => exact ⟨0, _, by omega, rfl, rfl, rfl, HG2.out, HA.out⟩
    case round =>
      clear HG2 HA
      obtain ⟨i, S, hi, rfl, rfl, rfl, HG, HA⟩ := hrel
      obtain ⟨wo, rfl⟩ : ∃ wo : World, wo = wr := ⟨_, rfl⟩
      by_cases hlt : i < n
      · have e1 : decide ((i : Int) < (n : Int)) = true := decide_eq_true (by omega)
        obtain ⟨y1, y2, y3, y4⟩ := ch_young HA.out HG.out.hp.ok HG.out.hp.bg.2.2.2.1 HG.out.inv.wide (by omega) (Nat.le_refl _)
        have hy := gyoung HG.out 0 0
        rw [y1, y2] at hy
        have HY := Lib.hid hy
        have HA4 := Lib.hid (y4 (chL_succ i))
        clear y1 y2 y3 y4 hy
        go_wp2_with fail
        refine HY.out.mono ?_
        rintro e w3 ⟨rfl, hg, _⟩
        have HG3 := Lib.hid hg
        clear hg HY HG HA
        generalize S.layK 0 0 0 = S3 at HG3 HA4
        obtain ⟨y1, y2, y3, _⟩ := ch_young HA4.out HG3.out.hp.ok HG3.out.hp.bg.2.2.2.1 HG3.out.inv.wide (by omega) (by omega)
        have hy := gyoung HG3.out 0 0
        rw [y1, y2] at hy
        have HY := Lib.hid hy
        have HA5 := Lib.hid y3
        clear y1 y2 y3 hy
        go_wp2_with fail
        refine HY.out.mono ?_
        rintro e w4 ⟨rfl, hg, _⟩
        have HG4 := Lib.hid hg
        clear hg HY HG3 HA4
        generalize S3.layK 0 0 0 = S4 at HG4 HA5
        have hwr : -9223372036854775808 ≤ wrap64 (v + (i : Int)) ∧ wrap64 (v + (i : Int)) ≤ 9223372036854775807 := by unfold wrap64; omega
        obtain ⟨p1, p2⟩ := ch_put0 HA5.out HG4.out.hp.ok (i + 1) (Nat.le_refl _) (wrap64 (v + (i : Int)))
        have hp := gput HG4.out (chL (i + 1)) 0 (wrap64 (v + (i : Int))) (by have := chL_bd (i + 1) (by omega); omega) hwr
        rw [p1, if_pos rfl] at hp
        rw [chL_succ] at hp
        have HPC := Lib.hid hp
        have HA6 := Lib.hid p2
        have HCS := Lib.hid (chL_succ i).symm
        clear p1 p2 hp hwr
        go_wp2_with fail
        refine HPC.out.mono ?_
        rintro e w5 ⟨rfl, hg, _⟩
        have HG5 := Lib.hid hg
        clear hg HPC HG4 HA5
        rw [HCS.out] at HG5
        generalize S4.put (chL (i + 1)) 0 (wrap64 (v + (i : Int))) = S5 at HG5 HA6
        obtain ⟨p1, p2⟩ := ch_put1 HA6.out HG5.out.hp.ok (Nat.le_refl _) (by omega)
        have hb1 := chL_bd (i + 1) (by omega)
        have hb0 := chL_bd i (by omega)
        have hp := gput HG5.out (chL i) 1 (chL (i + 1)) (by omega) (by omega)
        rw [p1, if_pos rfl] at hp
        rw [chL_succ] at hp
        have HPC := Lib.hid hp
        have HA7 := Lib.hid p2
        clear p1 p2 hp hb1 hb0
        go_wp2_with fail
        refine HPC.out.mono ?_
        rintro e w6 ⟨rfl, hg, _⟩
        have HG6 := Lib.hid hg
        clear hg HPC HG5 HA6
        rw [HCS.out] at HG6
        generalize S5.put (chL i) 1 (chL (i + 1)) = S6 at HG6 HA7
        rw [HCS.out]
        go_wp2_with fail
        go_roundw
        case rel =>
          refine ⟨i + 1, S6, by omega, rfl, rfl, by go_num, HG6.out, ?_⟩
          have h9 := HA7.out
          rw [show 8 * (i : Int) + 4 + 4 = 8 * ((i + 1 : Nat) : Int) by omega] at h9
          exact h9
        case measure => simp [intOf]; omega
      · obtain rfl : i = n := by omega
        have e1 : decide ((i : Int) < (i : Int)) = false := decide_eq_false (by omega)
        have hsh := ch_shape HA.out HG.out.hp.ok (by omega)
        have HSZ : Hid (∀ i ∈ L.own, i < wo.heap.size) := fun i hi => HG.out.hi _ (HL.sub hi)
        have HLN : Hid (∀ i ∈ L.all, i < wo.heap.size) := HG.out.hi
        have HG3 := Lib.hid (HG.out.upd ((Upd.refl [] wo).alloc (.cells #[.int .i64 201] 3)))
        have hcn := cell_of (heap_alloc_new wo (.cells #[.int .i64 201] 3))
        have HC := Lib.hid (gshape HG3.out (some ⟨wo.heap.size, 0, none⟩) 1 wo.heap.size [201] (by simp) (.inr rfl) (fun j hj => by
          obtain rfl : j = 0 := by simpa using hj
          rw [hcn]; rfl) (fun r hr => by simp at hr; omega))
        have HIS : Hid (S.is 201 = true) := (HA.out.objs 0 (by omega)).1
        have HSH := Lib.hid hsh
        clear hcn hsh
        go_wp2_with fail
        refine HC.out.mono ?_
        rintro e w4 ⟨uv, av, ps, ov, od, rfl, hout, hps, hu4⟩
        have hor := hout.objsR hps
        have HG4 := Lib.hid (HG3.out.upd hu4)
        have hs3 : (wo.alloc (.cells #[.int .i64 201] 3)).heap.size = wo.heap.size + 1 := by simp
        have hs4 := hu4.size
        rw [hs3] at hor hs4
        obtain ⟨p4, k4, rfl, _⟩ := id hor
        have HOR := Lib.hid hor
        clear hout hps hu4 hor HC HG HG3 hs3
        have HG5 := Lib.hid (HG4.out.upd ((Upd.refl [] w4).alloc (.cells #[.int .i64 201] 3)))
        have hcn := cell_of (heap_alloc_new w4 (.cells #[.int .i64 201] 3))
        have HC := Lib.hid (gminor2 HG5.out (some ⟨w4.heap.size, 0, none⟩) 1 w4.heap.size [201] (by simp) (.inr rfl) (fun j hj => by
          obtain rfl : j = 0 := by simpa using hj
          rw [hcn]; rfl) (fun r hr => by simp at hr; omega) (fun hm => by have := HSZ.out _ hm; omega))
        have HU5 := Lib.hid ((Upd.refl [] w4).alloc (.cells #[.int .i64 201] 3))
        clear hcn
        rw [HSH.out.1]
        go_wp2_with fail
        refine HC.out.mono ?_
        rintro e w6 ⟨vv, rfl, hend, hu6⟩
        rcases hend with ⟨h9, _⟩ | ⟨_, sc, M, bg, L', u, hd, rfl, ho, hg, hb, hs6, hso, hcb⟩
        · have := ch_minor HA.out (by omega); omega
        have HOR6 := Lib.hid ((HOR.out.upd HU5.out (by simp)).upd hu6 (fun q hq => .inl (by have := HSZ.out q hq; omega)))
        have hB := ch_left HA.out HG5.out.inv hd
        have hmk := left_marks S false M bg
        have hg' : GcAt wp w6 L' cv mv (S.left false M bg) := hg
        change plus1 (blist (S.left false M bg).mr) = [] at hmk
        have ho' : OwnI w6 (w4.alloc (.cells #[.int .i64 201] 3)).heap.size 3 u [fwL M.mv 201] := ho
        have hvals : ∀ o ∈ (S.shape [201]).1, o.2.length ≤ 100000 := fun o ho => by
          have h1 : ∀ l : List (Int × List Int), o ∈ l → 2 + (o.2.length : Int) ≤ wordsO l := by
            intro l
            induction l with
            | nil => intro h; cases h
            | cons a t ih =>
              intro h
              have hn := wordsO_nonneg t
              simp only [wordsO]
              rcases List.mem_cons.1 h with h | h
              · rw [h]; omega
              · have := ih h; omega
          have := h1 _ ho
          have := HSH.out.2
          omega
        have HVL := Lib.hid hvals
        have HLB : Hid (∀ q ∈ L'.own, q < wo.heap.size ∨ w4.heap.size ≤ q) := fun q hq => by
          rcases hso q hq with h | h
          · exact .inl (HSZ.out q h)
          · right
            have := HU5.out.size
            omega
        have HB := Lib.hid hB
        have HMK := Lib.hid hmk
        have HWD := Lib.hid HSH.out.2
        have HLEN := Lib.hid HSH.out.1
        have HHB := Lib.hid hb
        clear hd hg ho hmk hB hvals hs6 hso HSH HA HG4 HG5 HC HU5 HOR hu6 hb hcb HIS
        generalize S.left false M bg = S1 at hg' HB HMK
        generalize fwL M.mv 201 = r at ho' HB
        generalize (S.shape [201]).1 = os at HB HWD HLEN HVL HOR6
        have HG6 := Lib.hid hg'
        have HO6 := Lib.hid ho'
        have hr1 := hg'.rng (rs := [r]) (fun q hq => by
          obtain rfl : q = r := by simpa using hq
          exact .inr HB.out.is)
        have HRR := Lib.hid hr1
        rcases HO6.out.form with ⟨_, h2⟩ | ⟨g, c, rfl, hc1, hgb, hgl, hcell⟩
        · cases h2
        have hc0 := hcell 0 (by simp)
        simp only [List.getD_cons_zero] at hc0
        have hgo : g ∉ L'.own := hg'.free HO6.out g rfl
        have HC := Lib.hid (gshape HG6.out (some ⟨g, 0, none⟩) c g [r] (by simp) (.inr rfl) (fun j hj => by
          obtain rfl : j = 0 := by simpa using hj
          exact hc0) HRR.out)
        rw [HHB.out] at HC
        have HGO := Lib.hid hgo
        have hc6 := hc0
        clear hg' ho' hr1 hcell hgo hc0
        go_wp2_with fail
        refine HC.out.mono ?_
        rintro e w7 ⟨uv, av, ps, ov, od, rfl, hout, hps, hu7⟩
        have hps2 : ps.map OP.o = os := hps.trans (congrArg Prod.fst HB.out.shape)
        have HOV := Lib.hid (hout.objsV hps2)
        have HOR7 := Lib.hid ((HOR6.out.upd hu7 (by simp)).v)
        have HG7 := Lib.hid (HG6.out.upd hu7)
        have hc7 := hu7.cell hc6 (by simp)
        obtain ⟨p7, k7, rfl, _⟩ := HOV.out
        have HC7 := Lib.hid hc7
        have HSO := Lib.hid (sobjs _ _ os os w7 HOR7.out HOV.out (by rw [HLEN.out]; omega) HVL.out)
        rw [HLEN.out, decide_eq_true (rfl : os = os)] at HSO
        have HLE2 := Lib.hid (show os.length = i + 1 from HLEN.out)
        rw [HLEN.out]
        clear hout hps hu7 hps2 HC hc6 hc7 HOR6 HG6
        go_wp2_with fail
        refine HSO.out.mono ?_
        rintro e w8 ⟨rfl, hu8⟩
        have HG8 := Lib.hid (HG7.out.upd hu8)
        have HC8 := Lib.hid (hu8.cell HC7.out (by simp))
        have HC := Lib.hid (marked_any L' cv mv S1 w8 HG8.out.hp HG8.out.tt)
        rw [HHB.out, HMK.out] at HC
        have d1 : (((i : Int) + 1) != ((i : Int) + 1)) = false := by simp
        clear hu8 HSO HG7 HC7 HOR7 HOV
        go_wp2_with fail
        refine HC.out.mono ?_
        rintro e w9 ⟨um, rfl, hom, hu9⟩
        have HG9 := Lib.hid (HG8.out.upd hu9)
        have hc9 := hu9.cell HC8.out (by simp)
        have HC9 := Lib.hid hc9
        obtain ⟨pm, cm, rfl⟩ := ownI_shape hom
        have d2 : ((((([] : List Int).length : Nat)) : Int) != 0) = false := by simp
        clear hu9 HC HG8 HC8 hom hc9
        go_upto_if 137 with fail
        go_cut [18] (fun lv wx => ∃ (p : Option Addr) (k : Nat), lv = .slice p (if drop = true then [] else [r] : List Int).length k ∧ ((if drop = true then [] else [r] : List Int) = [] ∨ p = some ⟨g, 0, none⟩) ∧ w9 = wx)
        case first =>
          cases drop
          · go_wp2_with fail
            go_meet
            exact ⟨_, _, rfl, .inr rfl, rfl⟩
          · go_wp2_with fail
            go_meet
            exact ⟨_, _, rfl, .inl rfl, rfl⟩
        case rest =>
          obtain ⟨pl, kl, rfl, hpl, rfl⟩ := hcut
          have hroom := chB_room HB.out HG9.out.hp.ok drop (by rw [HWD.out]; omega)
          have hused := fun sc M bg => @chB_used S1 r os HB.out HG9.out.hp.ok HG9.out.inv drop sc M bg
          have HRS : Hid (∀ q ∈ (if drop = true then [] else [r] : List Int), q = 0 ∨ S1.is q = true) := fun q hq => by
            cases drop
            · obtain rfl : q = r := by simpa using hq
              exact .inr HB.out.is
            · cases hq
          have HCL : Hid (∀ j, j < (if drop = true then [] else [r] : List Int).length → w9.cell? ⟨g, j, none⟩ = some (.int .i64 ((if drop = true then [] else [r] : List Int).getD j 0))) := fun j hj => by
            cases drop
            · obtain rfl : j = 0 := by simpa using hj
              exact HC9.out
            · cases hj
          have HLL : Hid ((if drop = true then [] else [r] : List Int).length ≤ 1) := by
            cases drop
            · exact Nat.le_refl 1
            · exact Nat.zero_le 1
          have HUS := Lib.hid hused
          have HRM := Lib.hid hroom
          clear hroom hused
          generalize (if drop = true then [] else [r] : List Int) = rs at hpl HRS HCL HLL HUS HRM ⊢
          have HPL := Lib.hid hpl
          have hrr := HG9.out.rng HRS.out
          have HLL := HLL
          have HC := Lib.hid (gmajor2 HG9.out pl kl g rs (by have := HLL.out; omega) hpl HCL.out hrr HGO.out)
          rw [HHB.out] at HC
          clear hpl hrr HGO
          go_wp2_with fail
          refine HC.out.mono ?_
          rintro e wA ⟨vv, rfl, hend, _⟩
          rcases hend with ⟨h9, _⟩ | ⟨_, sc, M, bg, L2, u2, hd, rfl, ho, hg, hb2, _⟩
          · have := HRM.out; omega
          have hrt := done_root (mr := List.replicate ((S1.A.length + 63) / 64) 0) hd HRS.out
          have hus := HUS.out sc M bg hd
          have hg2 : GcAt wp wA L2 cv mv (S1.left true M bg) := hg
          have hrt2 : ∀ q ∈ rs.map (fwL M.mv), q = 0 ∨ (S1.left true M bg).is q = true := hrt
          clear hd hg hrt HRS HCL HUS HRM HC HG9 HMK
          generalize S1.left true M bg = S2 at hg2 hrt2 hus
          have HGA := Lib.hid hg2
          have HRT := Lib.hid hrt2
          have HHB2 := Lib.hid (hb2.trans HHB.out)
          have HUSE := Lib.hid hus
          obtain ⟨pu, cu, rbu, rfl, hpu, hcu, _⟩ := own_arg ho
          have HPU := Lib.hid hpu
          have HCU := Lib.hid hcu
          have HML : Hid ((rs.map (fwL M.mv)).length = rs.length) := List.length_map _
          clear hg2 hrt2 hb2 hus hpu hcu ho
          generalize rs.map (fwL M.mv) = rs2 at HRT HPU HCU HML ⊢
          rw [HML.out]
          obtain ⟨q, hq⟩ : ∃ q : Int, q = if drop = true then 0 else wordsO os := ⟨_, rfl⟩
          have hus2 := HUSE.out.2
          rw [← hq] at hus2
          have hq0 : 0 ≤ q ∧ q ≤ 68 := by
            rw [hq]
            have := HWD.out
            split <;> omega
          have HC := Lib.hid (hroom_any L2 cv mv S2 wA HGA.out.hp)
          rw [HHB2.out, hus2] at HC
          have HQ : Hid (q = if drop = true then 0 else 4 * ((i : Int) + 1)) := by
            show q = _
            rw [hq, HWD.out]
            rfl
          clear hus2 hq
          go_wp2_with fail
          refine HC.out.mono ?_
          rintro e wB ⟨rfl, nB, hwB⟩
          have huB := (Upd.refl [] wA).drewN nB
          rw [← hwB] at huB
          have HGB := Lib.hid (HGA.out.upd huB)
          have HUB := Lib.hid huB
          clear hwB huB HC
          have HC := Lib.hid (size_any L2 cv mv S2 wB HGB.out.hp)
          rw [HHB2.out, HUSE.out.1] at HC
          go_wp2_with fail
          refine HC.out.mono ?_
          rintro e wD ⟨rfl, nD, hwD⟩
          have huD := (Upd.refl [] wB).drewN nD
          rw [← hwD] at huD
          have HGD := Lib.hid (HGB.out.upd huD)
          have HCD : Hid (∀ j, j < rs2.length → wD.cell? ⟨rbu, j, none⟩ = some (.int .i64 (rs2.getD j 0))) := fun j hj => huD.cell (HUB.out.cell (HCU.out j hj) (by simp)) (by simp)
          clear hwD huD HC HGB HUB HCU HGA
          obtain ⟨wE, rfl⟩ : ∃ wE : World, wE = wD := ⟨_, rfl⟩
          go_upto_if 157 with fail
          go_cut [28] (fun uv wx => uv = .int .i64 q ∧ wE = wx)
          case first =>
            cases drop
            · have hq2 : q = 4 * ((i : Int) + 1) := HQ.out
              subst hq2
              go_wp2_with fail
              go_meet
              exact ⟨rfl, rfl⟩
            · have hq2 : q = 0 := HQ.out
              subst hq2
              go_wp2_with fail
              go_meet
              exact ⟨rfl, rfl⟩
          case rest =>
            obtain ⟨rfl, rfl⟩ := hcut
            have d3 : ((400 : Int) - (400 - q) == q) = true := by simp; omega
            have d4 : ((rs.length : Int) == (rs.length : Int)) = true := by simp
            have HC := Lib.hid (gverify HGD.out pu cu rbu rs2 (by rw [HML.out]; have := HLL.out; omega) HPU.out HCD.out HRT.out)
            rw [HHB2.out, HML.out] at HC
            go_wp2_with fail
            refine HC.out.mono ?_
            rintro e wF ⟨rfl, huF⟩
            have HU := Lib.hid (HU0.out.trans (HGD.out.up.trans huF))
            clear huF HC
            go_wp2_with fail
            go_ret
            exact ⟨rfl, HU.out⟩
end Go.Proofs.YtneeljhjfmcdoaaDoor
