/- flow.walk: the walk. -/
import Derived.Test.YtjjkliifpdcliaaDoorWalkP
import Derived.Deep.QuietTactic
import Derived.BigQuiet
import Derived.Deep.DeepCutAuto
import Derived.IntWalk
namespace Go.Proofs.YtjjkliifpdcliaaDoor
open Go.RowKit

set_option maxRecDepth 100000 in
set_option maxHeartbeats 8000000 in
theorem walk_any (v : Value) (g : List (List Int)) (w : World) (h : RowsAt w v g) (hn : g.length ≤ 1000) (hr : ∀ l ∈ g, l.length ≤ 100000) :
    Calls Tryd.prog 35 #[v] w fun e w' => ∃ sb pv bv bs, e = .returned (.tuple #[.slice (some ⟨sb, 0, none⟩) g.length g.length, pv, bv]) ∧ WkEnd w' w.heap.size sb pv bv (dfs (cleanG g)) bs ∧ Upd [] w w' := by
  obtain ⟨i0, hi, hz0, hz1, hz2⟩ := info_parts Tryd.infoInt
  have HI := Lib.hid hi
  have HZ0 := Lib.hid hz0
  have HZ1 := Lib.hid hz1
  have HZ2 := Lib.hid hz2
  clear hi hz0 hz1 hz2
  obtain ⟨i1, hi, hz0, hz1, hz2⟩ := info_parts Tryd.infoRow
  have JI := Lib.hid hi
  have JZ0 := Lib.hid hz0
  have JZ1 := Lib.hid hz1
  have JZ2 := Lib.hid hz2
  clear hi hz0 hz1 hz2
  have hmk1 := fun w => make_intsN w g.length (by omega)
  have HCL := Lib.hid (clean_any v g w h (by omega) hr)
  have HCC := Lib.hid (cleanG_clean g)
  have HCLL := Lib.hid (cleanG_len g)
  obtain ⟨a, cap, rfl, hl, _⟩ := h
  unfold maxLen at hl
  go_enter Tryd.func35, Tryd.ntmps35
  go_wp2_with fail
  refine HCL.out.mono ?_
  rintro e w1 ⟨gc, vc, rfl, hC, hu1⟩
  have HC := Lib.hid hC
  have hgcl := lt_of_heap hC.blk
  clear hC HCL
  generalize hcg : cleanG g = c at HC HCC HCLL
  have HCG := Lib.hid hcg
  clear hcg
  by_cases h0 : g.length = 0
  · have d0 : ((g.length : Int) == 0) = true := by rw [beq_iff_eq]; omega
    have HD : Hid (dfs c = ⟨[], [], [], [], []⟩) := by
      have : c = [] := List.eq_nil_of_length_eq_zero (by have := HCLL.out; omega)
      subst this
      rfl
    have H0 := Lib.hid h0
    clear h0
    go_wp2_with fail
    go_ret3
    refine ⟨_, _, _, [], rfl, ?_, hu1.alloc _⟩
    rw [HCG.out, HD.out]
    have hh := heap_alloc_new w1 (.cells (icells (List.replicate g.length 0)) 3)
    rw [H0.out] at hh ⊢
    exact ⟨hh, hu1.size, OwnI.nil _ _ _, World.ownsRow_nil _ _ _ _, rfl, fun i hi => by simp at hi⟩
  · have d0 : ((g.length : Int) == 0) = false := by rw [beq_eq_false_iff_ne]; omega
    have hg0 : 0 < g.length := by omega
    have HNE : Hid (c ≠ []) := fun e => by have := HCLL.out; rw [e] at this; simp at this; omega
    clear h0
    have hzl : 0 < (icells (List.replicate g.length 0)).size := by rw [icells_size]; simp; omega
    have hz0 : (icells (List.replicate g.length 0))[0]? = some (.int .i64 0) := by
      rw [icells_get _ _ (by simp; omega)]
      rw [List.getD_eq_getElem?_getD, List.getElem?_replicate, if_pos (by omega)]; rfl
    have hU3 : Upd [w1.heap.size, w1.heap.size + 1] w1 (((w1.alloc (.cells ((icells (List.replicate g.length 0)).setIfInBounds 0 (.int .i64 1)) 3)).alloc (.cells (icells (List.replicate g.length 0)) 3)).alloc (.cells #[.int .i64 0] 3)) := (((Upd.refl _ w1).alloc _).alloc _).alloc _
    have hz3 : w1.heap.size + 2 ≤ (((w1.alloc (.cells ((icells (List.replicate g.length 0)).setIfInBounds 0 (.int .i64 1)) 3)).alloc (.cells (icells (List.replicate g.length 0)) 3)).alloc (.cells #[.int .i64 0] 3)).heap.size := by simp
    have hW : WkSt (((w1.alloc (.cells ((icells (List.replicate g.length 0)).setIfInBounds 0 (.int .i64 1)) 3)).alloc (.cells (icells (List.replicate g.length 0)) 3)).alloc (.cells #[.int .i64 0] 3)) (w1.heap.size + 2) w1.heap.size (w1.heap.size + 1) (.slice none 0 0) (.slice none 0 0) (.slice (some ⟨w1.heap.size + 1 + 1, 0, none⟩) 1 1) (Dfs.init c.length) [] := by
      have hS0 := (((Upd.refl [] (w1.alloc (.cells ((icells (List.replicate g.length 0)).setIfInBounds 0 (.int .i64 1)) 3))).alloc (.cells (icells (List.replicate g.length 0)) 3)).alloc (.cells #[.int .i64 0] 3)).heap (heap_alloc_new w1 (.cells ((icells (List.replicate g.length 0)).setIfInBounds 0 (.int .i64 1)) 3)) (by simp)
      have hS1 := ((Upd.refl [] ((w1.alloc (.cells ((icells (List.replicate g.length 0)).setIfInBounds 0 (.int .i64 1)) 3)).alloc (.cells (icells (List.replicate g.length 0)) 3))).alloc (.cells #[.int .i64 0] 3)).heap (heap_alloc_new (w1.alloc (.cells ((icells (List.replicate g.length 0)).setIfInBounds 0 (.int .i64 1)) 3)) (.cells (icells (List.replicate g.length 0)) 3)) (by simp)
      have hS2 := heap_alloc_new ((w1.alloc (.cells ((icells (List.replicate g.length 0)).setIfInBounds 0 (.int .i64 1)) 3)).alloc (.cells (icells (List.replicate g.length 0)) 3)) (.cells #[.int .i64 0] 3)
      rw [World.size_alloc] at hS1
      rw [World.size_alloc, World.size_alloc] at hS2
      rw [icells_set] at hS0 hS1 hS2 ⊢
      have e : ints (List.replicate c.length 0) = List.replicate g.length 0 := by rw [HCLL.out]; simp [ints]
      have e2 : ints ((List.replicate c.length 0).set 0 1) = (List.replicate g.length 0).set 0 1 := by rw [← e]; unfold ints; rw [List.map_set]; rfl
      refine ⟨?_, ?_, OwnI.nil _ _ _, ?_, World.ownsRow_nil _ _ _ _, rfl, fun i hi => by simp at hi, fun k hk => by simp [Value.ownBlock] at hk, fun i hi => by simp at hi, by omega, by omega, by omega⟩
      · show _ = some (Obj.cells (icells (ints ((List.replicate c.length 0).set 0 1))) _)
        rw [e2]; exact hS0
      · show _ = some (Obj.cells (icells (ints (List.replicate c.length 0))) _)
        rw [e]; exact hS1
      · exact ⟨rfl, .inr ⟨w1.heap.size + 1 + 1, 1, _, rfl, Nat.le_refl _, hS2, Nat.le_refl _, by unfold maxLen; omega, rfl, rfl⟩⟩
    have HW := Lib.hid hW
    have HU3 := Lib.hid hU3
    have HZ3 := Lib.hid hz3
    clear hU3 hz3 hW
    go_wp2_with fail
    go_loopw [3, 4, 6] (fun pv bv kv wr => ∃ (t : Nat) (s : Dfs) (bs : List Nat), Hid (Dfs.run c (Dfs.init c.length) t = s) ∧ WkSt wr (w1.heap.size + 2) w1.heap.size (w1.heap.size + 1) pv bv kv s bs ∧ Upd [w1.heap.size, w1.heap.size + 1] w1 wr ∧ w1.heap.size + 2 ≤ wr.heap.size) (fun pv _ _ wr => edges c + c.length - (lenV pv + sumTo (natCells wr (w1.heap.size + 1)) c.length))
    case atStart => exact ⟨0, _, [], Hid.mk rfl, HW.out, HU3.out, HZ3.out⟩
    case round =>
      clear HW HU3 HZ3 hzl hz0
      obtain ⟨t, s, bs, hrun, hW, hU, hsz⟩ := hrel
      obtain ⟨wo, rfl⟩ : ∃ wo : World, wo = wr := ⟨_, rfl⟩
      have HCR := Lib.hid (fun (wr : World) (hU : Upd [w1.heap.size, w1.heap.size + 1] w1 wr) => HC.out.upd hU (fun hm => by simp at hm; omega) (fun q hq z hz hm => by
        have := ((HC.out.own q hq).lt z hz).2
        simp at hm; omega))
      by_cases hs : s.stk = []
      · have hE := run_end HCC.out HNE.out t (by rw [hrun.out]; exact hs)
        rw [hrun.out] at hE
        have hF := hW.fin (G := w.heap.size) hu1.size (by have := hu1.size; omega)
        obtain ⟨kp, kc, rfl⟩ := hW.stk.shape
        have hlk : (ints s.stk).length = 0 := by rw [hs]; rfl
        rw [hlk]
        have HF := Lib.hid hF
        have HE := Lib.hid hE
        have hUU := hu1.trans' hU (fun q hq hlt2 => by have := hu1.size; simp at hq; omega)
        clear hF hE hs hW hlk HCR
        go_wp2_with fail
        go_ret3
        refine ⟨_, _, _, bs, rfl, ?_, hUU⟩
        rw [HCG.out, ← HE.out]
        exact HF.out
      · obtain ⟨hI, hfar⟩ := run_inv HCC.out HNE.out t
        have hsmall := run_small HCC.out HNE.out (by rw [HCLL.out]; exact hn) t (by rw [hrun.out]; exact hs)
        rw [hrun.out] at hI hsmall
        have hstep := run_step t (by rw [hrun.out]; exact hs)
        rw [hrun.out] at hstep
        have hfs := far_step hI hs
        have hfl := (hI.step HCC.out hs).far_le
        have hfar0 := hW.far c
        have htop := hI.toplt hs
        have hord := hI.ordle
        have hlp : 0 < s.stk.length := List.length_pos_iff.2 hs
        obtain ⟨m, hm⟩ : ∃ m, s.stk.length = m + 1 := ⟨s.stk.length - 1, by omega⟩
        obtain ⟨kg, kc, rfl, _, _, hkt⟩ := hW.stk.nth m (by rw [ints_len]; omega)
        have hkc : m ≤ kc := by
          rcases hW.stk.form with ⟨h1, _⟩ | ⟨g2, c2, h1, h2, _⟩
          · cases h1
          · injection h1 with _ _ e
            rw [ints_len] at h2
            omega
        have htv : (ints s.stk).getD m 0 = (s.top : Int) := by
          rw [ints_get _ _ (by omega)]
          unfold Dfs.top
          rw [hm]; rfl
        rw [htv] at hkt
        have hpl : s.post.length ≤ 1000 := by have := HCLL.out; omega
        have hnx0 := hI.nxle s.top htop
        have hst0 := hI.stk1
        have hC1 := HCR.out wo hU
        have hti : s.top < (intsL c).length := by rw [intsL_len]; exact htop
        have hrowc := hC1.cell s.top hti
        have hrowo := hC1.own s.top hti
        rw [intsL_get] at hrowo
        obtain ⟨rp, rc, hrv⟩ := hrowo.shape
        rw [hrv, ints_len] at hrowc
        rw [hrv] at hrowo
        have hnl : s.top < s.nx.length := by rw [hI.lnx]; exact htop
        have hnc := cell_of hW.nx s.top
        rw [icells_get _ _ (by rw [ints_len]; exact hnl), ints_get _ _ hnl] at hnc
        have hsl : s.top < s.st.length := by rw [hI.lst]; exact htop
        have hsc := cell_of hW.st s.top
        rw [icells_get _ _ (by rw [ints_len]; exact hsl)] at hsc
        have hsf := froz_of hW.st s.top
        have hnf := froz_of hW.nx s.top
        have hll : (ints s.stk).length = m + 1 := by rw [ints_len]; exact hm
        rw [hll]
        have hml : ((m + 1 : Nat) : Int) - 1 = (m : Int) := by omega
        have htg : s.top < g.length := by have := HCLL.out; omega
        have hmb : m ≤ 1000 := by have := HCLL.out; omega
        have htgi : (s.top : Int) < (g.length : Int) := by omega
        have hdl : (c.getD s.top []).length ≤ 1000 := by
          have := len_leN _ _ (HCC.out s.top htop).1 (HCC.out s.top htop).2
          have := HCLL.out
          omega
        have HRO := Lib.hid hrowo
        rw [hll] at hW
        have HW := Lib.hid hW
        have HI2 := Lib.hid hI
        have HSTEP := Lib.hid hstep
        have HM := Lib.hid hm
        have HTV := Lib.hid htv
        have HFS : Hid ((s.step c).far c = s.far c + 1 ∧ s.far c < edges c + c.length ∧ lenV u3 + sumTo (natCells wo (w1.heap.size + 1)) c.length = s.far c) := Hid.mk ⟨hfs, by omega, hfar0⟩
        have HORD := Lib.hid hord
        clear hrowo hW hI hfar hstep hm htv hfs hfl hfar0 hst0 hll hC1 hti hrv hs hord
        by_cases hq : s.nx.getD s.top 0 = (c.getD s.top []).length
        · have hqb : (((s.nx.getD s.top 0 : Nat) : Int) == (((c.getD s.top []).length : Nat) : Int)) = true := by rw [beq_iff_eq]; omega
          have HST : Hid (s.step c = ⟨s.st.set s.top 2, s.nx, s.stk.take m, s.post ++ [s.top], s.back⟩) := by
            show _ = _
            unfold Dfs.step
            rw [if_pos hq, HM.out]; rfl
          clear hq
          generalize (c.getD s.top []).length = deg at hrowc hqb hdl hnx0
          generalize s.nx.getD s.top 0 = q at hnc hqb hnx0
          generalize s.top = i at *
          go_wp2_with fail
          go_quiet (fail)
          rename_i nq
          have hu5 : Upd [] wo (wo.drewN nq) := (Upd.refl _ _).drewN nq
          clear hnc hrowc hsc hsf hnf hkt
          generalize wo.drewN nq = w5 at hu5 ⊢
          have hW5 := HW.out.upd0 hu5
          have hU5 := hU.trans' hu5 (fun q hq => by simp at hq)
          have hs5 := hu5.size
          have hsc := cell_of hW5.st i
          rw [icells_get _ _ (by rw [ints_len]; exact hsl)] at hsc
          have hsf := froz_of hW5.st i
          have HW6 := Lib.hid (hW5.setSt i 2)
          have hu6 : Upd [w1.heap.size] w5 (w5.setCell ⟨w1.heap.size, i, none⟩ (.int .i64 2)) := (Upd.refl _ _).setCell (.inl (by simp)) _
          have hU6 := hU5.trans' hu6 (fun q hq hlt2 => by simp at hq; simp [hq])
          have hsz6 : (w5.setCell ⟨w1.heap.size, i, none⟩ (.int .i64 2)).heap.size = w5.heap.size := by simp [World.setCell]
          have hcut := fun w => cut_hi w kg (m + 1) kc m hkc
          clear hW5 hu6 hU5
          go_wp2_with (at_builtin; refine stop_here ?_)
          refine Hid.mk ?_
          have HW6' : Hid (WkSt (w5.setCell ⟨w1.heap.size, i, none⟩ (.int .i64 2)) (w1.heap.size + 2) w1.heap.size (w1.heap.size + 1) u3 u4 (.slice (some ⟨kg, 0, none⟩) (m + 1) kc) ⟨s.st.set i 2, s.nx, s.stk, s.post, s.back⟩ bs) := HW6.out
          clear hsc hsf HW6
          generalize w5.setCell ⟨w1.heap.size, i, none⟩ (.int .i64 2) = w6 at HW6' hU6 hsz6 ⊢
          have hcn := cell_of (heap_alloc_new w6 (.cells #[.int .i64 (i : Int)] 3))
          rw [hsz6] at hcn
          refine (wpList_append_own_at _ rfl _ _ 27 rfl (w1.heap.size + 2) 3 i0 (.int .i64 0) 1 8 Tryd.underlying27 HI.out HZ0.out HZ1.out HZ2.out rfl (by decide) _ _ _ rfl (HW6'.out.post.alloc _) ⟨w5.heap.size, 0, none⟩ 1 1 [.int .i64 (i : Int)] rfl rfl ?c1 ?c2 ?c3 ?c4 ?c5 ?c6)
          case c1 =>
            intro jj uu hjj
            rw [Addr.add_lit, Nat.zero_add, hcn]
            simpa using hjj
          case c2 => simp [Value.oneCell']
          case c3 => rw [ints_len]; unfold maxLen; show s.post.length + 1 ≤ _; omega
          case c4 => rw [ints_len]; show (s.post.length + 1) * 8 ≤ _; omega
          case c5 => simp; omega
          case c6 =>
            intro v' w7 hown hgr _ hat
            obtain ⟨hW7, hu7, hge7⟩ := HW6'.out.pushPost hown hgr hat
            have hml2 : m + 1 = s.stk.length := HM.out.symm
            have hW8 : WkSt w7 (w1.heap.size + 2) w1.heap.size (w1.heap.size + 1) v' u4 (.slice (some ⟨kg, 0, none⟩) m kc) ⟨s.st.set i 2, s.nx, s.stk.take m, s.post ++ [i], s.back⟩ bs := by
              have h1 := hW7
              rw [hml2] at h1
              exact WkSt.pop (s := ⟨s.st.set i 2, s.nx, s.stk, s.post ++ [i], s.back⟩) m (by show m ≤ s.stk.length; omega) h1
            have hU7 := hU6.trans' hu7 (fun q hq hlt2 => by have := hge7 q hq; omega)
            have hs7 := hu7.size
            have hfar2 := hW8.far c
            have hrun2 : Hid (Dfs.run c (Dfs.init c.length) (t + 1) = ⟨s.st.set i 2, s.nx, s.stk.take m, s.post ++ [i], s.back⟩) := by
              show _ = _
              rw [HSTEP.out, HST.out]
            have HFAR : Hid (edges c + c.length - (lenV v' + sumTo (natCells w7 (w1.heap.size + 1)) c.length) < edges c + c.length - (lenV u3 + sumTo (natCells wo (w1.heap.size + 1)) c.length)) := by
              obtain ⟨a1, a2, a3⟩ := HFS.out
              rw [HST.out] at a1
              show _ < _
              omega
            have HW8 := Lib.hid hW8
            clear hown hgr hat hW7 hu7 hge7 hml2 hfar2 hcn hW8
            go_wp2_with fail
            go_roundw
            case rel => exact ⟨t + 1, _, bs, hrun2, HW8.out, hU7, by omega⟩
            case measure => exact HFAR.out
        · have hqb : (((s.nx.getD s.top 0 : Nat) : Int) == (((c.getD s.top []).length : Nat) : Int)) = false := by rw [beq_eq_false_iff_ne]; omega
          have hql : s.nx.getD s.top 0 < (c.getD s.top []).length := by omega
          obtain ⟨rg, rc2, e1, _, hrgl, hrk⟩ := HRO.out.nth (s.nx.getD s.top 0) (by rw [ints_len]; exact hql)
          injection e1 with e1 _ e3
          subst e1
          subst e3
          rw [ints_get _ _ hql] at hrk
          have hkl : (c.getD s.top []).getD (s.nx.getD s.top 0) 0 < c.length := (HCC.out s.top htop).2 _ (by
            rw [List.getD_eq_getElem?_getD (l := c.getD s.top []), List.getElem?_eq_getElem hql]
            exact List.getElem_mem hql)
          have HSTP : Hid (s.step c = if s.st.getD ((c.getD s.top []).getD (s.nx.getD s.top 0) 0) 0 = 0 then
              ⟨s.st.set ((c.getD s.top []).getD (s.nx.getD s.top 0) 0) 1, s.nx.set s.top (s.nx.getD s.top 0 + 1), s.stk ++ [(c.getD s.top []).getD (s.nx.getD s.top 0) 0], s.post, s.back⟩
            else if s.st.getD ((c.getD s.top []).getD (s.nx.getD s.top 0) 0) 0 = 1 then
              ⟨s.st, s.nx.set s.top (s.nx.getD s.top 0 + 1), s.stk, s.post, s.back ++ [(s.top, (c.getD s.top []).getD (s.nx.getD s.top 0) 0)]⟩
            else ⟨s.st, s.nx.set s.top (s.nx.getD s.top 0 + 1), s.stk, s.post, s.back⟩) := by
            show _ = _
            conv => lhs; unfold Dfs.step
            rw [if_neg hq]
          clear hq
          have hkg : (c.getD s.top []).getD (s.nx.getD s.top 0) 0 < g.length := by have := HCLL.out; omega
          have hksl : (c.getD s.top []).getD (s.nx.getD s.top 0) 0 < s.st.length := by rw [HI2.out.lst]; exact hkl
          have hrng := HI2.out.rng ((c.getD s.top []).getD (s.nx.getD s.top 0) 0)
          generalize (c.getD s.top []).getD (s.nx.getD s.top 0) 0 = k at hrk hkl HSTP hkg hksl hrng
          generalize (c.getD s.top []).length = deg at hrowc hqb hdl hnx0 hql
          generalize hqd : s.nx.getD s.top 0 = q at hnc hqb hnx0 hql hrk HSTP
          have HQD := Lib.hid hqd
          clear hqd
          generalize s.top = i at *
          have hqli : (q : Int) < (deg : Int) := by omega
          go_wp2_with fail
          go_quiet (fail)
          rename_i nq
          have hu5 : Upd [] wo (wo.drewN nq) := (Upd.refl _ _).drewN nq
          have hrowc5 := hu5.cell hrowc (by simp)
          have hnc5 := hu5.cell hnc (by simp)
          have hrk5 := hu5.cell hrk (by simp)
          clear hnc hrowc hsc hsf hnf hkt hrk
          generalize wo.drewN nq = w5 at hu5 hrowc5 hnc5 hrk5 ⊢
          have HW5 := Lib.hid (HW.out.upd0 hu5)
          have hU5 := hU.trans' hu5 (fun q hq => by simp at hq)
          have hs5 := hu5.size
          go_wp2_with fail
          go_quiet (fail)
          have hu6 : Upd [] w5 (w5.drewN nq) := (Upd.refl _ _).drewN nq
          clear hnc5 hrowc5 hrk5
          generalize w5.drewN nq = w6 at hu6 ⊢
          have hW6 := HW5.out.upd0 hu6
          have hU6 := hU5.trans' hu6 (fun q hq => by simp at hq)
          have hs6 := hu6.size
          have hnc := cell_of hW6.nx i
          rw [icells_get _ _ (by rw [ints_len]; exact hnl)] at hnc
          have hnf := froz_of hW6.nx i
          have hnv : (ints s.nx).getD i 0 = (q : Int) := by rw [ints_get _ _ hnl, HQD.out]
          rw [hnv] at hnc
          have hW7 := hW6.setNx i (q + 1)
          rw [show ((q + 1 : Nat) : Int) = (q : Int) + 1 by omega] at hW7
          have hu7 : Upd [w1.heap.size + 1] w6 (w6.setCell ⟨w1.heap.size + 1, i, none⟩ (.int .i64 ((q : Int) + 1))) := (Upd.refl _ _).setCell (.inl (by simp)) _
          have hU7 := hU6.trans' hu7 (fun q hq hlt2 => by simp at hq; simp [hq])
          have hsz7 : (w6.setCell ⟨w1.heap.size + 1, i, none⟩ (.int .i64 ((q : Int) + 1))).heap.size = w6.heap.size := by simp [World.setCell]
          have hkc1 := cell_of hW6.st k
          have hkc2 := cell_of hW7.st k
          have hkf2 := froz_of hW7.st k
          rw [icells_get _ _ (by rw [ints_len]; exact hksl), ints_get _ _ hksl] at hkc1 hkc2
          have HW7 := Lib.hid hW7
          clear hu5 hu6 hu7 hW6 hW7 hnv HW5
          by_cases k0 : s.st.getD k 0 = 0
          · have HST := HSTP.out
            rw [if_pos k0] at HST
            have HST := Lib.hid HST
            rw [k0] at hkc1 hkc2
            have HW8 := Lib.hid (HW7.out.setSt k 1)
            have hu8 : Upd [w1.heap.size] (w6.setCell ⟨w1.heap.size + 1, i, none⟩ (.int .i64 ((q : Int) + 1))) ((w6.setCell ⟨w1.heap.size + 1, i, none⟩ (.int .i64 ((q : Int) + 1))).setCell ⟨w1.heap.size, k, none⟩ (.int .i64 1)) := (Upd.refl _ _).setCell (.inl (by simp)) _
            have hU8 := hU7.trans' hu8 (fun q hq hlt2 => by simp at hq; simp [hq])
            have hsz8 : ((w6.setCell ⟨w1.heap.size + 1, i, none⟩ (.int .i64 ((q : Int) + 1))).setCell ⟨w1.heap.size, k, none⟩ (.int .i64 1)).heap.size = w6.heap.size := by simp [World.setCell]
            clear hu8 k0
            go_wp2_with (at_builtin; refine stop_here ?_)
            refine Hid.mk ?_
            have HW8' : Hid (WkSt ((w6.setCell ⟨w1.heap.size + 1, i, none⟩ (.int .i64 ((q : Int) + 1))).setCell ⟨w1.heap.size, k, none⟩ (.int .i64 1)) (w1.heap.size + 2) w1.heap.size (w1.heap.size + 1) u3 u4 (.slice (some ⟨kg, 0, none⟩) (m + 1) kc) ⟨s.st.set k 1, s.nx.set i (q + 1), s.stk, s.post, s.back⟩ bs) := HW8.out
            clear hnc hnf hkc1 hkc2 hkf2 HW8 HW7
            generalize (w6.setCell ⟨w1.heap.size + 1, i, none⟩ (.int .i64 ((q : Int) + 1))).setCell ⟨w1.heap.size, k, none⟩ (.int .i64 1) = w8 at HW8' hU8 hsz8 ⊢
            have hcn := cell_of (heap_alloc_new w8 (.cells #[.int .i64 (k : Int)] 3))
            rw [hsz8] at hcn
            have hrw : OwnI (w8.alloc (.cells #[.int .i64 (k : Int)] 3)) (w1.heap.size + 2) 3 (.slice (some ⟨kg, 0, none⟩) (m + 1) kc) (ints s.stk) := HW8'.out.stk.alloc _
            have hlk : (ints s.stk).length = m + 1 := by rw [ints_len]; exact HM.out
            unfold OwnI at hrw
            rw [hlk] at hrw
            refine (wpList_append_own_at _ rfl _ _ 27 rfl (w1.heap.size + 2) 3 i0 (.int .i64 0) 1 8 Tryd.underlying27 HI.out HZ0.out HZ1.out HZ2.out rfl (by decide) _ _ _ rfl hrw ⟨w6.heap.size, 0, none⟩ 1 1 [.int .i64 (k : Int)] rfl rfl ?d1 ?d2 ?d3 ?d4 ?d5 ?d6)
            case d1 =>
              intro jj uu hjj
              rw [Addr.add_lit, Nat.zero_add, hcn]
              simpa using hjj
            case d2 => simp [Value.oneCell']
            case d3 => unfold maxLen; omega
            case d4 => omega
            case d5 => simp; omega
            case d6 =>
              intro v' w9 hown hgr _ hat
              obtain ⟨hW9, hu9, hge9⟩ := HW8'.out.pushStk (x := k) (by rw [show (ints (⟨s.st.set k 1, s.nx.set i (q + 1), s.stk, s.post, s.back⟩ : Dfs).stk).length = m + 1 from hlk]; exact hown) hgr hat
              have hU9 := hU8.trans' hu9 (fun q hq hlt2 => by have := hge9 q hq; omega)
              have hs9 := hu9.size
              have hW9 : WkSt w9 (w1.heap.size + 2) w1.heap.size (w1.heap.size + 1) u3 u4 v' ⟨s.st.set k 1, s.nx.set i (q + 1), s.stk ++ [k], s.post, s.back⟩ bs := hW9
              have hfar2 := hW9.far c
              have hrun2 : Hid (Dfs.run c (Dfs.init c.length) (t + 1) = ⟨s.st.set k 1, s.nx.set i (q + 1), s.stk ++ [k], s.post, s.back⟩) := by
                show _ = _
                rw [HSTEP.out, HST.out]
              have HFAR : Hid (edges c + c.length - (lenV u3 + sumTo (natCells w9 (w1.heap.size + 1)) c.length) < edges c + c.length - (lenV u3 + sumTo (natCells wo (w1.heap.size + 1)) c.length)) := by
                obtain ⟨a1, a2, a3⟩ := HFS.out
                rw [HST.out] at a1
                show _ < _
                omega
              have HW9 := Lib.hid hW9
              clear hown hgr hat hW9 hu9 hge9 hfar2 hcn hrw hlk
              go_wp2_with fail
              go_roundw
              case rel => exact ⟨t + 1, _, bs, hrun2, HW9.out, hU9, by omega⟩
              case measure => exact HFAR.out
          · by_cases k1 : s.st.getD k 0 = 1
            · have HST := HSTP.out
              rw [if_neg k0, if_pos k1] at HST
              have HST := Lib.hid HST
              rw [k1] at hkc1 hkc2
              clear k0 k1
              have hbl := HW7.out.bln
              have hblb : bs.length ≤ 1001000 := by rw [hbl]; exact hsmall
              have HBL := Lib.hid hbl
              clear hbl
              go_wp2_with (at_builtin; refine stop_here ?_)
              refine Hid.mk ?_
              clear hnc hnf hkc1 hkc2 hkf2
              generalize w6.setCell ⟨w1.heap.size + 1, i, none⟩ (.int .i64 ((q : Int) + 1)) = w7 at HW7 hU7 hsz7 ⊢
              have hcn := cell_of (heap_alloc_new (w7.alloc (.cells #[.int .i64 (i : Int), .int .i64 (k : Int)] 3)) (.cells #[.slice (some ⟨w6.heap.size, 0, none⟩) 2 2] 27))
              rw [World.size_alloc, hsz7] at hcn
              refine (wpList_append_own_at _ rfl _ _ 22 rfl (w1.heap.size + 2) 27 i1 (.slice none 0 0) 1 24 Tryd.underlying22 JI.out JZ0.out JZ1.out JZ2.out rfl (by decide) _ _ _ rfl ((HW7.out.back.alloc _).alloc _) ⟨w6.heap.size + 1, 0, none⟩ 1 1 [.slice (some ⟨w6.heap.size, 0, none⟩) 2 2] rfl rfl ?f1 ?f2 ?f3 ?f4 ?f5 ?f6)
              case f1 =>
                intro jj uu hjj
                rw [Addr.add_lit, Nat.zero_add, hcn]
                simpa using hjj
              case f2 => simp [Value.oneCell']
              case f3 => unfold maxLen; omega
              case f4 => omega
              case f5 => simp; omega
              case f6 =>
                intro v' w9 hown hgr _ _
                have hown' : w9.ownsRow (w1.heap.size + 2) 27 1 v' (bs.length + 1) (bs.map pairV ++ [pairV w7.heap.size]) := by
                  rw [hsz7]; exact hown
                obtain ⟨hW9, hu9, hge9⟩ := HW7.out.pushBack (i := i) (k := k) (by omega) hown' hgr
                have hU9 := hU7.trans' hu9 (fun q hq hlt2 => by have := hge9 q hq; omega)
                have hs9 := hu9.size
                have hW9 : WkSt w9 (w1.heap.size + 2) w1.heap.size (w1.heap.size + 1) u3 v' (.slice (some ⟨kg, 0, none⟩) (m + 1) kc) ⟨s.st, s.nx.set i (q + 1), s.stk, s.post, s.back ++ [(i, k)]⟩ (bs ++ [w7.heap.size]) := hW9
                have hfar2 := hW9.far c
                have hrun2 : Hid (Dfs.run c (Dfs.init c.length) (t + 1) = ⟨s.st, s.nx.set i (q + 1), s.stk, s.post, s.back ++ [(i, k)]⟩) := by
                  show _ = _
                  rw [HSTEP.out, HST.out]
                have HFAR : Hid (edges c + c.length - (lenV u3 + sumTo (natCells w9 (w1.heap.size + 1)) c.length) < edges c + c.length - (lenV u3 + sumTo (natCells wo (w1.heap.size + 1)) c.length)) := by
                  obtain ⟨a1, a2, a3⟩ := HFS.out
                  rw [HST.out] at a1
                  show _ < _
                  omega
                have hlk : (ints s.stk).length = m + 1 := by rw [ints_len]; exact HM.out
                have HW9 := Lib.hid hW9
                clear hown hown' hgr hW9 hu9 hge9 hfar2 hcn hlk
                go_wp2_with fail
                go_roundw
                case rel => exact ⟨t + 1, _, _, hrun2, HW9.out, hU9, by omega⟩
                case measure => exact HFAR.out
            · have HST := HSTP.out
              rw [if_neg k0, if_neg k1] at HST
              have HST := Lib.hid HST
              have k2 : s.st.getD k 0 = 2 := by omega
              rw [k2] at hkc1 hkc2
              have hfar2 := HW7.out.far c
              have hrun2 : Hid (Dfs.run c (Dfs.init c.length) (t + 1) = ⟨s.st, s.nx.set i (q + 1), s.stk, s.post, s.back⟩) := by
                show _ = _
                rw [HSTEP.out, HST.out]
              have HFAR : Hid (edges c + c.length - (lenV u3 + sumTo (natCells (w6.setCell ⟨w1.heap.size + 1, i, none⟩ (.int .i64 ((q : Int) + 1))) (w1.heap.size + 1)) c.length) < edges c + c.length - (lenV u3 + sumTo (natCells wo (w1.heap.size + 1)) c.length)) := by
                obtain ⟨a1, a2, a3⟩ := HFS.out
                rw [HST.out] at a1
                show _ < _
                omega
              clear k0 k1 k2 hfar2
              go_wp2_with fail
              go_roundw
              case rel => exact ⟨t + 1, _, bs, hrun2, HW7.out, hU7, by omega⟩
              case measure => exact HFAR.out

end Go.Proofs.YtjjkliifpdcliaaDoor
