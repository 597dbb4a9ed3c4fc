/- (*overdriveref5.walk).enter: the walk by calls. -/
import Derived.Test.YtagjchgpcekmnaaDoorEnterL
namespace Go.Proofs.YtagjchgpcekmnaaDoor
open Go.RowKit

/-- Where the graph's rows lie, as long as only the walk's own memory turns. -/
def GrAt (w0 : World) (hw hs ho : Nat) (cv : Value) (c : List (List Nat)) : Prop :=
  ∃ gc cc, cv = .slice (some ⟨gc, 0, none⟩) c.length cc ∧ ∀ w, Upd [hw, hs, ho] w0 w → ∀ i, i < c.length → ∃ rp rc, w.cell? ⟨gc, i, none⟩ = some (.slice rp (c.getD i []).length rc) ∧
    ∀ q, q < (c.getD i []).length → ∃ rb, rp = some ⟨rb, 0, none⟩ ∧ w.cell? ⟨rb, q, none⟩ = some (.int .i64 (((c.getD i []).getD q 0 : Nat) : Int))

theorem row_pl4' {w : World} {B sz : Nat} {T : TypeId} {bv : Value} {n : Nat} {l : List Value} (h : w.ownsRow B T sz bv n l) : ∃ p c, bv = .slice p n c ∧ n ≤ maxLen := by
  rcases h.2 with ⟨h1, h2⟩ | ⟨gk, ck, _, h1, _, _, hc, hcm, _⟩
  · exact ⟨none, 0, by rw [h1, h2], by rw [h2]; simp [maxLen]⟩
  · exact ⟨_, _, h1, Nat.le_trans hc hcm⟩

set_option maxRecDepth 100000 in
set_option maxHeartbeats 8000000 in
theorem enter_any (c : List (List Nat)) (hc : Clean c) (h0 : c ≠ []) (hn : c.length ≤ 1000) (w0 : World) (hw hs ho : Nat) (cv : Value) (hg : GrAt w0 hw hs ho cv c) :
    ∀ (μ t : Nat) (stk0 : List Nat) (k : Nat) (w : World) (lv bv : Value) (bs : List Nat), zeros (Dfs.run c (Dfs.init c.length) t) = μ → (Dfs.run c (Dfs.init c.length) t).stk = stk0 ++ [k] → (Dfs.run c (Dfs.init c.length) t).nx.getD k 0 = 0 →
      EM w0 w hw hs ho c.length cv (butF (seF (Dfs.run c (Dfs.init c.length) t).st) k) (butF (opF (Dfs.run c (Dfs.init c.length) t).st) k) (Dfs.run c (Dfs.init c.length) t).post (Dfs.run c (Dfs.init c.length) t).back lv bv bs →
      Calls Tryd.prog 40 #[.pointer (some ⟨hw, 0, none⟩), .int .i64 k] w fun e w' => e = .returned (.tuple #[]) ∧ ∃ t2 lv2 bv2 bs2, (Dfs.run c (Dfs.init c.length) t2).stk = stk0 ∧ (∀ p ∈ stk0, (Dfs.run c (Dfs.init c.length) t2).nx.getD p 0 = (Dfs.run c (Dfs.init c.length) t).nx.getD p 0) ∧
        zeros (Dfs.run c (Dfs.init c.length) t2) ≤ zeros (Dfs.run c (Dfs.init c.length) t) ∧
        EM w0 w' hw hs ho c.length cv (seF (Dfs.run c (Dfs.init c.length) t2).st) (opF (Dfs.run c (Dfs.init c.length) t2).st) (Dfs.run c (Dfs.init c.length) t2).post (Dfs.run c (Dfs.init c.length) t2).back lv2 bv2 bs2 := by
  obtain ⟨i0, hi, hz0, hz1, hz2⟩ := info_parts Tryd.infoInt
  have HI := Lib.hid hi
  have HZ0 := Lib.hid hz0
  have HZ1 := Lib.hid hz1
  have HZ2 := Lib.hid hz2
  clear hi hz0 hz1 hz2
  obtain ⟨i1, hi, hz0, hz1, hz2⟩ := info_parts Tryd.infoRow
  have JI := Lib.hid hi
  have JZ0 := Lib.hid hz0
  have JZ1 := Lib.hid hz1
  have JZ2 := Lib.hid hz2
  clear hi hz0 hz1 hz2
  obtain ⟨gc, cc, rfl, hgr⟩ := hg
  have HGR := Lib.hid hgr
  clear hgr
  intro μ
  induction μ using Nat.strongRecOn with
  | _ μ ih =>
    have IH := Lib.hid ih
    clear ih
    intro t stk0 k w lv bv bs hz hstk hnx hE
    have hI := (run_inv hc h0 t).1
    have hkm : k ∈ (Dfs.run c (Dfs.init c.length) t).stk := by rw [hstk]; simp
    have hk1 := (hI.stk1 k).1 hkm
    have hkn : k < c.length := by
      have := hI.lt (i := k) (by unfold Dfs.ord; simp [hkm])
      exact this
    have hEb := hE.blk
    have hc1 : w.cell? ⟨hw, 1, none⟩ = some (.slice (some ⟨hs, 0, none⟩) c.length c.length) := by rw [cell_of hEb]; rfl
    have hcs : w.cell? ⟨hs, k, none⟩ = some (.bool (butF (seF (Dfs.run c (Dfs.init c.length) t).st) k k)) := by
      rw [cell_of hE.seb, bcells_get _ _ (by rw [tabB_len]; exact hkn), tabB_get _ _ _ hkn]
    have hfs := froz_of hE.seb k
    have hE1 := (hE.seSet k).congr (but_mark _ k (by unfold seF; rw [hk1]; rfl)) (fun i => rfl)
    have hc2 : (w.setCell ⟨hs, k, none⟩ (.bool true)).cell? ⟨hw, 2, none⟩ = some (.slice (some ⟨ho, 0, none⟩) c.length c.length) := by rw [cell_of hE1.blk]; rfl
    have hco : (w.setCell ⟨hs, k, none⟩ (.bool true)).cell? ⟨ho, k, none⟩ = some (.bool (butF (opF (Dfs.run c (Dfs.init c.length) t).st) k k)) := by
      rw [cell_of hE1.opb, bcells_get _ _ (by rw [tabB_len]; exact hkn), tabB_get _ _ _ hkn]
    have hfo := froz_of hE1.opb k
    have hE2 := (hE1.opSet k).congr (fun i => rfl) (but_mark _ k (by unfold opF; rw [hk1]; rfl))
    have HE2 := Lib.hid hE2
    have HNX := Lib.hid hnx
    have HSTK := Lib.hid hstk
    have HZ := Lib.hid hz
    clear hE hE1 hE2 hEb hI hkm hk1 hnx hstk hz
    go_enter Tryd.func40, Tryd.ntmps40
    go_wp2_with fail
    generalize (w.setCell ⟨hs, k, none⟩ (.bool true)).setCell ⟨ho, k, none⟩ (.bool true) = w2 at HE2 ⊢
    clear hc1 hcs hfs hc2 hco hfo
    obtain ⟨row, hrw⟩ : ∃ row, row = c.getD k [] := ⟨_, rfl⟩
    have HRW := Lib.hid hrw
    have HRC : Hid (∀ q, q < row.length → row.getD q 0 < c.length) := fun q hq => by
      rw [hrw] at hq ⊢
      exact (hc k hkn).2 _ (getD_mem 0 hq)
    have hrl : row.length ≤ 1000 := by
      rw [hrw]
      have := len_leN _ _ (hc k hkn).1 (hc k hkn).2
      omega
    clear hrw
    go_loopw [4] (fun qv wr => ∃ (q t1 : Nat) (lv bv : Value) (bs : List Nat), q ≤ row.length ∧ qv = .int .i64 q ∧ Hid ((Dfs.run c (Dfs.init c.length) t1).stk = stk0 ++ [k]) ∧ Hid ((Dfs.run c (Dfs.init c.length) t1).nx.getD k 0 = q) ∧ Hid (∀ p ∈ stk0, (Dfs.run c (Dfs.init c.length) t1).nx.getD p 0 = (Dfs.run c (Dfs.init c.length) t).nx.getD p 0) ∧
      Hid (zeros (Dfs.run c (Dfs.init c.length) t1) ≤ zeros (Dfs.run c (Dfs.init c.length) t)) ∧ Hid (EM w0 wr hw hs ho c.length (.slice (some ⟨gc, 0, none⟩) c.length cc) (seF (Dfs.run c (Dfs.init c.length) t1).st) (opF (Dfs.run c (Dfs.init c.length) t1).st) (Dfs.run c (Dfs.init c.length) t1).post (Dfs.run c (Dfs.init c.length) t1).back lv bv bs)) (fun qv _ => row.length - (intOf qv).toNat)
    case atStart => exact ⟨0, t, lv, bv, bs, by omega, rfl, HSTK, HNX, (fun p _ => rfl : ∀ p ∈ stk0, _), Nat.le_refl _, HE2⟩
    case round =>
      clear HE2
      obtain ⟨q, t1, lv, bv, bs, hq, rfl, HSK, HNQ, HNP, HZL, HE⟩ := hrel
      obtain ⟨wo, rfl⟩ : ∃ wo : World, wo = wr := ⟨_, rfl⟩
      have HINV := Lib.hid (run_inv hc h0 t1).1
      have hsm := run_small hc h0 hn t1 (by rw [HSK.out]; simp)
      have HRS := Lib.hid (run_step (c := c) t1 (by rw [HSK.out]; simp))
      have hb := HE.out.blk
      have hb0 : wo.cell? ⟨hw, 0, none⟩ = some (.slice (some ⟨gc, 0, none⟩) c.length cc) := by rw [cell_of hb]; rfl
      have hb1 : wo.cell? ⟨hw, 1, none⟩ = some (.slice (some ⟨hs, 0, none⟩) c.length c.length) := by rw [cell_of hb]; rfl
      have hb2 : wo.cell? ⟨hw, 2, none⟩ = some (.slice (some ⟨ho, 0, none⟩) c.length c.length) := by rw [cell_of hb]; rfl
      have hb3 : wo.cell? ⟨hw, 3, none⟩ = some lv := by rw [cell_of hb]; rfl
      have hb4 : wo.cell? ⟨hw, 4, none⟩ = some bv := by rw [cell_of hb]; rfl
      obtain ⟨rp, rc, hrow, hel⟩ := HGR.out wo HE.out.upd k hkn
      rw [← HRW.out] at hrow hel
      have hwo := HE.out.upd.size
      clear hb
      have HR1 : Hid (∀ s, s = Dfs.run c (Dfs.init c.length) t1 → Dfs.run c (Dfs.init c.length) (t1 + 1) = s.step c) := fun s e => by rw [e]; exact HRS.out
      clear HRS
      generalize hs1 : Dfs.run c (Dfs.init c.length) t1 = s at HSK HNQ HNP HZL HE HINV hsm HR1
      have HS1 := Lib.hid hs1
      have HRS : Hid (Dfs.run c (Dfs.init c.length) (t1 + 1) = s.step c) := HR1.out s rfl
      clear hs1 HR1
      by_cases hql : q < row.length
      · obtain ⟨rb, e0, hx⟩ := hel q hql
        subst e0
        have hjn := HRC.out q hql
        have HJ : Hid ((c.getD k []).getD (s.nx.getD k 0) 0 = row.getD q 0) := by show _ = _; rw [HNQ.out, HRW.out]
        have HQL : Hid (s.nx.getD k 0 < (c.getD k []).length) := by show _ < _; rw [HNQ.out, ← HRW.out]; exact hql
        clear hel
        generalize row.getD q 0 = j at hx hjn HJ
        have hso : wo.cell? ⟨ho, j, none⟩ = some (.bool (opF s.st j)) := by
          rw [cell_of HE.out.opb, bcells_get _ _ (by rw [tabB_len]; exact hjn), tabB_get _ _ _ hjn]
        have hss : wo.cell? ⟨hs, j, none⟩ = some (.bool (seF s.st j)) := by
          rw [cell_of HE.out.seb, bcells_get _ _ (by rw [tabB_len]; exact hjn), tabB_get _ _ _ hjn]
        have hkl : k < s.nx.length := by rw [HINV.out.lnx]; exact hkn
        have hnxp : ∀ p ∈ stk0, ∀ l, l = s.nx.set k (s.nx.getD k 0 + 1) → l.getD p 0 = s.nx.getD p 0 := fun p hp l e => by
          rw [e, getD_set_ne]
          intro e2
          subst e2
          have hnd := HINV.out.nd
          unfold Dfs.ord at hnd
          rw [HSK.out] at hnd
          simp [List.nodup_append] at hnd
          exact absurd hp hnd.2.1.1
        have HNXP := Lib.hid hnxp
        clear hnxp
        by_cases j1 : s.st.getD j 0 = 1
        · rw [show opF s.st j = true by unfold opF; rw [j1]; rfl] at hso
          have HSE : Hid (seF s.st j = true) := by show _ = _; unfold seF; rw [j1]; rfl
          rw [HSE.out] at hss
          have HSP := Lib.hid (step_open c s stk0 k j HSK.out HQL.out HJ.out j1)
          have hbln : bs.length ≤ 1001000 := by rw [HE.out.bln]; exact hsm
          obtain ⟨bp, bc, rfl, _⟩ := row_pl4' HE.out.loops
          clear j1
          go_wp2_with (at_builtin; refine stop_here ?_)
          refine Hid.mk ?_
          have hcn := cell_of (heap_alloc_new (wo.alloc (.cells #[.int .i64 (k : Int), .int .i64 (j : Int)] 3)) (.cells #[.slice (some ⟨wo.heap.size, 0, none⟩) 2 2] 28))
          rw [World.size_alloc] at hcn
          refine (wpList_append_own_at _ rfl _ _ 46 rfl w0.heap.size 28 i1 (.slice none 0 0) 1 24 Tryd.underlying46 JI.out JZ0.out JZ1.out JZ2.out rfl (by decide) _ _ _ rfl ((HE.out.loops.alloc _).alloc _) ⟨wo.heap.size + 1, 0, none⟩ 1 1 [.slice (some ⟨wo.heap.size, 0, none⟩) 2 2] rfl rfl ?f1 ?f2 ?f3 ?f4 ?f5 ?f6)
          case f1 =>
            intro jj uu hjj
            rw [Addr.add_lit, Nat.zero_add, hcn]
            simpa using hjj
          case f2 => simp [Value.oneCell']
          case f3 => unfold maxLen; omega
          case f4 => omega
          case f5 => simp; omega
          case f6 =>
            intro v' w9 hown hgr2 _ _
            have hown' : w9.ownsRow w0.heap.size 28 1 v' (bs.length + 1) (bs.map pairV ++ [pairV wo.heap.size]) := hown
            have hgr3 : ((wo.alloc (.cells (icells (pairL (k, j))) 3)).alloc (.cells #[.slice (some ⟨wo.heap.size, 0, none⟩) 2 2] 28)).grownBy w9 (Value.slice bp bs.length bc).ownBlock := hgr2
            obtain ⟨q1, q2, q3⟩ := HE.out.pushLoop (i := k) (k := j) hown' hgr3
            obtain ⟨g6, c6, rfl⟩ := ownsRow_succ hown'
            have h91 : (w9.setCell ⟨hw, 4, none⟩ (.slice (some ⟨g6, 0, none⟩) (bs.length + 1) c6)).cell? ⟨hw, 1, none⟩ = some (.slice (some ⟨hs, 0, none⟩) c.length c.length) := by rw [cell_of q3.blk]; rfl
            have h9s : (w9.setCell ⟨hw, 4, none⟩ (.slice (some ⟨g6, 0, none⟩) (bs.length + 1) c6)).cell? ⟨hs, j, none⟩ = some (.bool true) := by
              rw [cell_of q3.seb, bcells_get _ _ (by rw [tabB_len]; exact hjn), tabB_get _ _ _ hjn, HSE.out]
            have HQ3 := Lib.hid q3
            have HRN := Lib.hid (HRS.out.trans HSP.out)
            clear q3 hown hown' hgr2 hgr3 hcn
            go_wp2_with fail
            go_roundw
            case rel =>
              refine ⟨q + 1, t1 + 1, lv, .slice (some ⟨g6, 0, none⟩) (bs.length + 1) c6, bs ++ [wo.heap.size], by omega, by go_num, ?_, ?_, fun p hp => ?_, ?_, ?_⟩
              · rw [HRN.out]; exact rfl
              · rw [HRN.out]
                show (s.nx.set k (s.nx.getD k 0 + 1)).getD k 0 = q + 1
                rw [getD_set_eq _ _ _ _ hkl, HNQ.out]
              · rw [HRN.out]
                exact (HNXP.out p hp _ rfl).trans (HNP.out p hp)
              · rw [HRN.out]; exact HZL.out
              · rw [HRN.out]; exact HQ3.out
            case measure => simp [intOf]; omega
        · by_cases j0 : s.st.getD j 0 = 0
          · rw [show opF s.st j = false by unfold opF; rw [j0]; rfl] at hso
            rw [show seF s.st j = false by unfold seF; rw [j0]; rfl] at hss
            have HSP := Lib.hid (step_fresh c s stk0 k j HSK.out HQL.out HJ.out j0)
            have HRN := Lib.hid (HRS.out.trans HSP.out)
            have hjs : j < s.st.length := by rw [HINV.out.lst]; exact hjn
            have hk1 : s.st.getD k 0 = 1 := (HINV.out.stk1 k).1 (by rw [HSK.out]; simp)
            have hjk : k ≠ j := fun e => by subst e; omega
            have hzl := count_set_lt s.st j 1 (by omega) hjs j0
            have hzs : zeros (Dfs.run c (Dfs.init c.length) (t1 + 1)) + 1 = zeros s := by rw [HRN.out]; exact hzl
            have hE3 : EM w0 wo hw hs ho c.length (.slice (some ⟨gc, 0, none⟩) c.length cc) (butF (seF (Dfs.run c (Dfs.init c.length) (t1 + 1)).st) j) (butF (opF (Dfs.run c (Dfs.init c.length) (t1 + 1)).st) j) (Dfs.run c (Dfs.init c.length) (t1 + 1)).post (Dfs.run c (Dfs.init c.length) (t1 + 1)).back lv bv bs := by
              rw [HRN.out]
              exact HE.out.congr (fun i => (se_fresh s.st j i hjs j0).symm) (fun i => (op_fresh s.st j i hjs j0).symm)
            have HCALL := Lib.hid (IH.out (zeros (Dfs.run c (Dfs.init c.length) (t1 + 1))) (by have := HZL.out; have := HZ.out; omega) (t1 + 1) (stk0 ++ [k]) j wo lv bv bs rfl (by rw [HRN.out]) (by
              rw [HRN.out]
              show (s.nx.set k (s.nx.getD k 0 + 1)).getD j 0 = 0
              rw [getD_set_ne _ _ _ _ _ hjk]
              exact HINV.out.fresh j j0) hE3)
            have HZS := Lib.hid hzs
            clear hE3 hzl hzs hjs hk1 j0 j1 hjk
            go_wp2_with fail
            refine HCALL.out.mono ?_
            rintro e w9 ⟨rfl, t2, lv2, bv2, bs2, hs2, hn2, hz2, hE2⟩
            have HS2 := Lib.hid hs2
            have HN2 := Lib.hid hn2
            have HZ2 := Lib.hid hz2
            have HE2 := Lib.hid hE2
            clear hs2 hn2 hz2 hE2 HCALL
            go_wp2_with fail
            go_roundw
            case rel =>
              refine ⟨q + 1, t2, lv2, bv2, bs2, by omega, by go_num, HS2.out, ?_, fun p hp => ?_, ?_, HE2⟩
              · show _ = _
                rw [HN2.out k (by simp), HRN.out]
                show (s.nx.set k (s.nx.getD k 0 + 1)).getD k 0 = q + 1
                rw [getD_set_eq _ _ _ _ hkl, HNQ.out]
              · rw [HN2.out p (by simp [hp]), HRN.out]
                exact (HNXP.out p hp _ rfl).trans (HNP.out p hp)
              · show _ ≤ _
                have h1 := HZ2.out
                have h2 := HZS.out
                have h3 := HZL.out
                omega
            case measure => simp [intOf]; omega
          · rw [show opF s.st j = false by unfold opF; exact decide_eq_false j1] at hso
            rw [show seF s.st j = true by unfold seF; exact decide_eq_true j0] at hss
            have HSP := Lib.hid (step_left c s stk0 k j HSK.out HQL.out HJ.out j0 j1)
            have HRN := Lib.hid (HRS.out.trans HSP.out)
            clear j0 j1
            go_wp2_with fail
            go_roundw
            case rel =>
              refine ⟨q + 1, t1 + 1, lv, bv, bs, by omega, by go_num, ?_, ?_, fun p hp => ?_, ?_, ?_⟩
              · rw [HRN.out]; exact rfl
              · rw [HRN.out]
                show (s.nx.set k (s.nx.getD k 0 + 1)).getD k 0 = q + 1
                rw [getD_set_eq _ _ _ _ hkl, HNQ.out]
              · rw [HRN.out]
                exact (HNXP.out p hp _ rfl).trans (HNP.out p hp)
              · rw [HRN.out]; exact HZL.out
              · rw [HRN.out]; exact HE.out
            case measure => simp [intOf]; omega
      · obtain rfl : q = row.length := by omega
        have HSP := Lib.hid (step_leave c s stk0 k HSK.out (by rw [HNQ.out, HRW.out]))
        have HRN := Lib.hid (HRS.out.trans HSP.out)
        have hso : wo.cell? ⟨ho, k, none⟩ = some (.bool (opF s.st k)) := by
          rw [cell_of HE.out.opb, bcells_get _ _ (by rw [tabB_len]; exact hkn), tabB_get _ _ _ hkn]
        have hsf := froz_of HE.out.opb k
        have hE3 := HE.out.opOff k
        have h33 : (wo.setCell ⟨ho, k, none⟩ (.bool false)).cell? ⟨hw, 3, none⟩ = some lv := by rw [cell_of hE3.blk]; rfl
        have hks : k < s.st.length := by rw [HINV.out.lst]; exact hkn
        have hk1 : s.st.getD k 0 = 1 := (HINV.out.stk1 k).1 (by rw [HSK.out]; simp)
        have hpl : (ints s.post).length ≤ 1000 := by rw [ints_len]; have := HINV.out.ordle; omega
        obtain ⟨lp, lc, hlv⟩ := hE3.left.shape
        subst hlv
        have HE3 := Lib.hid hE3
        have hz3 : (wo.setCell ⟨ho, k, none⟩ (.bool false)).heap.size = wo.heap.size := by simp [World.setCell]
        have HP : Hid (∀ i, seF s.st i = seF (s.st.set k 2) i) := fun i => (se_leave s.st k i hks hk1).symm
        have HQ : Hid (∀ i, butF (opF s.st) k i = opF (s.st.set k 2) i) := fun i => (op_leave s.st k i hks).symm
        have HZC : Hid (zeros (Dfs.run c (Dfs.init c.length) (t1 + 1)) ≤ zeros s) := by
          show _ ≤ _
          rw [HRN.out]
          exact count_set_le s.st k 2 (by omega)
        clear hE3 hk1 hks hel
        go_wp2_with (at_builtin; refine stop_here ?_)
        refine Hid.mk ?_
        generalize wo.setCell ⟨ho, k, none⟩ (.bool false) = w3 at HE3 h33 hz3 ⊢
        have hcn := cell_of (heap_alloc_new w3 (.cells #[.int .i64 (k : Int)] 3))
        rw [hz3] at hcn
        refine (wpList_append_own_at _ rfl _ _ 28 rfl w0.heap.size 3 i0 (.int .i64 0) 1 8 Tryd.underlying28 HI.out HZ0.out HZ1.out HZ2.out rfl (by decide) _ _ _ rfl (HE3.out.left.alloc (.cells #[.int .i64 (k : Int)] 3)) ⟨wo.heap.size, 0, none⟩ 1 1 [.int .i64 (k : Int)] rfl rfl ?c1 ?c2 ?c3 ?c4 ?c5 ?c6)
        case c1 =>
          intro jj uu hjj
          rw [Addr.add_lit, Nat.zero_add, hcn]
          simpa using hjj
        case c2 => simp [Value.oneCell']
        case c3 => unfold maxLen; omega
        case c4 => omega
        case c5 => simp; omega
        case c6 =>
          intro v' w6 hown hgr2 _ hat
          obtain ⟨q1, q2, q3, q4⟩ := HE3.out.pushLeft (x := k) hown hgr2 hat
          obtain ⟨g6, c6, rfl⟩ := ownsRow_succ hown
          have HQ4 := Lib.hid (q4.congr HP.out HQ.out)
          clear q4 hown hgr2 hat hcn h33
          go_wp2_with fail
          go_end0
          refine ⟨rfl, t1 + 1, .slice (some ⟨g6, 0, none⟩) ((ints s.post).length + 1) c6, bv, bs, ?_, fun p hp => ?_, ?_, ?_⟩
          · rw [HRN.out]
          · rw [HRN.out]
            exact HNP.out p hp
          · have h1 := HZC.out
            have h2 := HZL.out
            omega
          · rw [HRN.out]; exact HQ4.out

end Go.Proofs.YtagjchgpcekmnaaDoor
