/- flow.Preds: the walk. -/
import Derived.Test.YtjjkliifpdcliaaDoorCleanW
namespace Go.Proofs.YtjjkliifpdcliaaDoor
open Go.RowKit

theorem predsL_bd (c : List (List Nat)) (l : List Nat) (h : l ∈ predsL c) : l.length ≤ c.length := by
  obtain ⟨k, hk, rfl⟩ := List.getElem_of_mem h
  rw [predsL_len] at hk
  have := predsL_get c k hk
  rw [List.getD_eq_getElem?_getD, List.getElem?_eq_getElem (by rw [predsL_len]; exact hk)] at this
  simp only [Option.getD_some] at this
  rw [this]
  have := List.length_filter_le (fun i => decide (k ∈ c.getD i [])) (List.range c.length)
  simpa using this
theorem pst_bd (c : List (List Nat)) (i j k : Nat) (hk : k < c.length) : ((pst c i j).getD k []).length ≤ i + 1 := by
  rw [pst_get c i j k hk, List.length_append]
  have := List.length_filter_le (fun a => decide (k ∈ c.getD a [])) (List.range i)
  simp at this
  split <;> simp <;> omega

set_option maxRecDepth 100000 in
set_option maxHeartbeats 4000000 in
theorem preds_any (v : Value) (g : List (List Int)) (w : World) (h : RowsAt w v g) (hn : g.length ≤ 100000) (hr : ∀ l ∈ g, l.length ≤ 100000) :
    Calls Tryd.prog 24 #[v] w fun e w' => ∃ G B gb vs, e = .returned (.slice (some ⟨gb, 0, none⟩) g.length g.length) ∧ OwnL w' G B gb vs (intsL (predsL (cleanG g))) ∧ w.heap.size ≤ G ∧ Upd [] w w' := by
  obtain ⟨i0, hi, hz0, hz1, hz2⟩ := info_parts Tryd.infoInt
  have HI := Lib.hid hi
  have HZ0 := Lib.hid hz0
  have HZ1 := Lib.hid hz1
  have HZ2 := Lib.hid hz2
  have hmk1 := make_rows w g.length (by omega)
  clear hi hz0 hz1 hz2
  have hu0 : Upd [] w (w.alloc (.cells (List.replicate g.length (Value.slice none 0 0)).toArray 27)) := (Upd.refl [] w).alloc _
  have HA0 := Lib.hid (heap_alloc_new w (.cells (List.replicate g.length (Value.slice none 0 0)).toArray 27))
  have HCL := Lib.hid (clean_any v g _ (h.upd hu0) hn hr)
  have HU0 := Lib.hid hu0
  have HCC := Lib.hid (cleanG_clean g)
  have hcl := cleanG_len g
  have HCLL := Lib.hid hcl
  have hclb : ∀ i, i < g.length → ((cleanG g).getD i []).length ≤ g.length := fun i hi => by
    rw [cleanG_get g i hi]; exact (crow_len _ _).1
  have HCLB := Lib.hid hclb
  obtain ⟨a, cap, rfl, hl, _⟩ := h
  unfold maxLen at hl
  have hs1 : w.heap.size + 1 = (w.alloc (.cells (List.replicate g.length (Value.slice none 0 0)).toArray 27)).heap.size := by simp
  have HS1 := Lib.hid hs1
  clear hu0 hcl hclb hs1
  rw [List.toArray_replicate] at HCL HU0 HA0 HS1
  go_enter Tryd.func24, Tryd.ntmps24
  go_wp2_with fail
  refine HCL.out.mono ?_
  rintro e w1 ⟨gc, vc, rfl, hC, hu1⟩
  rw [← HS1.out] at hC
  have hU1 := HU0.out.trans hu1
  have HC := Lib.hid hC
  have hgc := hC.ge
  have hgcl := lt_of_heap hC.blk
  have h1s : w.heap.size + 1 ≤ w1.heap.size := by omega
  have hA1 : OwnL w1 w.heap.size w1.heap.size w.heap.size (List.replicate g.length (Value.slice none 0 0)) (List.replicate g.length []) := OwnL.nils (by rw [List.toArray_replicate]; exact hu1.heap HA0.out (by simp)) (Nat.le_refl _) (by omega)
  have HA1 := Lib.hid hA1
  have HP0 := Lib.hid (pst_zero (cleanG g))
  clear hC hA1 hu1
  generalize hcg : cleanG g = c at HC HCC HCLL HCLB HP0
  have HCG0 := Lib.hid hcg
  clear hcg
  go_wp2_with fail
  go_loopw [14] (fun iv wr => ∃ (i : Nat) (vs : List Value), i ≤ g.length ∧ iv = .int .i64 i ∧ OwnL wr w.heap.size w1.heap.size w.heap.size vs (intsL (pst c i 0)) ∧ Upd [w.heap.size] w1 wr) (fun iv _ => g.length - (intOf iv).toNat)
  case atStart =>
    refine ⟨0, List.replicate g.length (Value.slice none 0 0), by omega, rfl, ?_, Upd.refl _ _⟩
    rw [HP0.out, HCLL.out]
    have : intsL (List.replicate g.length []) = List.replicate g.length [] := by simp [intsL, ints]
    rw [this]
    exact HA1.out
  case round =>
    obtain ⟨i, vs, hi, rfl, hL, hU⟩ := hrel
    obtain ⟨wo, rfl⟩ : ∃ wo : World, wo = wr := ⟨_, rfl⟩
    have hCr := fun (wr : World) (hU : Upd [w.heap.size] w1 wr) => HC.out.upd hU (by simp; omega) (fun q hq z hz hm => by
      have := ((HC.out.own q hq).lt z hz).1
      simp at hm; omega)
    have HCR := Lib.hid hCr
    clear hCr
    by_cases hlt : i < g.length
    · have hCo := HCR.out wo hU
      have hil : i < (intsL c).length := by rw [intsL_len, HCLL.out]; exact hlt
      have hx := hCo.cell i hil
      have hro := hCo.own i hil
      rw [intsL_get] at hro
      obtain ⟨rp, rc, hrv⟩ := hro.shape
      rw [hrv, ints_len] at hx
      have hlb := HCLB.out i hlt
      have HL := Lib.hid hL
      have HRV := Lib.hid hrv
      have HCK := Lib.hid (HCC.out i (by rw [HCLL.out]; exact hlt))
      have HROW := Lib.hid (pst_row c i)
      have HSTEP := Lib.hid (fun j hj => pst_step c HCC.out i j (by rw [HCLL.out]; exact hlt) hj)
      have HPB := Lib.hid (fun j k (hk : k < c.length) => pst_bd c i j k hk)
      clear hL hCo hro hrv hil
      generalize hcl : c.getD i [] = l at hx hlb HRV HCK HROW HSTEP
      have HCG := Lib.hid hcl
      clear hcl
      go_wp2_with fail
      go_loopw [21] (fun jv wr => ∃ (j : Nat) (vs : List Value), j ≤ l.length ∧ jv = .int .i64 j ∧ OwnL wr w.heap.size w1.heap.size w.heap.size vs (intsL (pst c i j)) ∧ Upd [w.heap.size] w1 wr) (fun jv _ => l.length - (intOf jv).toNat)
      case atStart => exact ⟨0, vs, by omega, rfl, HL.out, hU⟩
      case round =>
        clear HL hU hx
        obtain ⟨j, vs, hj, rfl, hL, hU⟩ := hrel
        obtain ⟨wq, rfl⟩ : ∃ wq : World, wq = wr := ⟨_, rfl⟩
        by_cases hjl : j < l.length
        · have hCq := HCR.out wq hU
          have hil : i < (intsL c).length := by rw [intsL_len, HCLL.out]; exact hlt
          have hro := hCq.own i hil
          rw [intsL_get, HCG.out] at hro
          obtain ⟨g1, c1, e1, _, _, hy⟩ := hro.nth j (by rw [ints_len]; exact hjl)
          rw [HRV.out] at e1
          injection e1 with e1 _ e3
          subst e1
          subst e3
          rw [ints_get l j hjl] at hy
          have hkl : l.getD j 0 < c.length := HCK.out.2 _ (by
            rw [List.getD_eq_getElem?_getD, List.getElem?_eq_getElem hjl]
            exact List.getElem_mem hjl)
          have HST := Lib.hid (HSTEP.out j hjl)
          clear hCq hro hil
          generalize l.getD j 0 = k at hy hkl HST
          have hkg : k < g.length := by have := HCLL.out; omega
          have hLl : (intsL (pst c i j)).length = g.length := by rw [intsL_len, pst_len]; exact HCLL.out
          obtain ⟨pv, cv, hv⟩ := (hL.own k (by rw [hLl]; exact hkg)).shape
          have hcv := hL.cell k (by rw [hLl]; exact hkg)
          have hrow := hL.own k (by rw [hLl]; exact hkg)
          have hpb := HPB.out j k hkl
          have HGL := Lib.hid (intsL_get (pst c i j) k)
          rw [hv] at hcv
          rw [HGL.out] at hcv hrow hv
          generalize hrk : (pst c i j).getD k [] = acc at hcv hrow hv HGL HST hpb
          clear hrk
          have hfz := froz_of hL.blk k
          have HL := Lib.hid hL
          have HV := Lib.hid hv
          have HRW := Lib.hid hrow
          have HLL := Lib.hid hLl
          have hilb : (ints acc).length ≤ 100001 := by rw [ints_len]; omega
          clear hv hrow hLl hL
          go_wp2_with (at_builtin; refine stop_here ?_)
          refine Hid.mk ?_
          have hcn := cell_of (heap_alloc_new wq (.cells #[.int .i64 (i : Int)] 3))
          refine (wpList_append_own_at _ rfl _ _ 27 rfl w1.heap.size 3 i0 (.int .i64 0) 1 8 Tryd.underlying27 HI.out HZ0.out HZ1.out HZ2.out rfl (by decide) _ _ _ rfl (by have := HRW.out.alloc (.cells #[.int .i64 (i : Int)] 3); rw [HV.out] at this; exact this) ⟨wq.heap.size, 0, none⟩ 1 1 [.int .i64 (i : Int)] rfl rfl ?c1 ?c2 ?c3 ?c4 ?c5 ?c6)
          case c1 =>
            intro jj uu hjj
            rw [Addr.add_lit, Nat.zero_add, hcn]
            simpa using hjj
          case c2 => simp [Value.oneCell']
          case c3 => unfold maxLen; omega
          case c4 => omega
          case c5 => have h1 := hU.size; simp; omega
          case c6 =>
            intro v' w2 hown hgr _ hat
            rw [← HV.out] at hgr hat
            rw [← HGL.out] at hown
            obtain ⟨hb2, hL2, hu2, hge2⟩ := HL.out.push k (by rw [HLL.out]; exact hkg) hown hgr hat
            rw [HGL.out] at hown
            obtain ⟨g', cap', rfl⟩ := ownsRow_succ hown
            have hU2 := hU.trans' hu2 (fun q hq hlt2 => by have := hge2 q hq; simp; omega)
            have hrows : (intsL (pst c i j)).set k ((intsL (pst c i j)).getD k [] ++ [(i : Int)]) = intsL (pst c i (j + 1)) := by
              rw [HGL.out, ← ints_snoc, intsL_set, HST.out]
            rw [hrows] at hL2
            have hfg := froz_of hb2 k
            have hvl : k < vs.length := by rw [HL.out.len, HLL.out]; exact hkg
            have hcg2 : w2.cell? ⟨w.heap.size, k, none⟩ = some (vs.getD k undef) := by
              rw [cell_of hb2 k]
              simp [List.getD_eq_getElem?_getD, List.getElem?_eq_getElem hvl]
            rw [HV.out] at hcg2
            have HL2 := Lib.hid hL2
            have HU2 := Lib.hid hU2
            clear hb2 hL2 hu2 hge2 hown hgr hat hU2 hrows hcn hcv hfz hy
            go_wp2_with fail
            go_roundw
            case rel => exact ⟨j + 1, _, by omega, by go_num, HL2.out, HU2.out⟩
            case measure => simp [intOf]; omega
        · obtain rfl : j = l.length := by omega
          rw [HROW.out] at hL
          have HL := Lib.hid hL
          clear hL
          go_wp2_with fail
          go_roundw
          case rel => exact ⟨i + 1, vs, by omega, by go_num, HL.out, hU⟩
          case measure => simp [intOf]; omega
    · obtain rfl : i = g.length := by omega
      have HPA := pst_all c
      rw [HCLL.out] at HPA
      rw [HPA] at hL
      have HL := Lib.hid hL
      clear hL HPA
      go_wp2_with fail
      go_ret
      exact ⟨_, _, _, _, rfl, by rw [HCG0.out]; exact HL.out, Nat.le_refl _, hU1.trans' hU (fun q hq hlt2 => by simp at hq; omega)⟩

end Go.Proofs.YtjjkliifpdcliaaDoor
