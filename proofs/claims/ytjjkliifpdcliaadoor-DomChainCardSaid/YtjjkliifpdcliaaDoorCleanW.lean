/- flow.clean: the walk. -/
import Derived.Test.YtjjkliifpdcliaaDoorClean
import Derived.RangeFuncBox
namespace Go.Proofs.YtjjkliifpdcliaaDoor
open Go.RowKit

theorem cat_zero (g : List (List Int)) : intsL (cat g 0) = List.replicate g.length [] := by
  unfold cat
  by_cases h : 0 < g.length
  · rw [if_pos h, cst_zero g h]
    simp [intsL, ints]
  · have : g = [] := List.eq_nil_of_length_eq_zero (by omega)
    subst this
    rfl

set_option maxRecDepth 100000 in
set_option maxHeartbeats 4000000 in
theorem clean_any (v : Value) (g : List (List Int)) (w : World) (h : RowsAt w v g) (hn : g.length ≤ 100000) (hr : ∀ l ∈ g, l.length ≤ 100000) :
    Calls Tryd.prog 34 #[v] w fun e w' => ∃ gb vs, e = .returned (.slice (some ⟨gb, 0, none⟩) g.length g.length) ∧ OwnL w' w.heap.size (w.heap.size + 2) gb vs (intsL (cleanG g)) ∧ Upd [] w w' := by
  obtain ⟨a, cap, rfl, hl, hrow⟩ := h
  obtain ⟨i0, hi, hz0, hz1, hz2⟩ := info_parts Tryd.infoInt
  have HI := Lib.hid hi
  have HZ0 := Lib.hid hz0
  have HZ1 := Lib.hid hz1
  have HZ2 := Lib.hid hz2
  have HROW := Lib.hid hrow
  have HR := Lib.hid hr
  have hmk1 := fun w => make_rows w g.length (by omega)
  have hmk2 := fun w => make_intsN w g.length (by omega)
  have HS := Lib.hid (cat_zero g)
  clear hi hz0 hz1 hz2 hrow hr hl
  have HA0 : Hid (OwnL (w.alloc (.cells (List.replicate g.length (Value.slice none 0 0)).toArray 27)) w.heap.size (w.heap.size + 2) w.heap.size (List.replicate g.length (Value.slice none 0 0)) (List.replicate g.length [])) := OwnL.made w _ _ g.length (Nat.le_refl _) (by omega)
  go_enter Tryd.func34, Tryd.ntmps34
  go_wp2_with fail
  go_loopw [17] (fun iv wr => ∃ (i : Nat) (vs : List Value) (la : List Int), i ≤ g.length ∧ iv = .int .i64 i ∧ OwnL wr w.heap.size (w.heap.size + 2) w.heap.size vs (intsL (cat g i)) ∧ wr.heap[w.heap.size + 1]? = some (.cells (icells la) 3) ∧ Hid (LastOk g.length i [] la) ∧ Upd [] w wr) (fun iv _ => g.length - (intOf iv).toNat)
  case atStart =>
    refine ⟨0, List.replicate g.length (Value.slice none 0 0), List.replicate g.length 0, by omega, rfl, ?_, ?_, LastOk.start _, ((Upd.refl [] w).alloc _).alloc _⟩
    · rw [HS.out, ← List.toArray_replicate]
      exact HA0.out.low ((Upd.refl [] _).alloc _) (by simp)
    · have := heap_alloc_new (w.alloc (.cells (List.replicate g.length (Value.slice none 0 0)).toArray 27)) (.cells (icells (List.replicate g.length 0)) 3)
      simpa using this
  case round =>
    obtain ⟨i, vs, la, hi, rfl, hL, hla, hLO, hU⟩ := hrel
    by_cases hlt : i < g.length
    · obtain ⟨b, o, rv, rfl, hcell, hrin⟩ := HROW.out i hlt
      have hx := hU.cell hcell (by simp)
      obtain ⟨a2, cap2, rfl, hl2, hin⟩ := hrin
      have hlen2 : (g.getD i []).length ≤ 100000 := HR.out _ (by rw [List.getD_eq_getElem?_getD, List.getElem?_eq_getElem hlt]; exact List.getElem_mem hlt)
      have hcat : cat g i = cst g i [] := by unfold cat; rw [if_pos hlt]
      rw [hcat] at hL
      have HN : Hid (cat g (i + 1) = cst g i (crow g.length (g.getD i []))) := by
        show cat g (i + 1) = _
        unfold cat
        by_cases h2 : i + 1 < g.length
        · rw [if_pos h2, cst_next g i h2]
        · rw [if_neg h2, cst_last g i (by omega)]
      have HIN := Lib.hid hin
      have HL := Lib.hid hL
      have HLA := Lib.hid hla
      clear hcat hcell hin hL hla
      generalize hgl : g.getD i [] = l at hx hlen2 HN HIN
      clear hgl
      obtain ⟨wo, rfl⟩ : ∃ wo : World, wo = wr := ⟨_, rfl⟩
      go_wp2_with fail
      go_loopw [24] (fun jv wr => ∃ (j : Nat) (vs : List Value) (la : List Int) (acc : List Nat), j ≤ l.length ∧ jv = .int .i64 j ∧ Hid (crow g.length (l.take j) = acc) ∧ OwnL wr w.heap.size (w.heap.size + 2) w.heap.size vs (intsL (cst g i acc)) ∧ wr.heap[w.heap.size + 1]? = some (.cells (icells la) 3) ∧ Hid (LastOk g.length i acc la) ∧ Upd [] w wr) (fun jv _ => l.length - (intOf jv).toNat)
      case atStart => exact ⟨0, _, _, [], by omega, rfl, Hid.mk rfl, HL.out, HLA.out, hLO, hU⟩
      case round =>
        clear HL HLA hLO hU hx
        obtain ⟨j, vs, la, acc, hj, rfl, hacc, hL, hla, hLO, hU⟩ := hrel
        obtain ⟨wq, rfl⟩ : ∃ wq : World, wq = wr := ⟨_, rfl⟩
        by_cases hjl : j < l.length
        · obtain ⟨b2, o2, rfl, hbd, hc2⟩ := HIN.out j hjl
          have hy := hU.cell hc2 (by simp)
          have HNX := Lib.hid (crow_take g.length l j hjl)
          rw [hacc.out] at HNX
          clear hc2
          generalize l.getD j 0 = x at hy hbd HNX
          have HL := Lib.hid hL
          by_cases h0 : 0 ≤ x
          · obtain ⟨k, rfl⟩ := Int.eq_ofNat_of_zero_le h0
            have d0 : decide ((0 : Int) ≤ (k : Int)) = true := by simp
            by_cases h1 : k < g.length
            · have d1 : decide ((k : Int) < (g.length : Int)) = true := by simp; omega
              have hlal := hLO.out.1
              obtain ⟨e1, e2, e3⟩ := hLO.out.2 k h1
              have hlk := cell_of hla k
              rw [icells_get _ _ (by omega)] at hlk
              have hfk := froz_of hla k
              have HNX2 : Hid (crow g.length (l.take (j + 1)) = if k ∈ acc then acc else acc ++ [k]) := by
                show _ = _
                rw [HNX.out]
                unfold cstep
                by_cases hm : k ∈ acc
                · rw [if_pos hm, if_neg (by rintro ⟨_, _, h⟩; exact h (by simpa using hm))]
                · rw [if_neg hm, if_pos ⟨by omega, by omega, by simpa using hm⟩]
                  simp
              have HLAL := Lib.hid hlal
              have HE3 := Lib.hid e3
              have HLA := Lib.hid hla
              clear hlal e3 hL hla
              generalize hlx : la.getD k 0 = y at hlk e1 e2 HE3
              clear hlx
              by_cases hm : k ∈ acc
              · have hyi : (y != (i : Int) + 1) = false := by
                  rw [HE3.out.2 hm]; simp
                have HNX3 := HNX2.out
                rw [if_pos hm] at HNX3
                have HNX4 := Lib.hid HNX3
                clear HNX3 hm
                go_wp2_with fail
                go_roundw
                case rel => exact ⟨j + 1, vs, la, acc, by omega, by go_num, HNX4.out, HL.out, HLA.out, hLO, hU⟩
                case measure => simp [intOf]; omega
              · have hyi : (y != (i : Int) + 1) = true := by
                  rw [bne_iff_ne]
                  exact fun e => hm (HE3.out.1 e)
                have HNX3 := HNX2.out
                rw [if_neg hm] at HNX3
                have HNX4 := Lib.hid HNX3
                have HP := Lib.hid (hLO.out.put h1)
                clear HNX3 hm
                have hs1 : Upd [w.heap.size + 1] wq (wq.setCell ⟨w.heap.size + 1, k, none⟩ (.int .i64 ((i : Int) + 1))) := (Upd.refl _ _).setCell (Or.inl (by simp)) _
                have hLl : (intsL (cst g i acc)).length = g.length := by rw [intsL_len, cst_len g i acc hlt]
                have hnl : ∀ q, q < (intsL (cst g i acc)).length → ∀ z, (vs.getD q undef).ownBlock = some z → z ∉ [w.heap.size + 1] := fun q hq z hz hm => by
                  have := ((HL.out.own q hq).lt z hz).1
                  simp at hm; omega
                have hL1 := HL.out.upd hs1 (by simp) hnl
                have hla1 := heap_setCell HLA.out k (.int .i64 ((i : Int) + 1))
                rw [icells_set] at hla1
                have hU1 : Upd [] w (wq.setCell ⟨w.heap.size + 1, k, none⟩ (.int .i64 ((i : Int) + 1))) := hU.trans' hs1 (fun q hq hlt2 => by simp at hq; omega)
                obtain ⟨pv, cv, hv⟩ := (hL1.own i (by rw [hLl]; exact hlt)).shape
                have hcv := hL1.cell i (by rw [hLl]; exact hlt)
                rw [hv] at hcv
                have hgl : (intsL (cst g i acc)).getD i [] = ints acc := by rw [intsL_get, cst_get g i acc hlt]
                have hrow := hL1.own i (by rw [hLl]; exact hlt)
                rw [hgl] at hcv hrow hv
                have hbz := hL1.blk
                have hfz := froz_of hbz i
                have HL1 := Lib.hid hL1
                have HV := Lib.hid hv
                have HRW := Lib.hid hrow
                have HLA1 := Lib.hid hla1
                have HGL := Lib.hid hgl
                have HLL := Lib.hid hLl
                have hal : acc.length ≤ 100000 := by
                  have := (crow_len g.length (l.take j)).1
                  rw [hacc.out] at this
                  omega
                have hil : (ints acc).length ≤ 100000 := by rw [ints_len]; exact hal
                clear hv hrow hla1 hgl hLl hnl hs1 hbz hL1
                go_wp2_with (at_builtin; refine stop_here ?_)
                refine Hid.mk ?_
                clear hcv hfz hlk hfk hy
                have hsz : (wq.setCell ⟨w.heap.size + 1, k, none⟩ (.int .i64 ((i : Int) + 1))).heap.size = wq.heap.size := by simp [World.setCell]
                generalize wq.setCell ⟨w.heap.size + 1, k, none⟩ (.int .i64 ((i : Int) + 1)) = w1 at HL1 HRW HLA1 hU1 hsz ⊢
                have hcn := cell_of (heap_alloc_new w1 (.cells #[.int .i64 (k : Int)] 3))
                rw [hsz] at hcn
                refine (wpList_append_own_at _ rfl _ _ 27 rfl (w.heap.size + 2) 3 i0 (.int .i64 0) 1 8 Tryd.underlying27 HI.out HZ0.out HZ1.out HZ2.out rfl (by decide) _ _ _ rfl (by have := HRW.out.alloc (.cells #[.int .i64 (k : Int)] 3); rw [HV.out] at this; exact this) ⟨wq.heap.size, 0, none⟩ 1 1 [.int .i64 (k : Int)] rfl rfl ?c1 ?c2 ?c3 ?c4 ?c5 ?c6)
                case c1 =>
                  intro jj uu hjj
                  rw [Addr.add_lit, Nat.zero_add, hcn]
                  simpa using hjj
                case c2 => simp [Value.oneCell']
                case c3 => unfold maxLen; omega
                case c4 => omega
                case c5 =>
                  have h1 := hU1.size
                  have h2 := lt_of_heap HLA1.out
                  simp; omega
                case c6 =>
                  intro v' w2 hown hgr _ hat
                  rw [← HV.out] at hgr hat
                  rw [← HGL.out] at hown
                  obtain ⟨hb2, hL2, hu2, hge2⟩ := HL1.out.push i (by rw [HLL.out]; exact hlt) hown hgr hat
                  rw [HGL.out] at hown
                  obtain ⟨g', cap', rfl⟩ := ownsRow_succ hown
                  have hLA2 := (((Upd.refl (vs.getD i undef).ownBlock.toList w1).alloc (.cells #[.int .i64 (k : Int)] 3)).grown hgr (fun q hq => Or.inl (Option.mem_toList.2 hq))).heap HLA1.out (fun hm => by
                    have := ((HL1.out.own i (by rw [HLL.out]; exact hlt)).lt _ (Option.mem_toList.1 hm)).1
                    omega)
                  have hLA3 : (w2.setCell ⟨w.heap.size, i, none⟩ (.slice (some ⟨g', 0, none⟩) ((ints acc).length + 1) cap')).heap[w.heap.size + 1]? = some (.cells (icells (la.set k ((i : Int) + 1))) 3) := by
                    rw [Below.heap_setCell _ _ _ _ (by simp)]
                    exact hLA2
                  have hU2 := hU1.trans' hu2 (fun q hq hlt2 => by have := hge2 q hq; omega)
                  have hrows : (intsL (cst g i acc)).set i ((intsL (cst g i acc)).getD i [] ++ [(k : Int)]) = intsL (cst g i (acc ++ [k])) := by
                    rw [HGL.out, ← ints_snoc, intsL_set, cst_set g i _ _ hlt]
                  rw [hrows] at hL2
                  have hfg := froz_of hb2 i
                  have hcg := cell_of hb2 i
                  have hvl : i < vs.length := by rw [HL1.out.len, HLL.out]; exact hlt
                  have hcg2 : w2.cell? ⟨w.heap.size, i, none⟩ = some (vs.getD i undef) := by
                    rw [hcg]
                    simp [List.getD_eq_getElem?_getD, List.getElem?_eq_getElem hvl]
                  rw [HV.out] at hcg2
                  have HL2 := Lib.hid hL2
                  have HLA3 := Lib.hid hLA3
                  have HU2 := Lib.hid hU2
                  clear hcg hb2 hL2 hu2 hge2 hown hgr hat hLA2 hLA3 hU2 hrows hcn
                  go_wp2_with fail
                  go_roundw
                  case rel => exact ⟨j + 1, _, _, acc ++ [k], by omega, by go_num, HNX4.out, HL2.out, HLA3.out, HP.out, HU2.out⟩
                  case measure => simp [intOf]; omega
            · have d1 : decide ((k : Int) < (g.length : Int)) = false := by simp; omega
              have HNX2 : Hid (crow g.length (l.take (j + 1)) = acc) := by
                show _ = _
                rw [HNX.out]
                unfold cstep
                rw [if_neg (by omega)]
              have HLA := Lib.hid hla
              clear hL hla
              go_wp2_with fail
              go_roundw
              case rel => exact ⟨j + 1, vs, la, acc, by omega, by go_num, HNX2.out, HL.out, HLA.out, hLO, hU⟩
              case measure => simp [intOf]; omega
          · have d0 : decide ((0 : Int) ≤ x) = false := by simp; omega
            have HNX2 : Hid (crow g.length (l.take (j + 1)) = acc) := by
              show _ = _
              rw [HNX.out]
              unfold cstep
              rw [if_neg (by omega)]
            have HLA := Lib.hid hla
            clear hL hla
            go_wp2_with fail
            go_roundw
            case rel => exact ⟨j + 1, vs, la, acc, by omega, by go_num, HNX2.out, HL.out, HLA.out, hLO, hU⟩
            case measure => simp [intOf]; omega
        · obtain rfl : j = l.length := by omega
          rw [List.take_length] at hacc
          have HACC := hacc
          have HL := Lib.hid hL
          have HLA := Lib.hid hla
          clear hL hla hacc
          go_wp2_with fail
          go_roundw
          case rel =>
            refine ⟨i + 1, vs, la, by omega, by go_num, ?_, HLA.out, hLO.out.next, hU⟩
            rw [HN.out, HACC.out]
            exact HL.out
          case measure => simp [intOf]; omega
    · obtain rfl : i = g.length := by omega
      have hcat : cat g g.length = cleanG g := by unfold cat; rw [if_neg (by omega)]
      rw [hcat] at hL
      have HL := Lib.hid hL
      clear hL hcat hla
      go_wp2_with fail
      go_ret
      exact ⟨_, _, rfl, HL.out, hU⟩

end Go.Proofs.YtjjkliifpdcliaaDoor
