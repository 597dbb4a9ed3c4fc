/- FlowChain: the law's walk. -/
import Derived.Test.YtagjchgpcekmnaaDoorFirst5
import Derived.Test.YtagjchgpcekmnaaDoorChainM
import Derived.Test.YtagjchgpcekmnaaDoorOrder
import Derived.Test.YtagjchgpcekmnaaDoorFrame
namespace Go.Proofs.YtagjchgpcekmnaaDoor
open Go.RowKit

set_option maxRecDepth 100000 in
set_option maxHeartbeats 8000000 in
theorem chainW_any (n0 : Int) (vb : Value) (xs : List Int) (w : World) (_hb0 : -9223372036854775808 ≤ n0 ∧ n0 ≤ 9223372036854775807) (h : IntsAt w vb xs) (hT : TzAt w) :
    Calls Tryd.prog 5 #[.int .i64 n0, vb] w fun e w' => e = .returned (.bool true) ∧ Upd [] w w' := by
  obtain ⟨i0, hi, hz0, hz1, hz2⟩ := info_parts Tryd.infoInt
  have HI := Lib.hid hi
  have HZ0 := Lib.hid hz0
  have HZ1 := Lib.hid hz1
  have HZ2 := Lib.hid hz2
  clear hi hz0 hz1 hz2
  obtain ⟨a, cap, rfl, hlc, hcm, hbd, hcells⟩ := h
  unfold maxLen at hcm
  have HX : Hid (∀ i, i < xs.length → ∃ b o, a = some ⟨b, o, none⟩ ∧ w.cell? ⟨b, o + i, none⟩ = some (.int .i64 (xs.getD i 0)) ∧ -9223372036854775808 ≤ xs.getD i 0 ∧ xs.getD i 0 ≤ 9223372036854775807) := fun i hi => by
    rcases hcells with e | ⟨b, o, e, hc⟩
    · rw [e] at hi; simp at hi
    · refine ⟨b, o, e, hc i hi, hbd _ ?_⟩
      rw [List.getD_eq_getElem?_getD, List.getElem?_eq_getElem hi]
      exact List.getElem_mem hi
  have HT := Lib.hid hT
  clear hcells hbd hT
  have hb1 : -50 < n0.tmod 50 ∧ n0.tmod 50 < 50 := tmod_bd n0 50 (by omega)
  have hb2 : 0 ≤ (n0.tmod 50 + 50).tmod 50 ∧ (n0.tmod 50 + 50).tmod 50 < 50 := tmod2_bd n0 50 (by omega)
  have e1 : IntKind.i64.wrap (n0.tmod 50 + 50) = n0.tmod 50 + 50 := IntWalk.i64_in _ (by omega)
  have e2 : IntKind.i64.wrap ((n0.tmod 50 + 50).tmod 50 + 2) = (n0.tmod 50 + 50).tmod 50 + 2 := IntWalk.i64_in _ (by omega)
  obtain ⟨n, hn⟩ := Int.eq_ofNat_of_zero_le (show 0 ≤ (n0.tmod 50 + 50).tmod 50 + 2 by omega)
  have hn2 : 2 ≤ n := by omega
  have hn51 : n ≤ 51 := by omega
  rw [hn] at e2
  clear hb1 hb2
  go_enter Tryd.func5, Tryd.ntmps5
  go_wp2_with fail
  refine (first5_any w HT.out).mono ?_
  rintro e w1 ⟨rfl, hU1⟩
  have HU1 := Lib.hid hU1
  clear hU1
  by_cases hx50 : xs.length > 50
  · have d0 : decide ((xs.length : Int) > 50) = true := by simp; omega
    go_wp2_with fail
    go_ret
    exact ⟨rfl, HU1.out⟩
  · have d0 : decide ((xs.length : Int) > 50) = false := by simp; omega
    have hmk := make_rows w1 n (by omega)
    have hu2 := (Upd.refl [] w1).alloc (.cells (List.replicate n (Value.slice none 0 0)).toArray 28)
    have hL0 : OwnL (w1.alloc (.cells (List.replicate n (Value.slice none 0 0)).toArray 28)) w1.heap.size (w1.alloc (.cells (List.replicate n (Value.slice none 0 0)).toArray 28)).heap.size w1.heap.size (List.replicate n (Value.slice none 0 0)) (List.replicate n []) := OwnL.made w1 _ _ n (Nat.le_refl _) (by simp)
    rw [← rowsA_zero] at hL0
    have HL0 := Lib.hid hL0
    have HU2 := Lib.hid (HU1.out.trans hu2)
    have hz2 := World.size_alloc w1 (.cells (List.replicate n (Value.slice none 0 0)).toArray 28)
    rw [List.toArray_replicate] at HL0 HU2 hz2 hmk
    clear hL0 hu2
    go_wp2_with fail
    generalize hw2 : w1.alloc (.cells (Array.replicate n (Value.slice none 0 0)) 28) = w2 at HL0 HU2 hz2 ⊢
    clear hw2 hmk
    go_loopw [7] (fun iv wr => ∃ (i : Nat) (vs : List Value), i < n ∧ iv = .int .i64 i ∧ Hid (OwnL wr w1.heap.size w2.heap.size w1.heap.size vs (intsL (rowsA n i))) ∧ Hid (Upd [w1.heap.size] w2 wr)) (fun iv _ => n - (intOf iv).toNat)
    case atStart => exact ⟨0, _, by omega, rfl, HL0, Upd.refl _ _⟩
    case round =>
      obtain ⟨i, vs, hi, rfl, hL, hU⟩ := hrel
      obtain ⟨wo, rfl⟩ : ∃ wo : World, wo = wr := ⟨_, rfl⟩
      have hUs := hU.out.size
      by_cases hlt : i + 1 < n
      · have hil : i < (intsL (rowsA n i)).length := by rw [intsL_len, rowsA_len]; omega
        obtain ⟨hP, hPU⟩ := hL.out.place (by omega) i hil [(i : Int) + 1] (by simp)
        rw [rowsA_step] at hP
        have HP := Lib.hid hP
        have HPU := Lib.hid (hU.out.trans hPU)
        have hc := hL.out.cell i hil
        have hc2 := fun o => ((Upd.refl [] wo).alloc o).cell hc (by simp)
        have hf2 := fun o => froz_of ((((Upd.refl [] wo).alloc o)).heap hL.out.blk (by simp)) i
        have d1 : decide ((i : Int) + 1 < (n : Int)) = true := by simp; omega
        clear hP hPU hil
        go_wp2_with fail
        go_roundw
        case rel => exact ⟨i + 1, _, hlt, by go_num, HP, HPU⟩
        case measure => simp [intOf]; omega
      · have d1 : decide ((i : Int) + 1 < (n : Int)) = false := by simp; omega
        have hL1 := hL.out
        rw [rowsA_end n i (wayB n xs) hlt hi] at hL1
        have HL1 := Lib.hid hL1
        clear hL1 hL hlt HL0
        go_wp2_with fail
        go_loopw [8, 9, 10] (fun cv iv _ wr => ∃ (m : Nat) (vs : List Value), m ≤ n ∧ m ≤ xs.length ∧ iv = .int .i64 m ∧ cv = .int .i64 (cnt (wayB n xs) m) ∧ cnt (wayB n xs) m ≤ m ∧ Hid (OwnL wr w1.heap.size w2.heap.size w1.heap.size vs (intsL (rowsB n (wayB n xs) m))) ∧ Hid (Upd [w1.heap.size] w2 wr)) (fun _ iv _ _ => n - (intOf iv).toNat)
        case atStart => exact ⟨0, vs, by omega, by omega, rfl, rfl, by simp [cnt], HL1, hU⟩
        case round =>
          clear HL1 hU
          obtain ⟨m, vs, hm, hmx, rfl, rfl, hcm, hL, hU⟩ := hrel
          obtain ⟨wq, rfl⟩ : ∃ wq : World, wq = wr := ⟨_, rfl⟩
          have hUs2 := hU.out.size
          by_cases hmx2 : m < xs.length
          · by_cases hmn : m < n
            · obtain ⟨b, o, rfl, hc0, hbx⟩ := HX.out m hmx2
              have hcx := hU.out.cell (HU2.out.cell hc0 (by simp)) (by
                have := World.block_lt_of_cell? w _ hc0
                have := HU1.out.size
                simp at *
                omega)
              have HW : Hid (wayB n xs m = if ((xs.getD m 0).tmod n + n).tmod n ≤ (m : Int) then some (((xs.getD m 0).tmod n + n).tmod n).toNat else none) := by
                show _ = _
                unfold wayB
                by_cases hq : ((xs.getD m 0).tmod n + n).tmod n ≤ (m : Int)
                · rw [if_pos ⟨hmx2, hq⟩, if_pos hq]
                · rw [if_neg (fun h => hq h.2), if_neg hq]
              clear hc0
              generalize xs.getD m 0 = x at hcx hbx HW
              have hq1 := tmod_bd x n (by omega)
              have hq2 := tmod2_bd x n (by omega)
              have f1 : IntKind.i64.wrap (x.tmod n + n) = x.tmod n + n := IntWalk.i64_in _ (by omega)
              have f2 : ((n : Int) == 0) = false := by rw [beq_eq_false_iff_ne]; omega
              obtain ⟨tt, htt⟩ := Int.eq_ofNat_of_zero_le hq2.1
              have htn : tt < n := by omega
              rw [htt, Int.toNat_natCast] at HW
              clear hq1 hq2
              by_cases hle : tt ≤ m
              · have d5 : decide ((tt : Int) ≤ (m : Int)) = true := by simp; omega
                have hwy := HW.out
                rw [if_pos (by omega)] at hwy
                have HWY := Lib.hid hwy
                have hcn : cnt (wayB n xs) (m + 1) = cnt (wayB n xs) m + 1 := by simp [cnt, hwy]
                have HCN := Lib.hid hcn
                have HST := Lib.hid (rowsB_step n (wayB n xs) m tt hmn hwy)
                have hil : m < (intsL (rowsB n (wayB n xs) m)).length := by rw [intsL_len, rowsB_len]; exact hmn
                have hcv := hL.out.cell m hil
                have hrow := hL.out.own m hil
                obtain ⟨pv, cv, hv⟩ := hrow.shape
                rw [hv] at hcv
                have hgl : ((intsL (rowsB n (wayB n xs) m)).getD m []).length ≤ 1 := by
                  rw [intsL_get, ints_len, rowsB_get _ _ _ hmn]
                  split <;> simp
                have hfz := froz_of hL.out.blk m
                have HV := Lib.hid hv
                have HRW := Lib.hid hrow
                have HIL := Lib.hid hil
                clear hwy hcn hrow hv hil HW
                generalize hrr : (intsL (rowsB n (wayB n xs) m)).getD m [] = row at hcv HV HRW HST hgl
                have HRR := Lib.hid hrr
                clear hrr
                go_wp2_with (at_builtin; refine stop_here ?_)
                refine Hid.mk ?_
                have hcn := cell_of (heap_alloc_new wq (.cells #[.int .i64 (tt : Int)] 3))
                refine (wpList_append_own_at _ rfl _ _ 28 rfl w2.heap.size 3 i0 (.int .i64 0) 1 8 Tryd.underlying28 HI.out HZ0.out HZ1.out HZ2.out rfl (by decide) _ _ _ rfl (by have := HRW.out.alloc (.cells #[.int .i64 (tt : Int)] 3); rw [HV.out] at this; exact this) ⟨wq.heap.size, 0, none⟩ 1 1 [.int .i64 (tt : Int)] rfl rfl ?c1 ?c2 ?c3 ?c4 ?c5 ?c6)
                case c1 =>
                  intro jj uu hjj
                  rw [Addr.add_lit, Nat.zero_add, hcn]
                  simpa using hjj
                case c2 => simp [Value.oneCell']
                case c3 => unfold maxLen; omega
                case c4 => omega
                case c5 => simp; omega
                case c6 =>
                  intro v' w6 hown hgr _ hat
                  rw [← HV.out] at hgr hat
                  rw [← HRR.out] at hown
                  obtain ⟨hb2, hL2, hu2, hge2⟩ := hL.out.push m HIL.out hown hgr hat
                  rw [HRR.out] at hown
                  obtain ⟨g', cap', rfl⟩ := ownsRow_succ hown
                  have hU2 := hU.out.trans' hu2 (fun q hq hlt2 => by have := hge2 q hq; simp; omega)
                  rw [HRR.out, HST.out] at hL2
                  have hfg := froz_of hb2 m
                  have hvl : m < vs.length := by rw [hL.out.len]; exact HIL.out
                  have hcg2 : w6.cell? ⟨w1.heap.size, m, none⟩ = some (vs.getD m undef) := by
                    rw [cell_of hb2 m]
                    simp [List.getD_eq_getElem?_getD, List.getElem?_eq_getElem hvl]
                  rw [HV.out] at hcg2
                  have HL2 := Lib.hid hL2
                  have HU4 := Lib.hid hU2
                  clear hb2 hL2 hu2 hge2 hown hgr hat hU2 hcn hcv hfz hcx
                  go_wp2_with fail
                  go_roundw
                  case rel => exact ⟨m + 1, _, by omega, by omega, by go_num, by rw [HCN.out]; go_num, by rw [HCN.out]; omega, HL2, HU4⟩
                  case measure => simp [intOf]; omega
              · have d5 : decide ((tt : Int) ≤ (m : Int)) = false := by simp; omega
                have hwy := HW.out
                rw [if_neg (by omega)] at hwy
                have HCN : Hid (cnt (wayB n xs) (m + 1) = cnt (wayB n xs) m) := by show _ = _; simp [cnt, hwy]
                have HST := Lib.hid (rowsB_skip n (wayB n xs) m hwy)
                clear hwy HW
                go_wp2_with fail
                go_roundw
                case rel => exact ⟨m + 1, vs, by omega, by omega, by go_num, by rw [HCN.out], by rw [HCN.out]; omega, by rw [← HST.out]; exact hL, hU⟩
                case measure => simp [intOf]; omega
            · have HE : Hid (rowsB n (wayB n xs) m = chainC n (wayB n xs)) := rowsB_end n _ m (fun k hk hmk => by omega)
              have HCE : Hid (cnt (wayB n xs) m = cnt (wayB n xs) n) := cnt_end _ m n hm (fun k hk hmk => by omega)
              have HCO := Lib.hid (chain_order n (wayB n xs) (wayB_le n xs) (by omega))
              have HCS := Lib.hid (cleanG_self (chainC n (wayB n xs)) (chain_clean n (wayB n xs) (wayB_le n xs)))
              have HBD := Lib.hid (chain_bd n (wayB n xs) (wayB_le n xs))
              have HGN : Hid ((intsL (chainC n (wayB n xs))).length = n) := by show _ = _; rw [intsL_len, chainC_len]
              have hL9 := hL.out
              rw [HE.out] at hL9
              have hRW := hL9.rows n (fun l hl x hx => by have := (HBD.out l hl).2 x hx; omega) (fun l hl => by have := (HBD.out l hl).1; omega) (by rw [HGN.out]; unfold maxLen; omega)
              rw [HGN.out] at hRW
              have HRW := Lib.hid hRW
              clear hL9 hRW hL HE
              go_wp2_with fail
              refine (order_any _ (intsL (chainC n (wayB n xs))) wq HRW.out (by rw [HGN.out]; omega) (fun l hl => by have := (HBD.out l hl).1; omega)).mono ?_
              rintro e w5 ⟨u, rfl, hO, hU5⟩
              rw [HCS.out, HCO.out.1] at hO
              obtain ⟨bo, hio, hbo⟩ := hO.ints
              have hrl : (ints (List.range n)).length = n := by rw [ints_len]; simp
              have hrg : ∀ k, k < n → w5.cell? ⟨bo, k, none⟩ = some (.int .i64 (k : Int)) := fun k hk => by
                have := hio.2 k (by rw [hrl]; exact hk)
                rw [this, ints_get _ _ (by simpa using hk), range_get _ _ hk]
              obtain ⟨cu, rfl⟩ : ∃ cu, u = .slice (some ⟨bo, 0, none⟩) n cu := by
                rcases hio.1 with ⟨_, e⟩ | ⟨c, e⟩
                · rw [e] at hrl; simp at hrl; omega
                · exact ⟨c, by rw [e, hrl]⟩
              have HRG := Lib.hid hrg
              have HU5 := Lib.hid hU5
              have HRW5 := Lib.hid (HRW.out.upd hU5)
              clear hrg hU5 hio hbo hO HRW hrl
              go_wp2_with fail
              go_loopw [12] (fun iv wr => ∃ k : Nat, k ≤ n ∧ iv = .int .i64 k ∧ Hid (Upd [] w5 wr)) (fun iv _ => n - (intOf iv).toNat)
              case atStart => exact ⟨0, by omega, rfl, Upd.refl _ _⟩
              case round =>
                obtain ⟨k, hk, rfl, HUK⟩ := hrel
                obtain ⟨wz, rfl⟩ : ∃ wz : World, wz = wr := ⟨_, rfl⟩
                by_cases hkn : k < n
                · have hcz := HUK.out.cell (HRG.out k hkn) (by simp)
                  go_wp2_with fail
                  go_roundw
                  case rel => exact ⟨k + 1, by omega, by go_num, HUK⟩
                  case measure => simp [intOf]; omega
                · obtain rfl : k = n := by omega
                  go_wp2_with fail
                  refine (loops_any _ (intsL (chainC k (wayB k xs))) wz (HRW5.out.upd HUK.out) (by rw [HGN.out]; omega) (fun l hl => by have := (HBD.out l hl).1; omega)).mono ?_
                  rintro e w7 ⟨sb, pv, bv, bs, rfl, hE, hU7⟩
                  obtain ⟨pb, cb, rfl, hbm⟩ := row_pl hE.back
                  have hbl := hE.bln
                  rw [HCS.out, HCO.out.2, ← HCE.out] at hbl
                  have HUE := Lib.hid (((HU2.out.trans' hU.out (fun q hq hlt2 => by
                    have := HU1.out.size
                    simp at hq
                    omega)).trans HU5.out).trans (HUK.out.trans hU7))
                  clear hE hU7
                  rw [hbl]
                  clear hbl hbm
                  go_wp2_with fail
                  go_ret
                  exact ⟨rfl, HUE.out⟩
          · have HE : Hid (rowsB n (wayB n xs) m = chainC n (wayB n xs)) := rowsB_end n _ m (fun k hk hmk => wayB_over n xs k (by omega))
            have HCE : Hid (cnt (wayB n xs) m = cnt (wayB n xs) n) := cnt_end _ m n hm (fun k hk hmk => wayB_over n xs k (by omega))
            have HCO := Lib.hid (chain_order n (wayB n xs) (wayB_le n xs) (by omega))
            have HCS := Lib.hid (cleanG_self (chainC n (wayB n xs)) (chain_clean n (wayB n xs) (wayB_le n xs)))
            have HBD := Lib.hid (chain_bd n (wayB n xs) (wayB_le n xs))
            have HGN : Hid ((intsL (chainC n (wayB n xs))).length = n) := by show _ = _; rw [intsL_len, chainC_len]
            have hL9 := hL.out
            rw [HE.out] at hL9
            have hRW := hL9.rows n (fun l hl x hx => by have := (HBD.out l hl).2 x hx; omega) (fun l hl => by have := (HBD.out l hl).1; omega) (by rw [HGN.out]; unfold maxLen; omega)
            rw [HGN.out] at hRW
            have HRW := Lib.hid hRW
            clear hL9 hRW hL HE
            go_wp2_with fail
            refine (order_any _ (intsL (chainC n (wayB n xs))) wq HRW.out (by rw [HGN.out]; omega) (fun l hl => by have := (HBD.out l hl).1; omega)).mono ?_
            rintro e w5 ⟨u, rfl, hO, hU5⟩
            rw [HCS.out, HCO.out.1] at hO
            obtain ⟨bo, hio, hbo⟩ := hO.ints
            have hrl : (ints (List.range n)).length = n := by rw [ints_len]; simp
            have hrg : ∀ k, k < n → w5.cell? ⟨bo, k, none⟩ = some (.int .i64 (k : Int)) := fun k hk => by
              have := hio.2 k (by rw [hrl]; exact hk)
              rw [this, ints_get _ _ (by simpa using hk), range_get _ _ hk]
            obtain ⟨cu, rfl⟩ : ∃ cu, u = .slice (some ⟨bo, 0, none⟩) n cu := by
              rcases hio.1 with ⟨_, e⟩ | ⟨c, e⟩
              · rw [e] at hrl; simp at hrl; omega
              · exact ⟨c, by rw [e, hrl]⟩
            have HRG := Lib.hid hrg
            have HU5 := Lib.hid hU5
            have HRW5 := Lib.hid (HRW.out.upd hU5)
            clear hrg hU5 hio hbo hO HRW hrl
            go_wp2_with fail
            go_loopw [12] (fun iv wr => ∃ k : Nat, k ≤ n ∧ iv = .int .i64 k ∧ Hid (Upd [] w5 wr)) (fun iv _ => n - (intOf iv).toNat)
            case atStart => exact ⟨0, by omega, rfl, Upd.refl _ _⟩
            case round =>
              obtain ⟨k, hk, rfl, HUK⟩ := hrel
              obtain ⟨wz, rfl⟩ : ∃ wz : World, wz = wr := ⟨_, rfl⟩
              by_cases hkn : k < n
              · have hcz := HUK.out.cell (HRG.out k hkn) (by simp)
                go_wp2_with fail
                go_roundw
                case rel => exact ⟨k + 1, by omega, by go_num, HUK⟩
                case measure => simp [intOf]; omega
              · obtain rfl : k = n := by omega
                go_wp2_with fail
                refine (loops_any _ (intsL (chainC k (wayB k xs))) wz (HRW5.out.upd HUK.out) (by rw [HGN.out]; omega) (fun l hl => by have := (HBD.out l hl).1; omega)).mono ?_
                rintro e w7 ⟨sb, pv, bv, bs, rfl, hE, hU7⟩
                obtain ⟨pb, cb, rfl, hbm⟩ := row_pl hE.back
                have hbl := hE.bln
                rw [HCS.out, HCO.out.2, ← HCE.out] at hbl
                have HUE := Lib.hid (((HU2.out.trans' hU.out (fun q hq hlt2 => by
                  have := HU1.out.size
                  simp at hq
                  omega)).trans HU5.out).trans (HUK.out.trans hU7))
                clear hE hU7
                rw [hbl]
                clear hbl hbm
                go_wp2_with fail
                go_ret
                exact ⟨rfl, HUE.out⟩

end Go.Proofs.YtagjchgpcekmnaaDoor
