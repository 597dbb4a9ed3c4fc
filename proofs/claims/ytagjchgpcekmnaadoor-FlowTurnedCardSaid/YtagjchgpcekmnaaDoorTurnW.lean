/- FlowTurned: the law's walk. -/
import Derived.Test.YtagjchgpcekmnaaDoorFirst5
import Derived.Test.YtagjchgpcekmnaaDoorLight5
import Derived.Test.YtagjchgpcekmnaaDoorPreds
import Derived.Test.YtagjchgpcekmnaaDoorFlowT
namespace Go.Proofs.YtagjchgpcekmnaaDoor
open Go.RowKit

theorem preds_rows {w : World} {G B gb : Nat} {vs : List Value} {c : List (List Nat)} (h : OwnL w G B gb vs (intsL (predsL c))) (hn : c.length ≤ 100000) (cap : Nat) :
    RowsAt w (.slice (some ⟨gb, 0, none⟩) c.length cap) (intsL (predsL c)) ∧ ∀ l ∈ intsL (predsL c), l.length ≤ c.length := by
  have hb : ∀ l ∈ intsL (predsL c), l.length ≤ c.length ∧ ∀ x ∈ l, 0 ≤ x ∧ x < (c.length : Int) := fun l hl => by
    unfold intsL at hl
    rw [List.mem_map] at hl
    obtain ⟨m, hm, rfl⟩ := hl
    refine ⟨by rw [ints_len]; exact predsL_bd c m hm, fun x hx => ?_⟩
    obtain ⟨i, hi, rfl⟩ := List.getElem_of_mem hm
    have := (predsL_clean c i hi).2
    rw [List.getD_eq_getElem?_getD, List.getElem?_eq_getElem hi] at this
    unfold ints at hx
    rw [List.mem_map] at hx
    obtain ⟨k, hk, rfl⟩ := hx
    have := this k hk
    rw [predsL_len] at this
    omega
  have hL : (intsL (predsL c)).length = c.length := by rw [intsL_len, predsL_len]
  have := h.rows cap (fun l hl x hx => by have := (hb l hl).2 x hx; omega) (fun l hl => by have := (hb l hl).1; omega) (by rw [hL]; unfold maxLen; omega)
  rw [hL] at this
  exact ⟨this, fun l hl => (hb l hl).1⟩

set_option maxRecDepth 100000 in
set_option maxHeartbeats 4000000 in
theorem turnedW_any (v : Value) (g : List (List Int)) (w : World) (h : RowsAt w v g) (hT : TzAt w) :
    Calls Tryd.prog 7 #[v] w fun e w' => e = .returned (.bool true) ∧ Upd [] w w' := by
  obtain ⟨i0, hi, hz0, hz1, hz2⟩ := info_parts Tryd.infoInt
  have HI := Lib.hid hi
  have HZ0 := Lib.hid hz0
  have HZ1 := Lib.hid hz1
  have HZ2 := Lib.hid hz2
  clear hi hz0 hz1 hz2
  have HR := Lib.hid h
  have HT := Lib.hid hT
  obtain ⟨a, cap, rfl, hl, hrow⟩ := h
  unfold maxLen at hl
  have HROW := Lib.hid hrow
  clear hrow hT
  go_enter Tryd.func7, Tryd.ntmps7
  go_wp2_with fail
  refine (first5_any w HT.out).mono ?_
  rintro e w1 ⟨rfl, hU1⟩
  have HU1 := Lib.hid hU1
  clear hU1
  go_wp2_with fail
  refine (light5_any _ g w1 (HR.out.upd HU1.out)).mono ?_
  rintro e w2 ⟨b, rfl, hb, hU2⟩
  have HU2 := Lib.hid (HU1.out.trans hU2)
  clear hU2
  cases b with
  | false =>
    go_wp2_with fail
    go_ret
    exact ⟨rfl, HU2.out⟩
  | true =>
    obtain ⟨hg, hgl⟩ := hb rfl
    have HGL := Lib.hid hgl
    clear hb hgl
    go_wp2_with fail
    refine (preds_any _ g w2 (HR.out.upd HU2.out) (by omega) (fun l hl => by have := HGL.out l hl; omega)).mono ?_
    rintro e w3 ⟨G3, B3, gb3, vs3, rfl, hO3, hG3, hU3⟩
    have hcl := cleanG_len g
    obtain ⟨hr3, hl3⟩ := preds_rows hO3 (by omega) g.length
    rw [hcl] at hr3 hl3
    have HR3 := Lib.hid hr3
    have HL3 := Lib.hid hl3
    have HU3 := Lib.hid (HU2.out.trans hU3)
    have hlen3 : (intsL (predsL (cleanG g))).length = g.length := by rw [intsL_len, predsL_len, hcl]
    have HCS := Lib.hid (cleanG_self (predsL (cleanG g)) (predsL_clean _))
    have HLEN3 := Lib.hid hlen3
    clear hO3 hG3 hU3 hr3 hl3 hcl hlen3
    go_wp2_with fail
    refine (preds_any _ (intsL (predsL (cleanG g))) w3 HR3.out (by rw [HLEN3.out]; omega) (fun l hl => by have := HL3.out l hl; omega)).mono ?_
    rintro e w4 ⟨G4, B4, gb4, vs4, rfl, hO4, hG4, hU4⟩
    rw [HCS.out] at hO4
    rw [HLEN3.out]
    have HO4 := Lib.hid hO4
    have HU4 := Lib.hid (HU3.out.trans hU4)
    have HTN := Lib.hid (fun i hi => turned g i hi)
    have hlen4 : (intsL (predsL (predsL (cleanG g)))).length = g.length := by rw [intsL_len, predsL_len, predsL_len, cleanG_len]
    have HLEN4 := Lib.hid hlen4
    clear hO4 hG4 hU4 hlen4 HCS HR3 HL3 HLEN3 HU3 HU2 HU1
    go_wp2_with fail
    go_loopw [6] (fun iv wr => ∃ i : Nat, i ≤ g.length ∧ iv = .int .i64 i ∧ Upd [] w4 wr) (fun iv _ => g.length - (intOf iv).toNat)
    case atStart => exact ⟨0, by omega, rfl, Upd.refl _ _⟩
    case round =>
      obtain ⟨i, hi, rfl, hU⟩ := hrel
      obtain ⟨wo, rfl⟩ : ∃ wo : World, wo = wr := ⟨_, rfl⟩
      have HU := Lib.hid hU
      clear hU
      by_cases hlt : i < g.length
      · obtain ⟨b, o, rv, rfl, hcell, a2, cap2, rfl, hl2, hx⟩ := HROW.out i hlt
        have HCL := Lib.hid hcell
        have HX := Lib.hid hx
        have HVT := Lib.hid (fun j hj => valid_take g.length (g.getD i []) j hj)
        have HTI := Lib.hid (HTN.out i hlt)
        have hrb : (g.getD i []).length ≤ 400 := HGL.out _ (by
          rw [List.getD_eq_getElem?_getD, List.getElem?_eq_getElem hlt]
          exact List.getElem_mem hlt)
        clear hcell hx
        generalize hrr : g.getD i [] = row at HCL HX HVT HTI hrb hl2
        clear hrr
        go_wp2_with fail
        go_loopw [7, 8] (fun lv kv wr => ∃ k : Nat, k ≤ row.length ∧ kv = .int .i64 k ∧ OwnI wr w4.heap.size 3 lv (valid g.length (row.take k)) ∧ Upd [] w4 wr) (fun _ kv _ => row.length - (intOf kv).toNat)
        case atStart => exact ⟨0, by omega, rfl, OwnI.nil _ _ _, HU.out⟩
        case round =>
          obtain ⟨k, hk, rfl, hO, hU⟩ := hrel
          obtain ⟨wq, rfl⟩ : ∃ wq : World, wq = wr := ⟨_, rfl⟩
          have hcell := hU.cell (HU4.out.cell HCL.out (by simp)) (by simp)
          by_cases hkl : k < row.length
          · obtain ⟨pv, cv, rfl⟩ := hO.shape
            obtain ⟨b2, o2, rfl, hbd, hy0⟩ := HX.out k hkl
            have hy := hU.cell (HU4.out.cell hy0 (by simp)) (by simp)
            have HV := Lib.hid (HVT.out k hkl)
            have HO := Lib.hid hO
            have HUU := Lib.hid hU
            have hvl : (valid g.length (row.take k)).length ≤ 400 := by
              have := List.length_filter_le (fun z => decide (0 ≤ z) && decide (z < (g.length : Int))) (row.take k)
              unfold valid
              rw [List.length_take] at this
              omega
            clear hy0 hO hU
            generalize row.getD k 0 = x at hy HV hbd
            by_cases hx0 : 0 ≤ x
            · have d0 : decide (0 ≤ x) = true := decide_eq_true hx0
              have d0' : decide (x ≥ 0) = true := decide_eq_true hx0
              by_cases hxn : x < (g.length : Int)
              · have d1 : decide (x < (g.length : Int)) = true := decide_eq_true hxn
                have HV2 := HV.out
                rw [if_pos ⟨hx0, hxn⟩] at HV2
                have HV2 := Lib.hid HV2
                clear HV
                go_wp2_with (at_builtin; refine stop_here ?_)
                refine Hid.mk ?_
                have hcn := cell_of (heap_alloc_new wq (.cells #[.int .i64 x] 3))
                refine (wpList_append_own_at _ rfl _ _ 28 rfl w4.heap.size 3 i0 (.int .i64 0) 1 8 Tryd.underlying28 HI.out HZ0.out HZ1.out HZ2.out rfl (by decide) _ _ _ rfl (HO.out.alloc (.cells #[.int .i64 x] 3)) ⟨wq.heap.size, 0, none⟩ 1 1 [.int .i64 x] rfl rfl ?c1 ?c2 ?c3 ?c4 ?c5 ?c6)
                case c1 =>
                  intro jj uu hjj
                  rw [Addr.add_lit, Nat.zero_add, hcn]
                  simpa using hjj
                case c2 => simp [Value.oneCell']
                case c3 => unfold maxLen; omega
                case c4 => omega
                case c5 => have h1 := HUU.out.size; simp; omega
                case c6 =>
                  intro v' w6 hown hgr _ hat
                  have hU6 := (HUU.out.alloc (.cells #[.int .i64 x] 3)).grown hgr (fun q hq => .inr (HO.out.lt q hq).1)
                  have hO6 := OwnI.snoc hown
                  obtain ⟨g', cap', rfl⟩ := ownsRow_succ hown
                  have HO6 := Lib.hid hO6
                  have HU6 := Lib.hid hU6
                  clear hown hgr hat hU6 hO6 hcn hcell hy
                  go_wp2_with fail
                  go_roundw
                  case rel => exact ⟨k + 1, by omega, by go_num, by rw [HV2.out]; exact HO6.out, HU6.out⟩
                  case measure => simp [intOf]; omega
              · have d1 : decide (x < (g.length : Int)) = false := decide_eq_false hxn
                have HV2 := HV.out
                rw [if_neg (fun h => hxn h.2)] at HV2
                have HV2 := Lib.hid HV2
                clear HV
                go_wp2_with fail
                go_roundw
                case rel => exact ⟨k + 1, by omega, by go_num, by rw [HV2.out]; exact HO.out, HUU.out⟩
                case measure => simp [intOf]; omega
            · have d0 : decide (0 ≤ x) = false := decide_eq_false hx0
              have d0' : decide (x ≥ 0) = false := decide_eq_false hx0
              have HV2 := HV.out
              rw [if_neg (fun h => hx0 h.1)] at HV2
              have HV2 := Lib.hid HV2
              clear HV
              go_wp2_with fail
              go_roundw
              case rel => exact ⟨k + 1, by omega, by go_num, by rw [HV2.out]; exact HO.out, HUU.out⟩
              case measure => simp [intOf]; omega
          · obtain rfl : k = row.length := by omega
            rw [List.take_length] at hO
            obtain ⟨pv, cv, rfl⟩ := hO.shape
            have hc4 := hU.cell (HO4.out.cell i (by rw [HLEN4.out]; exact hlt)) (by simp)
            have hr4 := HO4.out.own i (by rw [HLEN4.out]; exact hlt)
            rw [intsL_get, HTI.out] at hr4
            obtain ⟨p4, c4, hv4⟩ := hr4.shape
            rw [hv4] at hc4 hr4
            obtain ⟨b4, hi4, _⟩ := hr4.ints
            obtain ⟨bo, hio, _⟩ := hO.ints
            have hvl : (valid g.length row).length ≤ 400 := by
              have := List.length_filter_le (fun z => decide (0 ≤ z) && decide (z < (g.length : Int))) row
              unfold valid
              omega
            have hsl : (sortL (valid g.length row)).length ≤ 1000000 := by
              rw [← HTI.out, ints_len]
              have hpl : i < (predsL (predsL (cleanG g))).length := by rw [predsL_len, predsL_len, cleanG_len]; exact hlt
              have := predsL_bd (predsL (cleanG g)) ((predsL (predsL (cleanG g))).getD i []) (by
                rw [List.getD_eq_getElem?_getD, List.getElem?_eq_getElem hpl]
                exact List.getElem_mem hpl)
              rw [predsL_len, cleanG_len] at this
              omega
            have HI4 := Lib.hid (hi4.upd hU (Or.inr (by simp)))
            have HSO := Lib.hid (sorted_any _ bo _ wq.drew (hio.upd ((Upd.refl [] wq).drew) (Or.inr (by simp))) (by omega))
            generalize valid g.length row = xs at hc4 HSO HI4 hsl
            have HUU := Lib.hid hU
            have hcq : wq.drew.cell? ⟨gb4, i, none⟩ = _ := hc4
            clear hO hr4 hv4 hi4 hio hvl hU
            go_wp2_with fail
            go_region_held3 (fun w' => w'.cell? ⟨gb4, i, none⟩ = some (.slice p4 (sortL xs).length c4))
              (first | exact hk2 | exact hk1 | exact hcq)
              (first
                | (go_at_call 21; refine HSO.out.mono ?_; rintro e w5 ⟨u, rfl, hou, hu5⟩; have hk1 := hu5.cell hcq (by simp); obtain ⟨bu, hiu, hub⟩ := hou.ints; have HI5 := Lib.hid (HI4.out.upd (((Upd.refl [] wq).drew).trans hu5) (Or.inr (by simp))))
                | (go_at_call 14; refine (sints _ _ b4 bu _ _ _ HI5.out hiu hsl).mono ?_; rintro e w6 ⟨rfl, hu6⟩; have hk2 := hu6.cell hk1 (by simp)))
            have HU6 := Lib.hid (HUU.out.trans ((((Upd.refl [] wq).drew).trans hu5).trans hu6))
            clear hk1 hk2 hou hiu hu5 hu6 HI5 hc4 hcq
            go_wp2_with fail
            go_roundw
            case rel => exact ⟨i + 1, by omega, by go_num, HU6.out⟩
            case measure => simp [intOf]; omega
      · obtain rfl : i = g.length := by omega
        go_wp2_with fail
        go_ret
        exact ⟨rfl, HU4.out.trans HU.out⟩

end Go.Proofs.YtagjchgpcekmnaaDoor
