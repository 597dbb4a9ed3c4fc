/- overdriveref5.Clean: the document's. -/
import Derived.Test.YtjjkliifpdcliaaDoorOwnR
import Derived.Test.YtjjkliifpdcliaaDoorAmong
import Derived.Test.YtjjkliifpdcliaaDoorCleanW
namespace Go.Proofs.YtjjkliifpdcliaaDoor
open Go.RowKit

theorem ints_mem (acc : List Nat) (x : Nat) : ((x : Int) ∈ ints acc) ↔ x ∈ acc := by
  unfold ints
  rw [List.mem_map]
  constructor
  · rintro ⟨y, hy, e⟩
    have : y = x := by omega
    exact this ▸ hy
  · exact fun h => ⟨x, h, rfl⟩

set_option maxRecDepth 100000 in
set_option maxHeartbeats 4000000 in
theorem rclean_any (v : Value) (g : List (List Int)) (w : World) (h : RowsAt w v g) (hn : g.length ≤ 100000) (hr : ∀ l ∈ g, l.length ≤ 100000) :
    Calls Tryd.prog 32 #[v] w fun e w' => ∃ ov vs, e = .returned ov ∧ OwnR w' w.heap.size ov vs (intsL (cleanG g)) ∧ Upd [] w w' := by
  obtain ⟨i0, hi, hz0, hz1, hz2⟩ := info_parts Tryd.infoInt
  have HI := Lib.hid hi
  have HZ0 := Lib.hid hz0
  have HZ1 := Lib.hid hz1
  have HZ2 := Lib.hid hz2
  clear hi hz0 hz1 hz2
  obtain ⟨i1, hi, hz0, hz1, hz2⟩ := info_parts Tryd.infoRow
  have JI := Lib.hid hi
  have JZ0 := Lib.hid hz0
  have JZ1 := Lib.hid hz1
  have JZ2 := Lib.hid hz2
  clear hi hz0 hz1 hz2
  obtain ⟨a, cap, rfl, hl, hrow⟩ := h
  have HROW := Lib.hid hrow
  have HR := Lib.hid hr
  have HLEN : Hid ((intsL (cleanG g)).length = g.length) := by show _ = _; rw [intsL_len, cleanG_len]
  clear hrow hr hl
  go_enter Tryd.func32, Tryd.ntmps32
  go_wp2_with fail
  go_loopw [3, 4] (fun ov iv wr => ∃ (i : Nat) (vs : List Value), i ≤ g.length ∧ iv = .int .i64 i ∧ Hid (OwnR wr w.heap.size ov vs ((intsL (cleanG g)).take i)) ∧ Hid (Upd [] w wr)) (fun _ iv _ => g.length - (intOf iv).toNat)
  case atStart => exact ⟨0, [], by omega, rfl, by rw [List.take_zero]; exact OwnR.nil _ _, Upd.refl _ _⟩
  case round =>
    obtain ⟨i, vs, hi, rfl, HO, HU⟩ := hrel
    obtain ⟨wo, rfl⟩ : ∃ wo : World, wo = wr := ⟨_, rfl⟩
    by_cases hlt : i < g.length
    · obtain ⟨b, o, rv, rfl, hcell, a2, cap2, rfl, hl2, hx⟩ := HROW.out i hlt
      have hcell := HU.out.cell hcell (by simp)
      have HX := Lib.hid hx
      have hrl : (g.getD i []).length ≤ 100000 := HR.out _ (by
        rw [List.getD_eq_getElem?_getD, List.getElem?_eq_getElem hlt]
        exact List.getElem_mem hlt)
      have HTK : Hid ((intsL (cleanG g)).take (i + 1) = (intsL (cleanG g)).take i ++ [ints (crow g.length (g.getD i []))]) := by
        show _ = _
        have h1 : i < (intsL (cleanG g)).length := by rw [HLEN.out]; exact hlt
        rw [List.take_succ_eq_append_getElem h1]
        have h2 := intsL_get (cleanG g) i
        rw [cleanG_get g i hlt, List.getD_eq_getElem?_getD, List.getElem?_eq_getElem h1] at h2
        simp only [Option.getD_some] at h2
        rw [h2]
      have HCT := Lib.hid (fun k hk => crow_take g.length (g.getD i []) k hk)
      have HCL := Lib.hid (fun k => crow_len g.length ((g.getD i []).take k))
      obtain ⟨op, oc, rfl, hom⟩ := HO.out.form
      unfold maxLen at hom
      have HTL : Hid (((intsL (cleanG g)).take i).length = i) := by show _ = _; rw [List.length_take, HLEN.out]; omega
      rw [HTL.out] at HO hom ⊢
      generalize hcc : (intsL (cleanG g)).take i = cc at HO HTK HTL
      have HCC := Lib.hid hcc
      clear hx hcc
      generalize g.getD i [] = row at hcell HX hrl HTK HCT HCL hl2
      have HCE := Lib.hid hcell
      clear hcell
      have hcell := HCE.out
      go_wp2_with fail
      go_loopw [5, 6] (fun lv kv wr => ∃ k : Nat, k ≤ row.length ∧ kv = .int .i64 k ∧ Hid (OwnI wr wo.heap.size 3 lv (ints (crow g.length (row.take k)))) ∧ Hid (Upd [] wo wr)) (fun _ kv _ => row.length - (intOf kv).toNat)
      case atStart => exact ⟨0, by omega, rfl, OwnI.nil _ _ _, Upd.refl _ _⟩
      case round =>
        clear hcell
        obtain ⟨k, hk, rfl, HL, HV⟩ := hrel
        obtain ⟨wq, rfl⟩ : ∃ wq : World, wq = wr := ⟨_, rfl⟩
        have hcell := HV.out.cell HCE.out (by simp)
        have hWq := HV.out.size
        by_cases hkl : k < row.length
        · obtain ⟨b2, o2, rfl, hbd, hy0⟩ := HX.out k hkl
          have hy := HV.out.cell (HU.out.cell hy0 (by simp)) (by simp)
          have HST := Lib.hid (HCT.out k hkl)
          have hcl := (HCL.out k).1
          obtain ⟨lp, lc, hlv⟩ := HL.out.shape
          subst hlv
          obtain ⟨lb, hli, _⟩ := HL.out.ints
          have HLI := Lib.hid hli
          clear hy0 hli
          generalize row.getD k 0 = x at hy HST hbd
          generalize crow g.length (row.take k) = acc at HL HLI HST hcl ⊢
          unfold cstep at HST
          by_cases hx0 : 0 ≤ x
          · have d0 : decide (0 ≤ x) = true := decide_eq_true hx0
            have d0' : decide (x ≥ 0) = true := decide_eq_true hx0
            by_cases hxn : x < (g.length : Int)
            · have d1 : decide (x < (g.length : Int)) = true := decide_eq_true hxn
              obtain ⟨xn, rfl⟩ := Int.eq_ofNat_of_zero_le hx0
              have hal : (ints acc).length ≤ 1000000 := by rw [ints_len]; omega
              have HAM := Lib.hid (among_any _ lb (ints acc) (xn : Int) wq HLI.out hal)
              go_wp2_with fail
              refine HAM.out.mono ?_
              rintro e w' ⟨rfl, rfl⟩
              by_cases hm : xn ∈ acc
              · rw [decide_eq_true ((ints_mem acc xn).2 hm)]
                have HS2 := HST.out
                rw [if_neg (fun h => h.2.2 (by rw [Int.toNat_natCast]; exact hm))] at HS2
                have HS2 := Lib.hid HS2
                clear hm HST HAM
                go_wp2_with fail
                go_roundw
                case rel => exact ⟨k + 1, by omega, by go_num, by rw [HS2.out]; exact HL, HV⟩
                case measure => simp [intOf]; omega
              · rw [decide_eq_false (fun h => hm ((ints_mem acc xn).1 h))]
                have HS2 := HST.out
                rw [if_pos ⟨hx0, hxn, by rw [Int.toNat_natCast]; exact hm⟩, Int.toNat_natCast] at HS2
                have HS2 := Lib.hid HS2
                have HSN := Lib.hid (ints_snoc acc xn)
                clear hm HST HAM
                go_wp2_with (at_builtin; refine stop_here ?_)
                refine Hid.mk ?_
                have hcn := cell_of (heap_alloc_new wq (.cells #[.int .i64 (xn : Int)] 3))
                refine (wpList_append_own_at _ rfl _ _ 27 rfl wo.heap.size 3 i0 (.int .i64 0) 1 8 Tryd.underlying27 HI.out HZ0.out HZ1.out HZ2.out rfl (by decide) _ _ _ rfl (HL.out.alloc (.cells #[.int .i64 (xn : Int)] 3)) ⟨wq.heap.size, 0, none⟩ 1 1 [.int .i64 (xn : Int)] rfl rfl ?c1 ?c2 ?c3 ?c4 ?c5 ?c6)
                case c1 =>
                  intro jj uu hjj
                  rw [Addr.add_lit, Nat.zero_add, hcn]
                  simpa using hjj
                case c2 => simp [Value.oneCell']
                case c3 => unfold maxLen; omega
                case c4 => omega
                case c5 => simp; omega
                case c6 =>
                  intro v' w6 hown hgr _ hat
                  have hU6 := (HV.out.alloc (.cells #[.int .i64 (xn : Int)] 3)).grown hgr (fun q hq => .inr (HL.out.lt q hq).1)
                  have hO6 := OwnI.snoc hown
                  obtain ⟨g', cap', rfl⟩ := ownsRow_succ hown
                  rw [← HSN.out, ← HS2.out] at hO6
                  have HO6 := Lib.hid hO6
                  have HU6 := Lib.hid hU6
                  clear hown hgr hat hU6 hO6 hcn hcell hy
                  go_wp2_with fail
                  go_roundw
                  case rel => exact ⟨k + 1, by omega, by go_num, HO6, HU6⟩
                  case measure => simp [intOf]; omega
            · have d1 : decide (x < (g.length : Int)) = false := decide_eq_false hxn
              have HS2 := HST.out
              rw [if_neg (fun h => hxn h.2.1)] at HS2
              have HS2 := Lib.hid HS2
              clear HST
              go_wp2_with fail
              go_roundw
              case rel => exact ⟨k + 1, by omega, by go_num, by rw [HS2.out]; exact HL, HV⟩
              case measure => simp [intOf]; omega
          · have d0 : decide (0 ≤ x) = false := decide_eq_false hx0
            have d0' : decide (x ≥ 0) = false := decide_eq_false hx0
            have HS2 := HST.out
            rw [if_neg (fun h => hx0 h.1)] at HS2
            have HS2 := Lib.hid HS2
            clear HST
            go_wp2_with fail
            go_roundw
            case rel => exact ⟨k + 1, by omega, by go_num, by rw [HS2.out]; exact HL, HV⟩
            case measure => simp [intOf]; omega
        · obtain rfl : k = row.length := by omega
          rw [List.take_length] at HL
          have HOq := Lib.hid (HO.out.upd HV.out (by simp) (by simp))
          have hvl : vs.length = i := by have := HO.out.len; rw [HTL.out] at this; exact this
          have HVL := Lib.hid hvl
          have hrw := HOq.out.row
          rw [hvl] at hrw
          have HRW := Lib.hid hrw
          have HLB := Lib.hid (row_base HL.out HU.out.size)
          obtain ⟨lp, lc, rfl⟩ := HL.out.shape
          clear hvl hrw
          go_wp2_with (at_builtin; refine stop_here ?_)
          refine Hid.mk ?_
          have hcn := cell_of (heap_alloc_new wq (.cells #[.slice lp (ints (crow g.length row)).length lc] 27))
          refine (wpList_append_own_at _ rfl _ _ 22 rfl w.heap.size 27 i1 (.slice none 0 0) 1 24 Tryd.underlying22 JI.out JZ0.out JZ1.out JZ2.out rfl (by decide) _ _ _ rfl (HRW.out.alloc (.cells #[.slice lp (ints (crow g.length row)).length lc] 27)) ⟨wq.heap.size, 0, none⟩ 1 1 [.slice lp (ints (crow g.length row)).length lc] rfl rfl ?c1 ?c2 ?c3 ?c4 ?c5 ?c6)
          case c1 =>
            intro jj uu hjj
            rw [Addr.add_lit, Nat.zero_add, hcn]
            simpa using hjj
          case c2 => simp [Value.oneCell']
          case c3 => unfold maxLen; omega
          case c4 => omega
          case c5 => have := HU.out.size; simp; omega
          case c6 =>
            intro v' w6 hown hgr _ hat
            have hU6 := ((HU.out.trans HV.out).alloc (.cells #[.slice lp (ints (crow g.length row)).length lc] 27)).grown hgr (fun q hq => .inr (HOq.out.row.lt q hq).1)
            have hO6 := HOq.out.snoc HLB.out (by rw [HVL.out]; exact hown) hgr
            rw [← HTK.out] at hO6
            have HO6 := Lib.hid hO6
            have HU6 := Lib.hid hU6
            clear hown hgr hat hU6 hO6 hcn hcell
            go_wp2_with fail
            go_roundw
            case rel => exact ⟨i + 1, _, by omega, by go_num, HO6, HU6⟩
            case measure => simp [intOf]; omega
    · obtain rfl : i = g.length := by omega
      have hO := HO.out
      rw [List.take_of_length_le (by rw [HLEN.out]; exact Nat.le_refl _)] at hO
      have HO2 := Lib.hid hO
      clear hO HO
      go_wp2_with fail
      go_ret
      exact ⟨_, vs, rfl, HO2.out, HU.out⟩

end Go.Proofs.YtjjkliifpdcliaaDoor
