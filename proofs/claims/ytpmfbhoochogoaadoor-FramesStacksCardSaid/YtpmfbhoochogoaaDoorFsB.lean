/- FramesStacks: the law. -/
import Derived.Test.YtpmfbhoochogoaaDoorFsA
import Derived.Test.YtpmfbhoochogoaaDoorFrame
/-! FramesStacks: the law. -/
namespace Go.Proofs.YtpmfbhoochogoaaDoor
open Go.RowKit

def rA (r : Bool) (xs : List Int) : List Slt := xs.map fun n => ⟨r, n⟩
theorem rA_len (r : Bool) (xs : List Int) : (rA r xs).length = xs.length := by simp [rA]
theorem rA_take (r : Bool) (xs : List Int) (i : Nat) (h : i < xs.length) : (rA r xs).take (i + 1) = (rA r xs).take i ++ [⟨r, xs.getD i 0⟩] := by
  unfold rA
  have hl : i < (xs.map fun n => (⟨r, n⟩ : Slt)).length := by simpa using h
  rw [List.take_succ_eq_append_getElem hl, List.getElem_map, List.getD_eq_getElem?_getD, List.getElem?_eq_getElem h]
  rfl
theorem rA_all (r : Bool) (xs : List Int) : (rA r xs).take xs.length = rA r xs := List.take_of_length_le (by rw [rA_len]; exact Nat.le_refl _)
theorem intsAt_cell {w : World} {a : Option Addr} {xs : List Int} (h : xs = [] ∨ ∃ b o, a = some ⟨b, o, none⟩ ∧ ∀ i, i < xs.length → w.cell? ⟨b, o + i, none⟩ = some (.int .i64 (xs.getD i 0))) {i : Nat} (hi : i < xs.length) : ∃ b o, a = some ⟨b, o, none⟩ ∧ w.cell? ⟨b, o + i, none⟩ = some (.int .i64 (xs.getD i 0)) := by
  rcases h with rfl | ⟨b, o, h1, h2⟩
  · simp at hi
  · exact ⟨b, o, h1, h2 i hi⟩

set_option maxRecDepth 100000 in
set_option maxHeartbeats 8000000 in
theorem stacksW_any (E : Nat → Addr) (va vb : Value) (xa xb : List Int) (w : World) (hS : SentP w E) (ha : IntsAt w va xa) (hb : IntsAt w vb xb) :
    Calls Tryd.prog 5 #[va, vb] w fun e w' => e = .returned (.bool true) ∧ Upd [] w w' := by
  obtain ⟨pa, ca, rfl, hal, ham, hab, hax⟩ := ha
  obtain ⟨pb, cb, rfl, hbl, hbm, hbb, hbx⟩ := hb
  have HAX := Lib.hid hax
  have HBX := Lib.hid hbx
  have HAB := Lib.hid hab
  have HBB := Lib.hid hbb
  have HF := Lib.hid (first13_any E w hS)
  have HS := Lib.hid hS
  unfold maxLen at ham hbm
  clear hax hbx hS hab hbb
  go_enter Tryd.func5, Tryd.ntmps5
  go_wp2_with fail
  refine HF.out.mono ?_
  rintro e w1 ⟨rfl, hu1⟩
  have HU1 := Lib.hid hu1
  clear hu1 HF
  by_cases hla : 12 < xa.length
  · have d0 : decide ((12 : Int) < (xa.length : Int)) = true := decide_eq_true (by omega)
    have d1 : decide (12 < xa.length) = true := decide_eq_true hla
    go_wp2_with fail
    go_ret
    exact ⟨rfl, HU1.out⟩
  have da0 : decide ((12 : Int) < (xa.length : Int)) = false := decide_eq_false (by omega)
  have da1 : decide (12 < xa.length) = false := decide_eq_false hla
  by_cases hlb : 12 < xb.length
  · have d0 : decide ((12 : Int) < (xb.length : Int)) = true := decide_eq_true (by omega)
    have d1 : decide (12 < xb.length) = true := decide_eq_true hlb
    go_wp2_with fail
    go_ret
    exact ⟨rfl, HU1.out⟩
  have db0 : decide ((12 : Int) < (xb.length : Int)) = false := decide_eq_false (by omega)
  have db1 : decide (12 < xb.length) = false := decide_eq_false hlb
  have hc2 := code_lit w1 [⟨33, 0, 0, 0⟩] (by decide) (fun i hi => by
    have : i = 0 := by simpa using hi
    subst this
    show Ins.bd ⟨33, 0, 0, 0⟩
    simp only [Ins.bd]
    omega)
  have hc2 : CodeAt (w1.alloc (.cells #[.int .i64 33, .int .i64 0, .int .i64 0, .int .i64 0] 27)) (.slice (some ⟨w1.heap.size, 0, none⟩) 1 1) [⟨33, 0, 0, 0⟩] := hc2
  have hM := meths_lit (w1.alloc (.cells #[.int .i64 33, .int .i64 0, .int .i64 0, .int .i64 0] 27)) [sm0] [.slice (some ⟨w1.heap.size, 0, none⟩) 1 1] rfl (show 1 ≤ 1000 by decide) (fun i hi => by
    obtain rfl : i = 0 := by simpa using hi
    exact ⟨Nat.zero_le _, Nat.zero_le _, Nat.zero_le _⟩) (fun i hi => by
    obtain rfl : i = 0 := by simpa using hi
    exact hc2)
  have hu3 := ((Upd.refl [] w1).alloc (.cells #[.int .i64 33, .int .i64 0, .int .i64 0, .int .i64 0] 27)).alloc (.cells #[.string ⟨#[]⟩, .string ⟨#[]⟩, .string ⟨#[]⟩, .slice (some ⟨w1.heap.size, 0, none⟩) 1 1] 39)
  rw [show (w1.alloc (.cells #[.int .i64 33, .int .i64 0, .int .i64 0, .int .i64 0] 27)).heap.size = w1.heap.size + 1 by simp] at hM
  have hM : MethsAt ((w1.alloc (.cells #[.int .i64 33, .int .i64 0, .int .i64 0, .int .i64 0] 27)).alloc (.cells #[.string ⟨#[]⟩, .string ⟨#[]⟩, .string ⟨#[]⟩, .slice (some ⟨w1.heap.size, 0, none⟩) 1 1] 39)) (.slice (some ⟨w1.heap.size + 1, 0, none⟩) 1 1) sP.ms := hM
  have HU3 := Lib.hid (HU1.out.trans hu3)
  have HOF := Lib.hid (ofV_any sP (.slice none 0 0) (.slice (some ⟨w1.heap.size + 1, 0, none⟩) 1 1) E _ (HS.out.upd HU3.out).some (class_nil _) hM)
  clear hM hc2 hu3 HU1
  go_wp2_with fail
  refine HOF.out.mono ?_
  rintro e w4 ⟨v4, rfl, hend⟩
  obtain ⟨ib, ss, hl, hlk, rfl, hinfo, hib, hu4⟩ := hend.good sP_ok (by
    intro j hj
    obtain rfl : j = 0 := by simpa using hj
    obtain ⟨s, hs, _⟩ := sP_look
    exact ⟨s, hs⟩)
  have HLK : Hid (lookM sP sm0 = .ok (ss.getD 0 default)) := hlk 0 (show 0 < 1 by decide)
  have HOK := Lib.hid (StkOk.new (limit := 100) sP_ok hl hlk (by omega))
  have HNW := Lib.hid (snew_any ib sP ss 0 100 w4 hinfo sP_ok (by omega) (by omega))
  have HIB0 : Hid (w.heap.size ≤ ib) := Nat.le_trans HU3.out.size hib
  have HU4 := Lib.hid (HU3.out.trans hu4)
  clear hend hl hlk hinfo hib hu4 HOF HU3
  go_wp2_with fail
  refine HNW.out.mono ?_
  rintro e w5 ⟨W0, cv, mv, rfl, hu40, hst, hu5⟩
  have HIB : Hid (w.heap.size ≤ ib ∧ w.heap.size ≤ W0.heap.size) := ⟨HIB0.out, (HU4.out.trans hu40).size⟩
  have HD5 : Hid (SkAt w W0 w5 ib ss cv mv [] 0) := ⟨⟨_, [], hst⟩, HOK.out, HU4.out.trans hu5⟩
  clear hu40 hst hu5 HNW HU4 HIB0 HOK
  go_wp2_with fail
  refine (kpush HD5.out (by simp) HS.out HLK.out HIB.out (by omega) (by omega)).mono ?_
  rintro e w6 ⟨rfl, hd6⟩
  have HD6 : Hid (SkAt w W0 w6 ib ss cv mv [sF []] 1) := hd6
  clear hd6 HD5
  go_wp2_with fail
  go_loopw [10] (fun iv wr => ∃ i : Nat, i ≤ xa.length ∧ iv = .int .i64 i ∧ Hid (SkAt w W0 wr ib ss cv mv [sF ((rA false xa).take i)] 1)) (fun iv _ => xa.length - (intOf iv).toNat)
  case atStart => exact ⟨0, by omega, rfl, HD6.out⟩
  case round =>
    clear HD6
    obtain ⟨i, hi, rfl, HD⟩ := hrel
    obtain ⟨wo, rfl⟩ : ∃ wo : World, wo = wr := ⟨_, rfl⟩
    by_cases hlt : i < xa.length
    · obtain ⟨b, o, rfl, hx⟩ := intsAt_cell HAX.out hlt
      have hx := HD.out.upd.cell hx (by simp)
      have HT := Lib.hid (rA_take false xa i hlt)
      generalize xa.getD i 0 = x at hx HT
      have hlen : ((rA false xa).take i).length < 12 := by rw [List.length_take, rA_len]; omega
      have HL := Lib.hid (klay (gs := []) (x := ⟨false, x⟩) HD.out hlen (fun h => by cases h) HIB.out.2)
      clear hlen
      go_wp2_with fail
      refine HL.out.mono ?_
      rintro e w7 ⟨rfl, hd⟩
      have HD7 : Hid (SkAt w W0 w7 ib ss cv mv [sF ((rA false xa).take (i + 1))] 1) := by rw [HT.out]; exact hd
      clear hd HL HD hx
      go_wp2_with fail
      go_roundw
      case rel => exact ⟨i + 1, by omega, by go_num, HD7.out⟩
      case measure => simp [intOf]; omega
    · have hia : i = xa.length := by omega
      subst hia
      have hD := HD.out
      rw [rA_all] at hD
      have HD0 : Hid (SkAt w W0 wo ib ss cv mv ([] ++ [sF (rA false xa)]) 1) := hD
      clear hD HD
      have hla2 : (rA false xa).length ≤ 12 := by rw [rA_len]; omega
      have HIF0 : Hid (xa.length < 12 → rA false xa ++ (if xa.length < 12 then [⟨false, 0⟩] else []) = rA false xa ++ [⟨false, 0⟩]) := fun h => by rw [if_pos h]
      have HIF1 : Hid (¬ xa.length < 12 → rA false xa ++ (if xa.length < 12 then [⟨false, 0⟩] else []) = rA false xa) := fun h => by rw [if_neg h, List.append_nil]
      generalize rA false xa ++ (if xa.length < 12 then [⟨false, 0⟩] else []) = LZ at HIF0 HIF1
      go_upto_region 15 with fail
      go_cut [91] (fun bv wx => bv = .bool false ∧ Hid (SkAt w W0 wx ib ss cv mv ([] ++ [sF LZ]) 1))
      case first =>
        by_cases h12 : xa.length < 12
        · have dl0 : decide ((xa.length : Int) < 12) = true := decide_eq_true (by omega)
          have dl1 : decide (xa.length < 12) = true := decide_eq_true h12
          have HL := Lib.hid (klay (x := ⟨false, 0⟩) HD0.out (by rw [rA_len]; exact h12) (fun h => by cases h) HIB.out.2)
          clear HD0
          go_wp2_with fail
          refine HL.out.mono ?_
          rintro e w7 ⟨rfl, hd⟩
          have HD8 : Hid (SkAt w W0 w7 ib ss cv mv ([] ++ [sF LZ]) 1) := by rw [HIF0.out h12]; exact hd
          clear hd HL
          go_wp2_with fail
          go_meet
          exact ⟨rfl, HD8.out⟩
        · have dl0 : decide ((xa.length : Int) < 12) = false := decide_eq_false (by omega)
          have dl1 : decide (xa.length < 12) = false := decide_eq_false h12
          have HL := Lib.hid (klayFull (x := ⟨false, 0⟩) HD0.out (by rw [rA_len]; omega))
          clear HD0
          go_wp2_with fail
          refine HL.out.mono ?_
          rintro e w7 ⟨rfl, hd⟩
          have HD8 : Hid (SkAt w W0 w7 ib ss cv mv ([] ++ [sF LZ]) 1) := by rw [HIF1.out h12]; exact hd
          clear hd HL
          go_wp2_with fail
          go_meet
          exact ⟨rfl, HD8.out⟩
      case rest =>
      obtain ⟨rfl, HDZ⟩ := hcut
      clear HD0
      go_upto_if 94 with fail
      go_cut [] (fun wx => Hid (SkAt w W0 wx ib ss cv mv ([] ++ [sF (rA false xa)]) 1))
      case first =>
        by_cases h12 : xa.length < 12
        · have dl0 : decide ((xa.length : Int) < 12) = true := decide_eq_true (by omega)
          have dl1 : decide (xa.length < 12) = true := decide_eq_true h12
          rw [HIF0.out h12] at HDZ
          have HT := Lib.hid (ktake HDZ.out (by omega) HIB.out.2)
          clear HDZ
          go_wp2_with fail
          refine HT.out.mono ?_
          rintro e w8 ⟨rfl, hd⟩
          have HD8 := Lib.hid hd
          clear hd HT
          go_wp2_with fail
          go_meet
          exact HD8.out
        · have dl0 : decide ((xa.length : Int) < 12) = false := decide_eq_false (by omega)
          have dl1 : decide (xa.length < 12) = false := decide_eq_false h12
          rw [HIF1.out h12] at HDZ
          go_wp2_with fail
          go_meet
          exact HDZ.out
      case rest =>
        have HD1 := hcut
        clear HDZ hcut HIF0 HIF1
        have HPU := Lib.hid (kpush HD1.out (by simp) HS.out HLK.out HIB.out (by omega) (by omega))
        clear HD1
        go_wp2_with fail
        refine HPU.out.mono ?_
        rintro e w10 ⟨rfl, hd⟩
        have HD2 : Hid (SkAt w W0 w10 ib ss cv mv ([sF (rA false xa)] ++ [sF []]) 2) := hd
        clear hd HPU
        go_wp2_with fail
        go_loopw [11] (fun iv wr => ∃ i : Nat, i ≤ xb.length ∧ iv = .int .i64 i ∧ Hid (SkAt w W0 wr ib ss cv mv ([sF (rA false xa)] ++ [sF ((rA true (xb.map (· % 65536))).take i)]) 2)) (fun iv _ => xb.length - (intOf iv).toNat)
        case atStart => exact ⟨0, by omega, rfl, HD2.out⟩
        case round =>
          clear HD2
          obtain ⟨i, hi, rfl, HD⟩ := hrel
          obtain ⟨wo, rfl⟩ : ∃ wo : World, wo = wr := ⟨_, rfl⟩
          have hbl2 : (xb.map (· % 65536)).length = xb.length := by simp
          by_cases hlt : i < xb.length
          · obtain ⟨b, o, rfl, hx⟩ := intsAt_cell HBX.out hlt
            have hx := HD.out.upd.cell hx (by simp)
            have HT := Lib.hid (rA_take true (xb.map (· % 65536)) i (by rw [hbl2]; exact hlt))
            have hgx : (xb.map (· % 65536)).getD i 0 = xb.getD i 0 % 65536 := by
              rw [List.getD_eq_getElem?_getD, List.getD_eq_getElem?_getD, List.getElem?_map, List.getElem?_eq_getElem hlt]
              rfl
            rw [hgx] at HT
            clear hgx
            generalize xb.getD i 0 = x at hx HT
            have hand : bits BinOp.and IntKind.i64 x 65535 = x % 65536 := by
              have := and_mask x 16 65535 (by omega) (by decide)
              exact this
            have hlen : ((rA true (xb.map (· % 65536))).take i).length < 12 := by rw [List.length_take, rA_len, hbl2]; omega
            have HL := Lib.hid (klay (x := ⟨true, x % 65536⟩) HD.out hlen (fun _ => by show 0 ≤ x % 65536; omega) HIB.out.2)
            clear hlen hbl2
            go_wp2_with fail
            refine HL.out.mono ?_
            rintro e w11 ⟨rfl, hd⟩
            have HD11 : Hid (SkAt w W0 w11 ib ss cv mv ([sF (rA false xa)] ++ [sF ((rA true (xb.map (· % 65536))).take (i + 1))]) 2) := by rw [HT.out]; exact hd
            clear hd HL HD hx
            go_wp2_with fail
            go_roundw
            case rel => exact ⟨i + 1, by omega, by go_num, HD11.out⟩
            case measure => simp [intOf]; omega
          · have hib : i = xb.length := by omega
            subst hib
            have hD := HD.out
            rw [← hbl2, rA_all] at hD
            have HD3 := Lib.hid hD
            have HAT := Lib.hid (kat (st := rA false xa) (g := sF (rA true (xb.map (· % 65536)))) hD (by omega))
            clear hD HD hbl2
            go_wp2_with fail
            refine HAT.out.mono ?_
            rintro e w12 ⟨p1, n1, c1, u2, rfl, hown, hu12⟩
            obtain ⟨up, uc, rfl⟩ := hown.shape
            have HU12 := Lib.hid hu12
            have HO12 := Lib.hid hown
            clear hown hu12 HAT
            generalize hLa : rA false xa = la at HD3 HO12 hla2 ⊢
            have HLA := Lib.hid hLa
            clear hLa
            obtain ⟨wb, hwb⟩ : ∃ wb : Nat, wo.heap.size = wb := ⟨_, rfl⟩
            have HWB := Lib.hid hwb
            rw [hwb] at HO12
            clear hwb
            go_wp2_with fail
            go_loopw [17] (fun iv wr => ∃ (i : Nat) (zs : List Slt), i ≤ la.length ∧ iv = .int .i64 i ∧ Hid (zs.length = la.length) ∧ Hid (OwnSl wr wb (.slice up la.length uc) zs) ∧ Hid (Upd [] wo wr)) (fun iv _ => la.length - (intOf iv).toNat)
            case atStart => exact ⟨0, la, by omega, rfl, rfl, HO12.out, HU12.out⟩
            case round =>
              clear HO12 HU12
              obtain ⟨i, zs, hi, rfl, HZL, HO, HU⟩ := hrel
              obtain ⟨wp, rfl⟩ : ∃ wp : World, wp = wr := ⟨_, rfl⟩
              by_cases hlt : i < la.length
              · obtain ⟨q, hread, hqb⟩ := HO.out.read
                have hzl : i < zs.length := by rw [HZL.out]; exact hlt
                have hup : up = some ⟨q, 0, none⟩ := by
                  rcases hread.1 with ⟨h1, h2⟩ | ⟨c9, h1⟩
                  · rw [h2] at hzl; simp at hzl
                  · injection h1
                subst hup
                obtain ⟨h1, h2⟩ := hread.2 i hzl
                obtain ⟨cur, hcur⟩ := HO.out.typed (b := q) rfl
                have fz := froz_of hcur (i * 2 + 1)
                have ho := HO.out
                rw [← HZL.out] at ho
                have ho2 := ho.setN i 99 hzl
                rw [HZL.out] at ho2
                have HO2 := Lib.hid ho2
                have hqge : wb ≤ q := by
                  rcases hqb with h | h
                  · rw [h] at hzl; simp at hzl
                  · exact h.1
                have HU2 : Hid (Upd [] wo (wp.setCell ⟨q, i * 2 + 1, none⟩ (.int .i64 99))) := HU.out.setCell (.inr (by rw [HWB.out]; exact hqge)) _
                have HZ2 : Hid ((zs.set i ⟨(zs.getD i default).ref, 99⟩).length = la.length) := by
                  show _ = _
                  rw [List.length_set]
                  exact HZL.out
                clear hread hqb h1 hcur ho ho2
                go_wp2_with fail
                go_roundw
                case rel => exact ⟨i + 1, _, by omega, by go_num, HZ2.out, HO2.out, HU2.out⟩
                case measure => simp [intOf]; omega
              · have HD4 := Lib.hid (HD3.out.same HU.out)
                have hwb1 : IntKind.i64.wrap ((xb.length : Int) - 1) = (xb.length : Int) - 1 := IntWalk.i64_in _ (by omega)
                have hbl3 : (xb.map (· % 65536)).length = xb.length := by simp
                have hal3 := rA_all true (xb.map (· % 65536))
                rw [hbl3] at hal3
                have HAL3 := Lib.hid hal3
                have HBL3 := Lib.hid hbl3
                clear HO HU hal3 hbl3 HD3
                go_wp2_with fail
                go_loopw [18] (fun iv wr => ∃ (j : Nat) (v : Int), j ≤ xb.length ∧ v + 1 = j ∧ iv = .int .i64 v ∧ Hid (SkAt w W0 wr ib ss cv mv ([sF la] ++ [sF ((rA true (xb.map (· % 65536))).take j)]) 2)) (fun iv _ => (intOf iv + 1).toNat)
                case atStart => exact ⟨xb.length, (xb.length : Int) - 1, by omega, by omega, rfl, by rw [HAL3.out]; exact HD4.out⟩
                case round =>
                  clear HD4
                  obtain ⟨j, v, hj, hv, rfl, HD⟩ := hrel
                  obtain ⟨wq, rfl⟩ : ∃ wq : World, wq = wr := ⟨_, rfl⟩
                  by_cases hj0 : j = 0
                  · subst hj0
                    obtain rfl : v = -1 := by omega
                    have hd0 : SkAt w W0 wq ib ss cv mv ([sF la] ++ [sF []]) 2 := HD.out
                    have HTE := Lib.hid (ktakeE hd0)
                    clear hd0 HD
                    go_wp2_with fail
                    refine HTE.out.mono ?_
                    rintro e w13 ⟨rfl, hd⟩
                    have hd14 := hd.same ((Upd.refl [] w13).alloc (.cells #[.bool false, .int .i64 0] 58))
                    have HPO := Lib.hid (kpop hd14 HLK.out HIB.out (by omega) (by omega))
                    clear hd hd14 HTE
                    go_wp2_with fail
                    refine HPO.out.mono ?_
                    rintro e w15 ⟨rfl, hd⟩
                    have HD15 : Hid (SkAt w W0 w15 ib ss cv mv ([] ++ [sF la]) 3) := hd
                    have hwa1 : IntKind.i64.wrap ((xa.length : Int) - 1) = (xa.length : Int) - 1 := IntWalk.i64_in _ (by omega)
                    have hal5 := rA_all false xa
                    rw [HLA.out] at hal5
                    have HAL5 := Lib.hid hal5
                    clear hd HPO hal5
                    go_wp2_with fail
                    go_loopw [23] (fun iv wr => ∃ (j : Nat) (v : Int), j ≤ xa.length ∧ v + 1 = j ∧ iv = .int .i64 v ∧ Hid (SkAt w W0 wr ib ss cv mv ([] ++ [sF (la.take j)]) 3)) (fun iv _ => (intOf iv + 1).toNat)
                    case atStart => exact ⟨xa.length, (xa.length : Int) - 1, by omega, by omega, rfl, by rw [HAL5.out]; exact HD15.out⟩
                    case round =>
                      clear HD15
                      obtain ⟨j, v, hj, hv, rfl, HD⟩ := hrel
                      obtain ⟨ws, rfl⟩ : ∃ ws : World, ws = wr := ⟨_, rfl⟩
                      by_cases hj0 : j = 0
                      · subst hj0
                        obtain rfl : v = -1 := by omega
                        go_wp2_with fail
                        go_ret
                        exact ⟨rfl, HD.out.upd⟩
                      · obtain ⟨k, rfl⟩ : ∃ k, j = k + 1 := ⟨j - 1, by omega⟩
                        obtain rfl : v = (k : Int) := by omega
                        have hkl : k < xa.length := by omega
                        obtain ⟨b, o, rfl, hx⟩ := intsAt_cell HAX.out hkl
                        have htk := rA_take false xa k hkl
                        rw [HLA.out] at htk
                        rw [htk] at HD
                        have hl100 : (la.take k).length ≤ 100 := by rw [List.length_take]; omega
                        have HTK := Lib.hid (ktake HD.out hl100 HIB.out.2)
                        clear htk HD hl100
                        generalize xa.getD k 0 = x at hx HTK
                        have hge0 : (0 : Int) ≤ (k : Int) := by omega
                        have hgd : decide ((0 : Int) ≤ (k : Int)) = true := decide_eq_true hge0
                        have hkb : (k : Int) < (xa.length : Int) := by omega
                        have hwk : IntKind.i64.wrap ((k : Int) - 1) = (k : Int) - 1 := IntWalk.i64_in _ (by omega)
                        go_wp2_with fail
                        refine HTK.out.mono ?_
                        rintro e w16 ⟨rfl, hd⟩
                        have hx16 := hd.upd.cell hx (by simp)
                        have hu17 := (Upd.refl [] w16).alloc (.cells #[.bool false, .int .i64 x] 58)
                        have hb17 := heap_alloc_new w16 (.cells #[.bool false, .int .i64 x] 58)
                        have HD17 := Lib.hid (hd.same hu17)
                        have hx17 := hu17.cell hx16 (by simp)
                        clear hd hx hx16 hu17 HTK
                        go_upto_region 43 with fail
                        generalize w16.alloc (.cells #[.bool false, .int .i64 x] 58) = w17 at hb17 HD17 hx17 ⊢
                        generalize w16.heap.size = xbk at hb17 ⊢
                        have y0 : w17.cell? ⟨xbk, 0, none⟩ = some (.bool false) := by rw [cell_of hb17]; rfl
                        have y1 : w17.cell? ⟨xbk, 1, none⟩ = some (.int .i64 x) := by rw [cell_of hb17]; rfl
                        clear hb17
                        go_quiet (fail)
                        have HD18 := Lib.hid (HD17.out.same ((Upd.refl [] w17).drewN nq))
                        clear HD17 y0 y1 hx17
                        go_wp2_with fail
                        go_roundw
                        case rel => exact ⟨k, (k : Int) - 1, by omega, by omega, rfl, HD18.out⟩
                        case measure => simp [intOf]
                  · obtain ⟨k, rfl⟩ : ∃ k, j = k + 1 := ⟨j - 1, by omega⟩
                    obtain rfl : v = (k : Int) := by omega
                    have hkl : k < xb.length := by omega
                    obtain ⟨b, o, rfl, hx⟩ := intsAt_cell HBX.out hkl
                    have htk := rA_take true (xb.map (· % 65536)) k (by rw [HBL3.out]; exact hkl)
                    have hgx : (xb.map (· % 65536)).getD k 0 = xb.getD k 0 % 65536 := by
                      rw [List.getD_eq_getElem?_getD, List.getD_eq_getElem?_getD, List.getElem?_map, List.getElem?_eq_getElem hkl]
                      rfl
                    rw [hgx] at htk
                    rw [htk] at HD
                    have HTK := Lib.hid (ktake HD.out (by rw [List.length_take, rA_len, HBL3.out]; omega) HIB.out.2)
                    clear htk hgx HD
                    generalize xb.getD k 0 = x at hx HTK
                    have hand : bits BinOp.and IntKind.i64 x 65535 = x % 65536 := and_mask x 16 65535 (by omega) (by decide)
                    generalize x % 65536 = y at hand HTK
                    have hge0 : (0 : Int) ≤ (k : Int) := by omega
                    have hgd : decide ((0 : Int) ≤ (k : Int)) = true := decide_eq_true hge0
                    have hkb : (k : Int) < (xb.length : Int) := by omega
                    have hwk : IntKind.i64.wrap ((k : Int) - 1) = (k : Int) - 1 := IntWalk.i64_in _ (by omega)
                    go_wp2_with fail
                    refine HTK.out.mono ?_
                    rintro e w13 ⟨rfl, hd⟩
                    have hx13 := hd.upd.cell hx (by simp)
                    have hu14 := (Upd.refl [] w13).alloc (.cells #[.bool true, .int .i64 y] 58)
                    have hb14 := heap_alloc_new w13 (.cells #[.bool true, .int .i64 y] 58)
                    have HD14 := Lib.hid (hd.same hu14)
                    have hx14 := hu14.cell hx13 (by simp)
                    clear hd hx hx13 hu14 HTK
                    go_upto_region 34 with fail
                    generalize w13.alloc (.cells #[.bool true, .int .i64 y] 58) = w14 at hb14 HD14 hx14 ⊢
                    generalize w13.heap.size = xbk at hb14 ⊢
                    have y0 : w14.cell? ⟨xbk, 0, none⟩ = some (.bool true) := by rw [cell_of hb14]; rfl
                    have y1 : w14.cell? ⟨xbk, 1, none⟩ = some (.int .i64 y) := by rw [cell_of hb14]; rfl
                    clear hb14
                    go_quiet (fail)
                    have HD15 := Lib.hid (HD14.out.same ((Upd.refl [] w14).drewN nq))
                    clear HD14 y0 y1 hx14
                    go_wp2_with fail
                    go_roundw
                    case rel => exact ⟨k, (k : Int) - 1, by omega, by omega, rfl, HD15.out⟩
                    case measure => simp [intOf]
end Go.Proofs.YtpmfbhoochogoaaDoor
