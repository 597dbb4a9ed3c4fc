/- DomJoins: the law's walk. -/
import Derived.Test.YtjjkliifpdcliaaDoorDomQR
import Derived.Test.YtjjkliifpdcliaaDoorFirst6
import Derived.Test.YtjjkliifpdcliaaDoorLight6
import Derived.Test.YtjjkliifpdcliaaDoorOpenC
import Derived.Test.YtjjkliifpdcliaaDoorAmong
namespace Go.Proofs.YtjjkliifpdcliaaDoor
open Go.RowKit

set_option maxHeartbeats 400000 in
theorem among_in (v : Value) (xs : List Int) (x : Int) (w : World) (h : RowIn w v xs) (hn : xs.length ≤ 1000000) :
    Calls Tryd.prog 14 #[v, .int .i64 x] w fun e w' => e = .returned (.bool (decide (x ∈ xs))) ∧ w = w' := by
  obtain ⟨p, c, rfl, _, hx⟩ := h
  have HXX := Lib.hid hx
  clear hx
  go_enter Tryd.func14, Tryd.ntmps14
  go_wp2_with fail
  go_loopw [5] (fun i wr => ∃ k : Nat, k ≤ xs.length ∧ i = .int .i64 k ∧ w = wr ∧ Hid (∀ j, j < k → xs.getD j 0 ≠ x)) (fun i _ => xs.length - (intOf i).toNat)
  case atStart => exact ⟨0, by omega, rfl, rfl, (fun j hj => by omega : ∀ j, j < 0 → _)⟩
  case round =>
    obtain ⟨k, hk, rfl, rfl, HK⟩ := hrel
    by_cases hlt : k < xs.length
    · obtain ⟨b, o, rfl, _, h2⟩ := HXX.out k hlt
      have HX := Lib.hid (rfl : xs.getD k 0 = xs.getD k 0)
      generalize hy : xs.getD k 0 = y at h2 HX
      have HY := Lib.hid hy
      clear hy
      by_cases hyx : y = x
      · have e1 : (y == x) = true := by rw [beq_iff_eq]; exact hyx
        have HE := Lib.hid hyx
        clear hyx
        go_wp2_with fail
        go_ret
        have : x ∈ xs := by
          rw [List.getD_eq_getElem?_getD, List.getElem?_eq_getElem hlt] at HY
          have h3 := HY.out
          rw [HE.out] at h3
          simp only [Option.getD_some] at h3
          rw [← h3]; exact List.getElem_mem hlt
        exact ⟨by rw [decide_eq_true this]; rfl, rfl⟩
      · have e1 : (y == x) = false := by rw [beq_eq_false_iff_ne]; exact hyx
        have HE := Lib.hid hyx
        clear hyx
        go_wp2_with fail
        go_roundw
        case rel =>
          refine ⟨k + 1, by omega, by go_num, trivial, (fun j hj => ?_ : ∀ j, j < k + 1 → _)⟩
          by_cases e : j = k
          · subst e; rw [HY.out]; exact HE.out
          · exact HK.out j (by omega)
        case measure => simp [intOf]; omega
    · obtain rfl : k = xs.length := by omega
      go_wp2_with fail
      go_ret
      have : x ∉ xs := by
        intro hm
        obtain ⟨j, hj, rfl⟩ := List.getElem_of_mem hm
        have := HK.out j hj
        rw [List.getD_eq_getElem?_getD, List.getElem?_eq_getElem hj] at this
        exact this rfl
      exact ⟨by rw [decide_eq_false this]; rfl, rfl⟩


open Classical in
/-- Two ways meet at y, one of them from a place z below x. -/
noncomputable def joinB (g : List (List Int)) (f : Nat → Nat) (x y z : Nat) : Bool := decide (aboveP (cleanG g) f (x : Int) (z : Int)) && decide ((y : Int) ∈ g.getD z []) && (!decide (aboveP (cleanG g) f (x : Int) (y : Int)) || decide (x = y))
/-- .. for one of the first m. -/
noncomputable def joinM (g : List (List Int)) (f : Nat → Nat) (x y : Nat) : Nat → Bool
  | 0 => false
  | m + 1 => joinM g f x y m || joinB g f x y m
theorem joinM_iff (g : List (List Int)) (f : Nat → Nat) (x y m : Nat) : joinM g f x y m = true ↔ ∃ z, z < m ∧ joinB g f x y z = true := by
  induction m with
  | zero => simp [joinM]
  | succ m ih =>
    show (joinM g f x y m || joinB g f x y m) = true ↔ _
    rw [Bool.or_eq_true, ih]
    constructor
    · rintro (⟨z, h1, h2⟩ | h)
      · exact ⟨z, by omega, h2⟩
      · exact ⟨m, by omega, h⟩
    · rintro ⟨z, h1, h2⟩
      by_cases e : z = m
      · subst e; exact .inr h2
      · exact .inl ⟨z, by omega, h2⟩

theorem aboveP_nat (c : List (List Nat)) (f : Nat → Nat) (a b : Nat) : aboveP c f (a : Int) (b : Int) ↔ Rd c a ∧ Rd c b ∧ Anc f a b := by
  unfold aboveP thereP
  simp only [Int.toNat_natCast]
  exact ⟨fun h => ⟨h.1.2, h.2.1.2, h.2.2⟩, fun h => ⟨⟨by omega, h.1⟩, ⟨by omega, h.2.1⟩, h.2.2⟩⟩

open Classical in
theorem join_eq {g : List (List Int)} {f : Nat → Nat} (h : 0 < g.length) (ex : Exact (Rd (cleanG g)) (Ed (cleanG g)) (posn (cleanG g)) f) (x y : Nat) (hx : x < g.length) (hy : y < g.length) :
    decide ((y : Int) ∈ fronV (cleanG g) f (x : Int)) = joinM g f x y g.length := by
  obtain ⟨par, hg⟩ := dfs_dg (cleanG_clean g) (cleanG_ne h)
  have key : (y : Int) ∈ fronV (cleanG g) f (x : Int) ↔ joinM g f x y g.length = true := by
    unfold fronV
    rw [if_pos ⟨by omega, by rw [cleanG_len]; omega⟩, Int.toNat_natCast, ints_mem, mem_fronL, cleanG_len, joinM_iff]
    constructor
    · rintro ⟨_, hyr, q, hqr, hqy, hxq, hcond⟩
      obtain ⟨hqn, _⟩ := ed_lt hqy
      have hmem : (y : Int) ∈ g.getD q [] := by
        unfold Ed at hqy
        rw [cleanG_get g q hqn] at hqy
        exact ((crow_spec _ _).2 y).1 hqy |>.2
      refine ⟨q, hqn, ?_⟩
      unfold joinB
      rw [Bool.and_eq_true, Bool.and_eq_true, decide_eq_true_eq, decide_eq_true_eq, Bool.or_eq_true, Bool.not_eq_true', decide_eq_false_iff_not, decide_eq_true_eq, aboveP_nat, aboveP_nat]
      refine ⟨⟨⟨(hxq.pl ex.tr hqr).1, hqr, hxq⟩, hmem⟩, ?_⟩
      by_cases e : x = y
      · exact .inr e
      · exact .inl fun hh => hcond (hh.2.2.of_ne e)
    · rintro ⟨q, hqn, hj⟩
      unfold joinB at hj
      rw [Bool.and_eq_true, Bool.and_eq_true, decide_eq_true_eq, decide_eq_true_eq, Bool.or_eq_true, Bool.not_eq_true', decide_eq_false_iff_not, decide_eq_true_eq, aboveP_nat, aboveP_nat] at hj
      obtain ⟨⟨⟨hxr, hqr, hxq⟩, hmem⟩, hc⟩ := hj
      have hqy : Ed (cleanG g) q y := by
        unfold Ed
        rw [cleanG_get g q hqn]
        exact ((crow_spec _ _).2 y).2 ⟨hy, hmem⟩
      have hyr : Rd (cleanG g) y := hg.step q y hqr hqy
      refine ⟨hy, hyr, q, hqr, hqy, hxq, fun ⟨h1, h2⟩ => ?_⟩
      rcases hc with hc | hc
      · exact hc ⟨hxr, hyr, .up y h1 h2⟩
      · subst hc
        have h3 := h2.le ex.tr (ex.tr.up x hyr h1)
        have h4 := ex.tr.lt x hyr h1
        omega
  by_cases hh : (y : Int) ∈ fronV (cleanG g) f (x : Int)
  · rw [decide_eq_true hh, key.1 hh]
  · rw [decide_eq_false hh]
    cases e : joinM g f x y g.length with
    | false => rfl
    | true => exact absurd (key.2 e) hh

open Classical in
set_option maxRecDepth 100000 in
set_option maxHeartbeats 4000000 in
theorem joinW_any (v : Value) (g : List (List Int)) (w : World) (h : RowsAt w v g) (hcap : CapOk v) (hT : TzAt w) :
    Calls Tryd.prog 4 #[v] w fun e w' => e = .returned (.bool true) ∧ Upd [] w w' := by
  have HH := Lib.hid h
  have HF := Lib.hid (first6_any w hT)
  have HTZ := Lib.hid hT
  obtain ⟨a, cap, rfl, _, hrows⟩ := id h
  have HROWS := Lib.hid hrows
  have hcp := hcap a g.length cap rfl
  have HCAP := Lib.hid hcp
  clear h hcap hT hcp hrows
  go_enter Tryd.func4, Tryd.ntmps4
  go_wp2_with fail
  refine HF.out.mono ?_
  rintro e w1 ⟨rfl, hu1⟩
  have HU1 := Lib.hid hu1
  have HLI := Lib.hid (light6_any _ g w1 (HH.out.upd hu1))
  clear hu1 HF
  go_wp2_with fail
  refine HLI.out.mono ?_
  rintro e w2 ⟨b, rfl, hb, hu2⟩
  have HU2 := Lib.hid (HU1.out.trans hu2)
  clear hu2 HLI HU1
  cases b with
  | false =>
    go_wp2_with fail
    go_ret
    exact ⟨rfl, HU2.out⟩
  | true =>
    obtain ⟨hn, hrb⟩ := hb rfl
    have HRB := Lib.hid hrb
    clear hb hrb
    have HOF := Lib.hid (domOf_any a cap g w2 (HH.out.upd HU2.out) HCAP.out (by omega) (fun l hl => by have := HRB.out l hl; omega))
    go_wp2_with fail
    refine HOF.out.mono ?_
    rintro e w3 ⟨tb, f, rfl, hA, hu3⟩
    have HU3 := Lib.hid (HU2.out.trans hu3)
    have HA := Lib.hid hA
    have HWO := Lib.hid (without_any _ g w3 (HH.out.upd HU3.out) (by omega) (fun l hl => by have := HRB.out l hl; omega) (-1) g.length (by omega) (fun x hx => by omega))
    clear hA hu3 HOF
    go_wp2_with fail
    refine HWO.out.mono ?_
    rintro e w4 ⟨rb, rfl, hrb, hrge, hu4⟩
    have HU4 := Lib.hid (HU3.out.trans hu4)
    have HA4 := Lib.hid (HA.out.low (S := []) hu4 (by simp))
    obtain ⟨_, _, _, _, htb1, htb2⟩ := TreeG.blk HA.out.g
    have htl := lt_of_heap htb1
    have hrl := lt_of_heap hrb
    have HEX : Hid (0 < g.length → Exact (Rd (cleanG g)) (Ed (cleanG g)) (posn (cleanG g)) f) := fun hg1 => by
      obtain ⟨_, _, _, _, _, _, _, _, _, _, _, _, h2, _⟩ := HA.out
      exact h2 (cleanG_ne hg1)
    have HRB4 := Lib.hid hrb
    have hs2 := HU2.out.size
    clear hrb hu4 HWO HA htb1
    go_wp2_with fail
    go_loopw [6] (fun iv wr => ∃ (x : Nat) (d : Int) (fr : Value), x ≤ g.length ∧ iv = .int .i64 (x : Int) ∧ Hid (TreeAt wr w2.heap.size tb (cleanG g) f d fr) ∧ Hid (d = 0 ∨ d = 1 ∧ FrOk wr w2.heap.size (cleanG g) f fr) ∧ Hid (Upd [tb] w4 wr)) (fun iv _ => g.length - (intOf iv).toNat)
    case atStart => exact ⟨0, 0, _, by omega, rfl, HA4.out, .inl rfl, Upd.refl _ _⟩
    case round =>
      clear HA4
      obtain ⟨x, d, fr, hx, rfl, HA, HFR, HU⟩ := hrel
      obtain ⟨wo, rfl⟩ : ∃ wo : World, wo = wr := ⟨_, rfl⟩
      by_cases hlt : x < g.length
      · have hg1 : 0 < g.length := by omega
        have hU0 : Upd [] w wo := HU4.out.trans' HU.out (fun q hq hl => by simp at hq; omega)
        have HFN := Lib.hid (frontier_any (cleanG g) (cleanG_clean g) (by rw [cleanG_len]; omega) _ tb f d fr (x : Int) (by omega) wo HA.out (HTZ.out.upd hU0 (by simp)) HFR.out)
        have HEX1 := Lib.hid (HEX.out hg1)
        have HJE := Lib.hid (fun y hy => join_eq hg1 HEX1.out x y hlt hy)
        clear hU0
        go_wp2_with fail
        refine HFN.out.mono ?_
        rintro e w5 ⟨u, fr2, rfl, hO, hA5, hF5, hu5⟩
        have HO := Lib.hid hO
        have HA5 := Lib.hid hA5
        have HF5 := Lib.hid hF5
        have HU5 := Lib.hid (HU.out.trans hu5)
        obtain ⟨bo, hib, _⟩ := hO.ints
        have HIB := Lib.hid hib
        have hfl : (fronV (cleanG g) f (x : Int)).length ≤ 1000000 := by
          unfold fronV
          split
          · rw [ints_len]
            have h1 : (fronL (cleanG g) f (x : Int).toNat).length ≤ (cleanG g).length := by
              unfold fronL
              have := List.length_filter_le (fun p => (Classical.propDecidable (DFp (cleanG g) f (x : Int).toNat p)).decide) (List.range (cleanG g).length)
              simpa using this
            rw [cleanG_len] at h1
            omega
          · simp
        have HFL := Lib.hid hfl
        obtain ⟨p5, c5, rfl⟩ := hO.shape
        clear hO hA5 hF5 hu5 hib HFN hfl
        go_wp2_with fail
        go_loopw [8] (fun yv wr => ∃ y : Nat, y ≤ g.length ∧ yv = .int .i64 (y : Int) ∧ Hid (Upd [] w5 wr)) (fun yv _ => g.length - (intOf yv).toNat)
        case atStart => exact ⟨0, by omega, rfl, Upd.refl _ _⟩
        case round =>
          obtain ⟨y, hy, rfl, HV⟩ := hrel
          obtain ⟨wq, rfl⟩ : ∃ wq : World, wq = wr := ⟨_, rfl⟩
          by_cases hyn : y < g.length
          · go_wp2_with fail
            go_loopw [9, 10] (fun bv zv wr => ∃ z : Nat, z ≤ g.length ∧ zv = .int .i64 (z : Int) ∧ bv = .bool (joinM g f x y z) ∧ Hid (Upd [] wq wr)) (fun _ zv _ => g.length - (intOf zv).toNat)
            case atStart => exact ⟨0, by omega, rfl, rfl, Upd.refl _ _⟩
            case round =>
              obtain ⟨z, hz, rfl, rfl, HX⟩ := hrel
              obtain ⟨w6, rfl⟩ : ∃ w6 : World, w6 = wr := ⟨_, rfl⟩
              have HX5 := Lib.hid (HV.out.trans HX.out)
              by_cases hzn : z < g.length
              · have HJS : Hid (joinM g f x y (z + 1) = (joinM g f x y z || joinB g f x y z)) := (rfl : _ = _)
                cases hjz : joinM g f x y z with
                | true =>
                  rw [hjz, Bool.true_or] at HJS
                  go_wp2_with fail
                  go_roundw
                  case rel => exact ⟨z + 1, by omega, by go_num, by rw [HJS.out], HX.out⟩
                  case measure => simp [intOf]; omega
                | false =>
                  rw [hjz, Bool.false_or] at HJS
                  have HAB1 := Lib.hid (above_any (cleanG g) (cleanG_clean g) (by rw [cleanG_len]; omega) _ tb f _ _ _ _ (x : Int) (z : Int) (by omega) (by omega) w6 (HA5.out.g.low (S := []) HX5.out (by simp)))
                  clear hjz
                  unfold joinB at HJS
                  by_cases hp : aboveP (cleanG g) f (x : Int) (z : Int)
                  · rw [decide_eq_true hp] at HAB1
                    rw [decide_eq_true hp, Bool.true_and] at HJS
                    have hzr : Rd (cleanG g) z := ((aboveP_nat _ _ _ _).1 hp).2.1
                    clear hp
                    go_wp2_with fail
                    refine HAB1.out.mono ?_
                    rintro e w7 ⟨rfl, hu7⟩
                    have HX7 := Lib.hid (HX5.out.trans hu7)
                    have HQ7 := Lib.hid (HX.out.trans hu7)
                    have hrc : w7.cell? ⟨rb, z, none⟩ = some (.bool true) := by
                      have h1 := (HU5.out.trans (HX7.out.mono (by simp))).heap HRB4.out (by simp; omega)
                      rw [cell_of h1, bcells_get _ _ (by rw [avL_len]; exact hzn), avL_get g _ _ hzn, decide_eq_true ((reach_avG hg1 z).1 hzr)]
                    obtain ⟨rb2, ro2, rv, hea, hcell, hri⟩ := HROWS.out z hzn
                    have hU7 : Upd [] w w7 := HU4.out.trans' (HU5.out.trans (HX7.out.mono (by simp))) (fun q hq hl => by simp at hq; omega)
                    have hgc := hU7.cell hcell (by simp)
                    have HRI := Lib.hid (hri.upd hU7)
                    obtain ⟨rp, rc, rfl, _⟩ := id hri
                    subst hea
                    have HAM := Lib.hid (among_in _ (g.getD z []) (y : Int) w7 HRI.out (by
                      have := HRB.out (g.getD z []) (by
                        rw [List.getD_eq_getElem?_getD, List.getElem?_eq_getElem hzn]
                        exact List.getElem_mem hzn)
                      omega))
                    clear hu7 hcell hri hU7 hzr HAB1
                    by_cases hm : (y : Int) ∈ g.getD z []
                    · rw [decide_eq_true hm] at HAM
                      rw [decide_eq_true hm, Bool.true_and] at HJS
                      have HAB2 := Lib.hid (above_any (cleanG g) (cleanG_clean g) (by rw [cleanG_len]; omega) _ tb f _ _ _ _ (x : Int) (y : Int) (by omega) (by omega) w7 (HA5.out.g.low (S := []) HX7.out (by simp)))
                      clear hm
                      generalize (g.getD z []).length = rl at hgc HAM
                      go_wp2_with fail
                      refine HAM.out.mono ?_
                      rintro e w8 ⟨rfl, rfl⟩
                      clear HAM hgc hrc
                      by_cases hq : aboveP (cleanG g) f (x : Int) (y : Int)
                      · rw [decide_eq_true hq] at HAB2
                        rw [decide_eq_true hq, Bool.not_true, Bool.false_or] at HJS
                        clear hq
                        go_wp2_with fail
                        refine HAB2.out.mono ?_
                        rintro e w9 ⟨rfl, hu9⟩
                        have HQ9 := Lib.hid (HQ7.out.trans hu9)
                        clear hu9 HAB2
                        by_cases e : x = y
                        · have d1 : ((x : Int) == (y : Int)) = true := by rw [beq_iff_eq]; omega
                          rw [decide_eq_true e] at HJS
                          clear e
                          go_wp2_with fail
                          go_roundw
                          case rel => exact ⟨z + 1, by omega, by go_num, by rw [HJS.out], HQ9.out⟩
                          case measure => simp [intOf]; omega
                        · have d1 : ((x : Int) == (y : Int)) = false := by rw [beq_eq_false_iff_ne]; omega
                          rw [decide_eq_false e] at HJS
                          clear e
                          go_wp2_with fail
                          go_roundw
                          case rel => exact ⟨z + 1, by omega, by go_num, by rw [HJS.out], HQ9.out⟩
                          case measure => simp [intOf]; omega
                      · rw [decide_eq_false hq] at HAB2
                        rw [decide_eq_false hq, Bool.not_false, Bool.true_or] at HJS
                        clear hq
                        go_wp2_with fail
                        refine HAB2.out.mono ?_
                        rintro e w9 ⟨rfl, hu9⟩
                        have HQ9 := Lib.hid (HQ7.out.trans hu9)
                        clear hu9 HAB2
                        go_wp2_with fail
                        go_roundw
                        case rel => exact ⟨z + 1, by omega, by go_num, by rw [HJS.out], HQ9.out⟩
                        case measure => simp [intOf]; omega
                    · rw [decide_eq_false hm] at HAM
                      rw [decide_eq_false hm, Bool.false_and] at HJS
                      clear hm
                      generalize (g.getD z []).length = rl at hgc HAM
                      go_wp2_with fail
                      refine HAM.out.mono ?_
                      rintro e w8 ⟨rfl, rfl⟩
                      clear HAM hgc hrc
                      go_wp2_with fail
                      go_roundw
                      case rel => exact ⟨z + 1, by omega, by go_num, by rw [HJS.out], HQ7.out⟩
                      case measure => simp [intOf]; omega
                  · rw [decide_eq_false hp] at HAB1
                    rw [decide_eq_false hp, Bool.false_and, Bool.false_and] at HJS
                    clear hp
                    go_wp2_with fail
                    refine HAB1.out.mono ?_
                    rintro e w7 ⟨rfl, hu7⟩
                    have HQ7 := Lib.hid (HX.out.trans hu7)
                    clear hu7 HAB1
                    go_wp2_with fail
                    go_roundw
                    case rel => exact ⟨z + 1, by omega, by go_num, by rw [HJS.out], HQ7.out⟩
                    case measure => simp [intOf]; omega
              · obtain rfl : z = g.length := by omega
                have HAM := Lib.hid (among_any _ bo _ (y : Int) w6 (HIB.out.upd HX5.out (.inr (by simp))) HFL.out)
                rw [HJE.out y hyn] at HAM
                generalize joinM g f x y g.length = jb at HAM ⊢
                have d1 : (jb != jb) = false := by cases jb <;> rfl
                go_wp2_with fail
                refine HAM.out.mono ?_
                rintro e w7 ⟨rfl, rfl⟩
                clear HAM
                go_wp2_with fail
                go_roundw
                case rel => exact ⟨y + 1, by omega, by go_num, HX5.out⟩
                case measure => simp [intOf]; omega
          · obtain rfl : y = g.length := by omega
            have HAN := Lib.hid (HA5.out.low (S := []) HV.out (by simp))
            have HFN2 := Lib.hid (HF5.out.up0 HV.out)
            have HUN := Lib.hid (HU5.out.trans (HV.out.mono (by simp)))
            go_wp2_with fail
            go_roundw
            case rel => exact ⟨x + 1, 1, fr2, by omega, by go_num, HAN.out, .inr ⟨rfl, HFN2.out⟩, HUN.out⟩
            case measure => simp [intOf]; omega
      · obtain rfl : x = g.length := by omega
        go_wp2_with fail
        go_ret
        exact ⟨rfl, HU4.out.trans' HU.out (fun q hq hl => by simp at hq; omega)⟩

end Go.Proofs.YtjjkliifpdcliaaDoor
