/- DomSays: the law's walk. -/
import Derived.Test.YtjjkliifpdcliaaDoorDomQR
import Derived.Test.YtjjkliifpdcliaaDoorFirst6
import Derived.Test.YtjjkliifpdcliaaDoorLight6
import Derived.Test.YtjjkliifpdcliaaDoorOpenC
namespace Go.Proofs.YtjjkliifpdcliaaDoor
open Go.RowKit

set_option maxRecDepth 100000 in
set_option maxHeartbeats 2000000 in
theorem frontier_mid (c : List (List Nat)) (hc : Clean c) (hn : c.length ≤ 1000) (B tb : Nat) (f : Nat → Nat) (d : Int) (fr : Value) (i : Int) (hi : -9223372036854775808 ≤ i ∧ i ≤ 9223372036854775807) (w : World) (h : TreeAt w B tb c f d fr) (hT : TzAt w) (hfr : d = 0 ∨ d = 1 ∧ FrOk w B c f fr) :
    Calls Tryd.prog 13 #[.pointer (some ⟨tb, 0, none⟩), .int .i64 i] w fun e w' => ∃ w1 u fr', e = .returned u ∧ TreeAt w1 B tb c f 1 fr' ∧ FrOk w1 B c f fr' ∧ Upd [tb] w w1 ∧ OwnI w' w1.heap.size 3 u (fronV c f i) ∧ Upd [] w1 w' := by
  have HDO := Lib.hid (doF_any c hc hn B tb f d fr w h hT hfr)
  clear h hT hfr
  go_enter Tryd.func13, Tryd.ntmps13
  go_wp2_with fail
  refine HDO.out.mono ?_
  rintro e w1 ⟨rfl, fr', hA, hF, hu⟩
  have HA := Lib.hid hA
  have HF := Lib.hid hF
  have HU := Lib.hid hu
  obtain ⟨s0, s1, s2, s3, hb, _⟩ := TreeG.blk hA.g
  obtain ⟨fb, vals, e, h1, h2, h3, h4⟩ := hF
  subst e
  have hc7 : w1.cell? ⟨tb, 7, none⟩ = some (.slice (some ⟨fb, 0, none⟩) c.length c.length) := by rw [cell_of hb]; rfl
  have H1 := Lib.hid h1
  have H4 := Lib.hid h4
  clear hA hu hb h1 h4 HDO
  by_cases hi1 : i < 0
  · have d0 : decide (i < 0) = true := decide_eq_true hi1
    have HE : Hid (fronV c f i = []) := if_neg (fun h => by omega)
    go_wp2_with fail
    go_ret
    exact ⟨_, _, _, rfl, HA.out, HF.out, HU.out, by rw [HE.out]; exact OwnI.nil _ _ _, Upd.refl _ _⟩
  · have d0 : decide (i < 0) = false := decide_eq_false hi1
    by_cases hi2 : (c.length : Int) ≤ i
    · have d1 : decide ((c.length : Int) ≤ i) = true := decide_eq_true hi2
      have d1' : decide (i ≥ (c.length : Int)) = true := decide_eq_true hi2
      have HE : Hid (fronV c f i = []) := if_neg (fun h => by omega)
      go_wp2_with fail
      go_ret
      exact ⟨_, _, _, rfl, HA.out, HF.out, HU.out, by rw [HE.out]; exact OwnI.nil _ _ _, Upd.refl _ _⟩
    · have d1 : decide ((c.length : Int) ≤ i) = false := decide_eq_false hi2
      have d1' : decide (i ≥ (c.length : Int)) = false := decide_eq_false hi2
      obtain ⟨q, rfl⟩ := Int.eq_ofNat_of_zero_le (show 0 ≤ i by omega)
      have hq : q < c.length := by omega
      have HE : Hid (fronV c f (q : Int) = ints (fronL c f q)) := by
        show _ = _
        unfold fronV
        rw [if_pos ⟨by omega, by omega⟩, Int.toNat_natCast]
      have hrc : w1.cell? ⟨fb, q, none⟩ = some (vals.getD q undef) := by
        rw [cell_of H1.out, List.getElem?_toArray, List.getD_eq_getElem?_getD, List.getElem?_eq_getElem (by omega)]; rfl
      obtain ⟨bb, hib, _⟩ := (H4.out q hq).ints
      have hfl : (ints (fronL c f q)).length ≤ 100000 := by
        rw [ints_len]
        have : (fronL c f q).length ≤ c.length := by
          unfold fronL
          have := List.length_filter_le (fun p => (Classical.propDecidable (DFp c f q p)).decide) (List.range c.length)
          simpa using this
        omega
      have HCL := Lib.hid (clone_any _ bb _ w1 hib hfl)
      obtain ⟨p9, c9, hv9⟩ := (H4.out q hq).shape
      rw [hv9] at hrc HCL
      clear hib hfl hv9
      go_wp2_with fail
      refine HCL.out.mono ?_
      rintro e w5 ⟨u, rfl, hO, hu5⟩
      have HO := Lib.hid hO
      have HU5 := Lib.hid hu5
      obtain ⟨p8, c8, rfl⟩ := hO.shape
      clear hO hu5 HCL
      go_wp2_with fail
      go_ret
      exact ⟨_, _, _, rfl, HA.out, HF.out, HU.out, by rw [HE.out]; exact HO.out, HU5.out⟩


theorem take_setD (l : List Value) (n k : Nat) (v : Value) : (l.set k v).take n = (l.take n).set k v := by
  apply List.ext_getElem?
  intro q
  rw [List.getElem?_take, List.getElem?_set, List.getElem?_set, List.getElem?_take, List.length_take]
  by_cases h1 : q < n
  · rw [if_pos h1, if_pos h1]
    by_cases h2 : k = q
    · rw [if_pos h2, if_pos h2]
      by_cases h3 : k < l.length
      · rw [if_pos h3, if_pos (by omega)]
      · rw [if_neg h3, if_neg (by omega)]
    · rw [if_neg h2, if_neg h2]
  · rw [if_neg h1, if_neg h1]
    by_cases h2 : k = q
    · rw [if_pos h2, if_neg (by omega)]
    · rw [if_neg h2]
theorem cntB_succ (p : Nat → Bool) (m : Nat) : cntB p (m + 1) = cntB p m + if p m = true then 1 else 0 := rfl
/-- Whom the document has right below b, of the first m. -/
noncomputable def kidQ (g : List (List Int)) (b m : Nat) : List Nat := (List.range m).filter fun i => decide ((idM g g.length 0).getD i 0 = (b : Int))
theorem kidQ_step (g : List (List Int)) (b m : Nat) : kidQ g b (m + 1) = kidQ g b m ++ if (idM g g.length 0).getD m 0 = (b : Int) then [m] else [] := by
  unfold kidQ
  rw [List.range_succ, List.filter_append]
  congr 1
  by_cases h : (idM g g.length 0).getD m 0 = (b : Int)
  · rw [if_pos h, List.filter_cons, if_pos (decide_eq_true h)]; rfl
  · rw [if_neg h, List.filter_cons, if_neg (by rw [decide_eq_false h]; decide)]; rfl
theorem kidQ_len (g : List (List Int)) (b m : Nat) : (kidQ g b m).length ≤ m := by
  unfold kidQ
  have := List.length_filter_le (fun i => decide ((idM g g.length 0).getD i 0 = (b : Int))) (List.range m)
  simpa using this
section
variable {g : List (List Int)} {f : Nat → Nat}
theorem idM_get (h : 0 < g.length) (ex : Exact (Rd (cleanG g)) (Ed (cleanG g)) (posn (cleanG g)) f) (i : Nat) (hi : i < g.length) : (idM g g.length 0).getD i 0 = if Rd (cleanG g) i ∧ i ≠ 0 then (f i : Int) else -1 := by
  rw [idM_eq h ex]
  unfold idomsV
  rw [cleanG_len]
  simp [List.getD_eq_getElem?_getD, hi]
theorem kidQ_all (h : 0 < g.length) (ex : Exact (Rd (cleanG g)) (Ed (cleanG g)) (posn (cleanG g)) f) (b : Nat) : kidQ g b g.length = kidF (cleanG g) f b := by
  unfold kidQ kidF
  rw [cleanG_len]
  refine List.filter_congr (fun i hi => ?_)
  rw [List.mem_range] at hi
  rw [idM_get h ex i hi, decide_eq_decide]
  by_cases hr : Rd (cleanG g) i ∧ i ≠ 0
  · rw [if_pos hr]
    constructor
    · intro e; exact ⟨hr.1, hr.2, by omega⟩
    · intro e; have := e.2.2; omega
  · rw [if_neg hr]
    constructor
    · intro e; omega
    · intro e; exact absurd ⟨e.1, e.2.1⟩ hr
theorem idomV_get (h : 0 < g.length) (ex : Exact (Rd (cleanG g)) (Ed (cleanG g)) (posn (cleanG g)) f) (i : Nat) (hi : i < g.length) : (idM g g.length 0).getD i 0 = idomV (cleanG g) f (i : Int) := by
  rw [idM_get h ex i hi]
  unfold idomV thereP
  simp only [Int.toNat_natCast]
  by_cases hr : Rd (cleanG g) i ∧ i ≠ 0
  · rw [if_pos hr, if_pos ⟨⟨by omega, hr.1⟩, by omega⟩]
  · rw [if_neg hr, if_neg (fun hh => hr ⟨hh.1.2, by omega⟩)]
open Classical in
theorem abB_abv (h : 0 < g.length) (ex : Exact (Rd (cleanG g)) (Ed (cleanG g)) (posn (cleanG g)) f) (a b : Nat) : abB (cleanG g) f (a : Int) (b : Int) = abv g b a := by
  have h1 := abv_iff h ex b a
  have h2 : abB (cleanG g) f (a : Int) (b : Int) = true ↔ abv g b a = true := by
    rw [h1]
    unfold abB
    rw [decide_eq_true_eq]
    unfold aboveP thereP
    simp only [Int.toNat_natCast]
    constructor
    · intro hh; exact ⟨hh.2.1.2, hh.2.2⟩
    · intro hh; exact ⟨⟨by omega, (hh.2.pl ex.tr hh.1).1⟩, ⟨by omega, hh.1⟩, hh.2⟩
  cases e1 : abB (cleanG g) f (a : Int) (b : Int) <;> cases e2 : abv g b a
  · rfl
  · rw [h2.2 e2] at e1; cases e1
  · rw [h2.1 e1] at e2; cases e2
  · rfl
end

open Classical in
theorem abB_no {c : List (List Nat)} {f : Nat → Nat} {a b : Int} (h : ¬ aboveP c f a b) : abB c f a b = false := by
  unfold abB
  exact decide_eq_false h

theorem fronV_len (g : List (List Int)) (f : Nat → Nat) (i : Int) : (fronV (cleanG g) f i).length ≤ g.length := by
  unfold fronV
  split
  · rw [ints_len]
    have h1 : (fronL (cleanG g) f i.toNat).length ≤ (cleanG g).length := by
      unfold fronL
      have := List.length_filter_le (fun p => (Classical.propDecidable (DFp (cleanG g) f i.toNat p)).decide) (List.range (cleanG g).length)
      simpa using this
    rwa [cleanG_len] at h1
  · simp

set_option maxRecDepth 100000 in
set_option maxHeartbeats 8000000 in
theorem saysW_any (v : Value) (g : List (List Int)) (ask : Int) (w : World) (h : RowsAt w v g) (hcap : CapOk v) (hT : TzAt w) (bask : -9223372036854775808 ≤ ask ∧ ask ≤ 9223372036854775807) :
    Calls Tryd.prog 7 #[v, .int .i64 ask] w fun e w' => e = .returned (.bool true) ∧ Upd [] w w' := by
  obtain ⟨i0, hi0, hz0, hz1, hz2⟩ := info_parts Tryd.infoInt
  have HI := Lib.hid hi0
  have HZ0 := Lib.hid hz0
  have HZ1 := Lib.hid hz1
  have HZ2 := Lib.hid hz2
  clear hi0 hz0 hz1 hz2
  have HH := Lib.hid h
  have HF := Lib.hid (first6_any w hT)
  have HTZ := Lib.hid hT
  obtain ⟨a, cap, rfl, _, _⟩ := id h
  have hcp := hcap a g.length cap rfl
  have HCAP := Lib.hid hcp
  clear h hcap hT hcp
  go_enter Tryd.func7, Tryd.ntmps7
  go_wp2_with fail
  refine HF.out.mono ?_
  rintro e w1 ⟨rfl, hu1⟩
  have HU1 := Lib.hid hu1
  have HLI := Lib.hid (light6_any _ g w1 (HH.out.upd hu1))
  clear hu1 HF
  go_wp2_with fail
  refine HLI.out.mono ?_
  rintro e w2 ⟨b, rfl, hb, hu2⟩
  have HU2 := Lib.hid (HU1.out.trans hu2)
  clear hu2 HLI HU1
  cases b with
  | false =>
    go_wp2_with fail
    go_ret
    exact ⟨rfl, HU2.out⟩
  | true =>
    obtain ⟨hn, hrb⟩ := hb rfl
    have HRB := Lib.hid (fun (l : List Int) (hl : l ∈ g) => show l.length ≤ 100000 by have := hrb l hl; omega)
    clear hb hrb
    have HOF := Lib.hid (domOf_any a cap g w2 (HH.out.upd HU2.out) HCAP.out (by omega) HRB.out)
    go_wp2_with fail
    refine HOF.out.mono ?_
    rintro e w3 ⟨tb, f, rfl, hA, hu3⟩
    have HU3 := Lib.hid (HU2.out.trans hu3)
    have HA := Lib.hid hA
    have HEX : Hid (0 < g.length → Exact (Rd (cleanG g)) (Ed (cleanG g)) (posn (cleanG g)) f) := fun hg1 => by
      obtain ⟨_, _, _, _, _, _, _, _, _, _, _, _, h2, _⟩ := HA.out
      exact h2 (cleanG_ne hg1)
    have HRA := Lib.hid (rabove_any _ g w3 (HH.out.upd HU3.out) (by omega) HRB.out)
    clear hA hu3 HOF
    go_wp2_with fail
    refine HRA.out.mono ?_
    rintro e w4 ⟨gb, wb, rfl, hT4, hu4⟩
    have HU4 := Lib.hid (HU3.out.trans hu4)
    have HT4 := Lib.hid hT4
    have HA4 := Lib.hid (HA.out.low (S := []) hu4 (by simp))
    have HRI := Lib.hid (ridoms_any _ g w4 (HH.out.upd HU4.out) (by omega) HRB.out)
    clear hT4 hu4 HRA
    go_wp2_with fail
    refine HRI.out.mono ?_
    rintro e w5 ⟨ob, rfl, hob, _, hu5⟩
    have HU5 := Lib.hid (HU4.out.trans hu5)
    have HT5 := Lib.hid (HT4.out.upd hu5 (by simp))
    have HA5 := Lib.hid (HA4.out.low (S := []) hu5 (by simp))
    have HOB := Lib.hid hob
    have HID5 := Lib.hid (idoms_any (cleanG g) (by rw [cleanG_len]; omega) _ tb f _ _ _ _ w5 HA5.out.g)
    clear hob hu5 HRI HT4 HA4 HA
    go_wp2_with fail
    refine HID5.out.mono ?_
    rintro e w6 ⟨u, rfl, hO, hu6⟩
    have HU6 := Lib.hid (HU5.out.trans hu6)
    have HT6 := Lib.hid (HT5.out.upd hu6 (by simp))
    have HA6 := Lib.hid (HA5.out.low (S := []) hu6 (by simp))
    have HOB6 := Lib.hid (hu6.heap HOB.out (by simp))
    have heq : idomsV (cleanG g) f = idM g g.length 0 := by
      by_cases hg1 : 0 < g.length
      · exact (idM_eq hg1 (HEX.out hg1)).symm
      · have : g = [] := List.eq_nil_of_length_eq_zero (by omega)
        subst this
        rfl
    rw [heq] at hO
    obtain ⟨bo, hib, _⟩ := hO.ints
    obtain ⟨p6, c6, rfl⟩ := hO.shape
    have hil := idM_len g g.length 0
    have hib2 : IntsV w6 (.slice (some ⟨ob, 0, none⟩) (idM g g.length 0).length g.length) ob (idM g g.length 0) := ⟨.inr ⟨_, rfl⟩, fun i hi => by rw [cell_of HOB6.out]; exact icells_get _ i hi⟩
    have HS6 := Lib.hid (sints _ _ bo ob _ _ w6 hib hib2 (by omega))
    rw [hil] at HS6 ⊢
    clear hO hu6 heq hib hib2 HID5 HT5 HA5 HOB hil
    go_wp2_with fail
    refine HS6.out.mono ?_
    rintro e w7 ⟨rfl, hu7⟩
    have HU7 := Lib.hid (HU6.out.trans hu7)
    have HT7 := Lib.hid (HT6.out.upd hu7 (by simp))
    have HA7 := Lib.hid (HA6.out.low (S := []) hu7 (by simp))
    have HOB7 := Lib.hid (hu7.heap HOB6.out (by simp))
    clear hu7 HS6 HT6 HA6 HOB6
    simp only [decide_true]
    go_wp2_with fail
    go_loopw [9] (fun bv wr => ∃ b : Nat, b ≤ g.length ∧ bv = .int .i64 (b : Int) ∧ Hid (Upd [] w7 wr)) (fun bv _ => g.length - (intOf bv).toNat)
    case atStart => exact ⟨0, by omega, rfl, Upd.refl _ _⟩
    case round =>
      obtain ⟨b, hb, rfl, HU⟩ := hrel
      obtain ⟨wo, rfl⟩ : ∃ wo : World, wo = wr := ⟨_, rfl⟩
      by_cases hbn : b < g.length
      · have hg1 : 0 < g.length := by omega
        have HEX1 := Lib.hid (HEX.out hg1)
        go_wp2_with fail
        go_loopw [10, 11] (fun nv av wr => ∃ x : Nat, x ≤ g.length ∧ nv = .int .i64 (cntB (fun x => abv g b x && decide (x ≠ b)) x : Int) ∧ av = .int .i64 (x : Int) ∧ Hid (Upd [] wo wr)) (fun _ av _ => g.length - (intOf av).toNat)
        case atStart => exact ⟨0, by omega, rfl, rfl, Upd.refl _ _⟩
        case round =>
          obtain ⟨x, hx, rfl, rfl, HV⟩ := hrel
          obtain ⟨wq, rfl⟩ : ∃ wq : World, wq = wr := ⟨_, rfl⟩
          have HUq := Lib.hid (HU.out.trans HV.out)
          have hcl := cntB_le (fun x => abv g b x && decide (x ≠ b)) x
          by_cases hxn : x < g.length
          · have hTq := HT7.out.upd HUq.out (by simp)
            have hhb := hTq.head b hbn
            have hvb := hTq.val b x hbn hxn
            have HQ : Hid (∀ n, Calls Tryd.prog 12 #[.pointer (some ⟨tb, 0, none⟩), .int .i64 (x : Int), .int .i64 (b : Int)] (wq.drewN n) fun e w' => e = .returned (.bool (abv g b x)) ∧ ∃ m, w' = wq.drewN m) := fun n => by
              have h1 := above_q (cleanG g) (cleanG_clean g) (by rw [cleanG_len]; omega) _ tb f _ _ _ _ wq (HA7.out.g.low (S := []) HUq.out (by simp)) (x : Int) (b : Int) n (by omega) (by omega)
              rwa [abB_abv hg1 HEX1.out] at h1
            have HCS := Lib.hid (cntB_succ (fun x => abv g b x && decide (x ≠ b)) x)
            clear hTq
            cases hab : abv g b x with
            | false =>
              rw [hab] at hvb HQ
              have HC2 : Hid (cntB (fun x => abv g b x && decide (x ≠ b)) (x + 1) = cntB (fun x => abv g b x && decide (x ≠ b)) x) := by
                show _ = _
                rw [HCS.out, hab]; simp
              clear hab HCS
              generalize cntB (fun x => abv g b x && decide (x ≠ b)) x = q at *
              go_wp2_with fail
              go_quiet ((go_at_call 12; exact HQ.out _))
              go_wp2_with fail
              go_roundw
              case rel => exact ⟨x + 1, by omega, by rw [HC2.out], by go_num, HV.out.drewN _⟩
              case measure => simp [intOf]; omega
            | true =>
              rw [hab] at hvb HQ
              by_cases e : x = b
              · have d1 : ((x : Int) != (b : Int)) = false := by simp [e]
                have HC2 : Hid (cntB (fun x => abv g b x && decide (x ≠ b)) (x + 1) = cntB (fun x => abv g b x && decide (x ≠ b)) x) := by
                  show _ = _
                  rw [HCS.out]; simp [e]
                clear hab HCS e
                generalize cntB (fun x => abv g b x && decide (x ≠ b)) x = q at *
                go_wp2_with fail
                go_quiet ((go_at_call 12; exact HQ.out _))
                go_wp2_with fail
                go_roundw
                case rel => exact ⟨x + 1, by omega, by rw [HC2.out], by go_num, HV.out.drewN _⟩
                case measure => simp [intOf]; omega
              · have d1 : ((x : Int) != (b : Int)) = true := by simpa using fun h => e (by omega)
                have HC2 : Hid (cntB (fun x => abv g b x && decide (x ≠ b)) (x + 1) = cntB (fun x => abv g b x && decide (x ≠ b)) x + 1) := by
                  show _ = _
                  rw [HCS.out, hab]; simp [e]
                clear hab HCS e
                generalize cntB (fun x => abv g b x && decide (x ≠ b)) x = q at *
                go_wp2_with fail
                go_quiet ((go_at_call 12; exact HQ.out _))
                go_wp2_with fail
                go_roundw
                case rel => exact ⟨x + 1, by omega, by rw [HC2.out]; go_num, by go_num, HV.out.drewN _⟩
                case measure => simp [intOf]; omega
          · obtain rfl : x = g.length := by omega
            have HSD := Lib.hid (strict_dep hg1 HEX1.out b hbn)
            generalize cntB (fun x => abv g b x && decide (x ≠ b)) g.length = nq at HSD hcl
            go_wp2_with fail
            go_loopw [12, 13] (fun kv av wr => ∃ x : Nat, x ≤ g.length ∧ av = .int .i64 (x : Int) ∧ Hid (OwnI wr wq.heap.size 3 kv (ints (kidQ g b x))) ∧ Hid (Upd [] wq wr)) (fun _ av _ => g.length - (intOf av).toNat)
            case atStart => exact ⟨0, by omega, rfl, OwnI.nil _ _ _, Upd.refl _ _⟩
            case round =>
              obtain ⟨x, hx, rfl, HO, HX⟩ := hrel
              obtain ⟨w8, rfl⟩ : ∃ w8 : World, w8 = wr := ⟨_, rfl⟩
              have HU8 := Lib.hid (HUq.out.trans HX.out)
              obtain ⟨kp, kc, rfl⟩ := HO.out.shape
              have hkl := kidQ_len g b x
              by_cases hxn : x < g.length
              · have hci : w8.cell? ⟨ob, x, none⟩ = some (.int .i64 ((idM g g.length 0).getD x 0)) := by
                  rw [cell_of (HU8.out.heap HOB7.out (by simp)), icells_get _ _ (by rw [idM_len]; exact hxn)]
                have HKS := Lib.hid (kidQ_step g b x)
                have hw8 := HX.out.size
                generalize (idM g g.length 0).getD x 0 = iv at hci HKS
                by_cases hib : iv = (b : Int)
                · have d1 : (iv == (b : Int)) = true := by rw [beq_iff_eq]; exact hib
                  have HK2 : Hid (kidQ g b (x + 1) = kidQ g b x ++ [x]) := by show _ = _; rw [HKS.out, if_pos hib]
                  have HSN := Lib.hid (ints_snoc (kidQ g b x) x)
                  rw [← HK2.out] at HSN
                  clear HKS hib
                  have hil : (ints (kidQ g b x)).length ≤ 1000 := by rw [ints_len]; omega
                  generalize kidQ g b x = acc at HO HSN hil HK2 hkl ⊢
                  go_wp2_with (at_builtin; refine stop_here ?_)
                  refine Hid.mk ?_
                  have hcn := cell_of (heap_alloc_new w8 (.cells #[.int .i64 (x : Int)] 3))
                  refine (wpList_append_own_at _ rfl _ _ 27 rfl wq.heap.size 3 i0 (.int .i64 0) 1 8 Tryd.underlying27 HI.out HZ0.out HZ1.out HZ2.out rfl (by decide) _ _ _ rfl (HO.out.alloc (.cells #[.int .i64 (x : Int)] 3)) ⟨w8.heap.size, 0, none⟩ 1 1 [.int .i64 (x : Int)] rfl rfl ?c1 ?c2 ?c3 ?c4 ?c5 ?c6)
                  case c1 =>
                    intro jj uu hjj
                    rw [Addr.add_lit, Nat.zero_add, hcn]
                    simpa using hjj
                  case c2 => simp [Value.oneCell']
                  case c3 => unfold maxLen; omega
                  case c4 => omega
                  case c5 => simp; omega
                  case c6 =>
                    intro v' w9 hown hgr _ hat
                    have hU9 := (HX.out.alloc (.cells #[.int .i64 (x : Int)] 3)).grown hgr (fun q2 hq2 => .inr (HO.out.lt q2 hq2).1)
                    have hO9 := OwnI.snoc hown
                    rw [← HSN.out] at hO9
                    have HO9 := Lib.hid hO9
                    have HU9 := Lib.hid hU9
                    obtain ⟨g', cap', rfl⟩ := ownsRow_succ hown
                    clear hown hgr hat hO9 hU9 hcn hci
                    go_wp2_with fail
                    go_roundw
                    case rel => exact ⟨x + 1, by omega, by go_num, HO9, HU9⟩
                    case measure => simp [intOf]; omega
                · have d1 : (iv == (b : Int)) = false := by rw [beq_eq_false_iff_ne]; exact hib
                  have HK2 : Hid (kidQ g b (x + 1) = kidQ g b x) := by show _ = _; rw [HKS.out, if_neg hib]; simp
                  clear HKS hib
                  go_wp2_with fail
                  go_roundw
                  case rel => exact ⟨x + 1, by omega, by go_num, by rw [HK2.out]; exact HO, HX⟩
                  case measure => simp [intOf]; omega
              · obtain rfl : x = g.length := by omega
                rw [kidQ_all hg1 HEX1.out] at HO hkl ⊢
                have hci : w8.cell? ⟨ob, b, none⟩ = some (.int .i64 (idomV (cleanG g) f (b : Int))) := by
                  rw [cell_of (HU8.out.heap HOB7.out (by simp)), icells_get _ _ (by rw [idM_len]; exact hbn), idomV_get hg1 HEX1.out b hbn]
                have hA8 : TreeG w8.drew _ tb (cleanG g) f _ _ _ _ := (HA7.out.g.low (S := []) HU8.out (by simp)).low (S := []) (Upd.refl [] w8).drew (by simp)
                have HIDM := Lib.hid (idom_any (cleanG g) (cleanG_clean g) (by rw [cleanG_len]; omega) _ tb f _ _ _ _ (b : Int) (by omega) w8.drew hA8)
                have HDPT := Lib.hid (depth_any (cleanG g) (cleanG_clean g) (by rw [cleanG_len]; omega) _ tb f _ _ _ _ (b : Int) (by omega) w8.drew hA8)
                have HKID := Lib.hid (kids_any (cleanG g) (by rw [cleanG_len]; omega) _ tb f _ _ _ _ (b : Int) (by omega) w8.drew hA8)
                have ekv : kidV (cleanG g) f (b : Int) = ints (kidF (cleanG g) f b) := by
                  unfold kidV
                  rw [if_pos ⟨by omega, by rw [cleanG_len]; omega⟩, Int.toNat_natCast]
                rw [ekv] at HKID
                rw [← HSD.out] at HDPT
                obtain ⟨kb2, hkb2, _⟩ := HO.out.ints
                have HKB := Lib.hid hkb2
                have hkl2 : (ints (kidF (cleanG g) f b)).length ≤ 1000000 := by rw [ints_len]; omega
                have HKL := Lib.hid hkl2
                clear hA8 ekv hkb2 hkl2
                generalize idomV (cleanG g) f (b : Int) = ivv at hci HIDM
                generalize ints (kidF (cleanG g) f b) = ks at HKID HKB HKL HO ⊢
                have hci2 : w8.drew.cell? ⟨ob, b, none⟩ = some (.int .i64 ivv) := (Upd.refl [] w8).drew.cell hci (by simp)
                have hbx : (nq : Int) = nq := rfl
                go_wp2_with fail
                go_region_held3 (fun w' => w'.cell? ⟨ob, b, none⟩ = some (.int .i64 ivv))
                  (first | exact hk0 | exact hk1 | exact hci2 | exact hci)
                  ((first
                    | (go_at_call 16; refine HIDM.out.mono ?_; rintro e w' ⟨rfl, rfl⟩)
                    | (go_at_call 17; refine HDPT.out.mono ?_; rintro e w' ⟨rfl, rfl⟩)
                    | (go_at_call 15; refine HKID.out.mono ?_; rintro e w9 ⟨u9, rfl, hO9, hu9⟩; have hk0 := hu9.cell (p := ⟨ob, b, none⟩) hci2 (by simp); obtain ⟨p9, c9, rfl⟩ := hO9.shape)
                    | (go_at_call 20; obtain ⟨b9, hib9, _⟩ := hO9.ints; refine (sints _ _ b9 kb2 ks ks w9 hib9 (HKB.out.upd ((Upd.refl [] w8).drew.trans hu9) (.inr (by simp))) HKL.out).mono ?_; rintro e w10 ⟨rfl, hu10⟩; have hk1 := hu10.cell (p := ⟨ob, b, none⟩) hk0 (by simp))))
                have HU10 := Lib.hid (((HU8.out.trans (Upd.refl [] w8).drew).trans hu9).trans hu10)
                clear hk0 hk1 hci hci2 hbx hu9 hu10 hO9 hib9
                go_wp2_with fail
                go_roundw
                case rel => exact ⟨b + 1, by omega, by go_num, HU10.out⟩
                case measure => simp [intOf]; omega
      · obtain rfl : b = g.length := by omega
        have HAL := Lib.hid (HA7.out.low (S := []) HU.out (by simp))
        have HUL := Lib.hid (HU7.out.trans HU.out)
        obtain ⟨_, _, _, _, htb1, htb2⟩ := TreeG.blk HA7.out.g
        have htl := lt_of_heap htb1
        have hs2 := HU2.out.size
        have hsz := HU.out.size
        clear htb1
        go_wp2_with fail
        go_loopw [14] (fun iv wr => ∃ (i : Nat) (d : Int) (fr : Value), i ≤ g.length ∧ iv = .int .i64 (i : Int) ∧ Hid (TreeAt wr w2.heap.size tb (cleanG g) f d fr) ∧ Hid (d = 0 ∨ d = 1 ∧ FrOk wr w2.heap.size (cleanG g) f fr) ∧ Hid (Upd [tb] wo wr)) (fun iv _ => g.length - (intOf iv).toNat)
        case atStart => exact ⟨0, 0, _, by omega, rfl, HAL.out, .inl rfl, Upd.refl _ _⟩
        case round =>
          obtain ⟨i, d, fr, hi, rfl, HA, HFR, HV⟩ := hrel
          obtain ⟨wq, rfl⟩ : ∃ wq : World, wq = wr := ⟨_, rfl⟩
          have HUq := Lib.hid (HUL.out.trans' HV.out (fun q hq hl => by simp at hq; omega))
          by_cases hlt : i < g.length
          · have hg1 : 0 < g.length := by omega
            have HFN := Lib.hid (frontier_mid (cleanG g) (cleanG_clean g) (by rw [cleanG_len]; omega) _ tb f d fr (i : Int) (by omega) wq HA.out (HTZ.out.upd HUq.out (by simp)) HFR.out)
            go_wp2_with fail
            refine HFN.out.mono ?_
            rintro e w8 ⟨wm, u, fr2, rfl, hAm, hFm, hum, hO, hu8⟩
            have HAm := Lib.hid hAm
            have HFm := Lib.hid hFm
            have HVm := Lib.hid (HV.out.trans hum)
            have hszm := hum.size
            have HO := Lib.hid hO
            have HU8 := Lib.hid hu8
            have HUw8 := Lib.hid (HUq.out.trans' (hum.trans (hu8.mono (by simp))) (fun q hq hl => by simp at hq; omega))
            have HRF := Lib.hid (rfront_any _ g w8 (HH.out.upd HUw8.out) (by omega) HRB.out (i : Int) (by omega))
            obtain ⟨fp, fc, rfl⟩ := hO.shape
            clear hAm hFm hum hO hu8 HFN HA HFR
            go_wp2_with fail
            refine HRF.out.mono ?_
            rintro e w9 ⟨u2, rfl, hO2, hu9⟩
            rw [fr_eq hg1 (HEX.out hg1)] at hO2
            obtain ⟨b1, hib1, _⟩ := HO.out.ints
            obtain ⟨b2, hib2, _⟩ := hO2.ints
            have HS9 := Lib.hid (sints _ _ b1 b2 _ _ w9 (hib1.upd hu9 (.inr (by simp))) hib2 (by have := fronV_len g f (i : Int); omega))
            have HU9 := Lib.hid (HU8.out.trans hu9)
            have HO9 := Lib.hid (HO.out.upd hu9 (by simp))
            obtain ⟨p2, c2, rfl⟩ := hO2.shape
            clear hib1 hib2 hO2 hu9 HRF HO
            go_wp2_with fail
            refine HS9.out.mono ?_
            rintro e w10 ⟨rfl, hu10⟩
            have HU10 := Lib.hid (HU9.out.trans hu10)
            have HO10 := Lib.hid (HO9.out.upd hu10 (by simp))
            have hfl := fronV_len g f (i : Int)
            clear hu10 HS9 HO9
            simp only [decide_true]
            generalize fronV (cleanG g) f (i : Int) = fl at HO10 hfl ⊢
            generalize hln : (ints []).length = zz at *
            clear hln
            go_wp2_with fail
            go_loopw [16] (fun kv wr => ∃ (k : Nat) (ys : List Int), k ≤ fl.length ∧ kv = .int .i64 (k : Int) ∧ ys.length = fl.length ∧ Hid (OwnI wr wm.heap.size 3 (.slice fp fl.length fc) ys) ∧ Hid (Upd [] wm wr)) (fun kv _ => fl.length - (intOf kv).toNat)
            case atStart => exact ⟨0, fl, by omega, rfl, rfl, HO10.out, HU10.out⟩
            case round =>
              obtain ⟨k, ys, hk, rfl, hyl, HY, HX⟩ := hrel
              obtain ⟨w11, rfl⟩ : ∃ w11 : World, w11 = wr := ⟨_, rfl⟩
              by_cases hkl : k < fl.length
              · have hY := HY.out
                rw [← hyl] at hY
                rcases hY.2 with ⟨_, he⟩ | ⟨gk, ck, cur, e, q3, q4, q5, q6, q7, q8⟩
                · omega
                · rw [hyl] at e
                  injection e with e _ e3
                  subst e
                  subst e3
                  have hcy : w11.cell? ⟨gk, k, none⟩ = some (.int .i64 (ys.getD k 0)) := by
                    rcases hY.form with ⟨_, he⟩ | ⟨g2, c2', e2, _, _, _, h5⟩
                    · rw [he] at hyl; simp at hyl; omega
                    · rw [hyl] at e2
                      injection e2 with e2 _ _
                      injection e2 with e2
                      injection e2 with e2 _
                      subst e2
                      exact h5 k (by omega)
                  have hfy := froz_of q4 k
                  have HYN : Hid (OwnI (w11.setCell ⟨gk, k, none⟩ (.int .i64 (-9))) wm.heap.size 3 (.slice (some ⟨gk, 0, none⟩) fl.length fc) (ys.set k (-9))) := by
                    show OwnI _ _ _ _ _
                    unfold OwnI
                    have h1 : (ys.set k (-9)).length = fl.length := by rw [List.length_set]; exact hyl
                    rw [h1]
                    refine ⟨by simp [hyl], .inr ⟨gk, fc, _, rfl, q3, heap_setCell q4 k _, by omega, q6, by simpa using q7, ?_⟩⟩
                    rw [hyl] at q8
                    rw [Nat.mul_one] at q8 ⊢
                    rw [List.map_set, ← q8]
                    simp only [Array.toList_setIfInBounds]
                    exact take_setD _ _ _ _
                  have HXN := Lib.hid (HX.out.setCell (p := ⟨gk, k, none⟩) (.inr q3) (.int .i64 (-9)))
                  clear hY q4 q5 q6 q7 q8
                  go_wp2_with fail
                  go_roundw
                  case rel => exact ⟨k + 1, ys.set k (-9), by omega, by go_num, by rw [List.length_set]; exact hyl, HYN, HXN.out⟩
                  case measure => simp [intOf]; omega
              · obtain rfl : k = fl.length := by omega
                have HAN := Lib.hid (HAm.out.low (S := []) HX.out (by simp))
                have HFN := Lib.hid (HFm.out.up0 HX.out)
                have HVN := Lib.hid (HVm.out.trans (HX.out.mono (by simp)))
                go_wp2_with fail
                go_roundw
                case rel => exact ⟨i + 1, 1, fr2, by omega, by go_num, HAN.out, .inr ⟨rfl, HFN.out⟩, HVN.out⟩
                case measure => simp [intOf]; omega
          · obtain rfl : i = g.length := by omega
            have hz7 := HV.out.size
            by_cases hin : 0 ≤ ask ∧ ask < (g.length : Int)
            · have hg1 : 0 < g.length := by omega
              have d0 : decide (0 ≤ ask) = true := decide_eq_true hin.1
              have d0' : decide (ask ≥ 0) = true := decide_eq_true hin.1
              have d1 : decide (ask < (g.length : Int)) = true := decide_eq_true hin.2
              have HFN := Lib.hid (frontier_any (cleanG g) (cleanG_clean g) (by rw [cleanG_len]; omega) _ tb f d fr ask bask wq HA.out (HTZ.out.upd HUq.out (by simp)) HFR.out)
              clear hin
              go_wp2_with fail
              refine HFN.out.mono ?_
              rintro e w8 ⟨u, fr2, rfl, hO, _, _, hu8⟩
              have HUw8 := Lib.hid (HUq.out.trans' hu8 (fun q hq hl => by simp at hq; omega))
              have HRF := Lib.hid (rfront_any _ g w8 (HH.out.upd HUw8.out) (by omega) HRB.out ask bask)
              have HO := Lib.hid hO
              obtain ⟨fp, fc, rfl⟩ := hO.shape
              clear hO hu8 HFN HA HFR
              go_wp2_with fail
              refine HRF.out.mono ?_
              rintro e w9 ⟨u2, rfl, hO2, hu9⟩
              rw [fr_eq hg1 (HEX.out hg1)] at hO2
              obtain ⟨b1, hib1, _⟩ := HO.out.ints
              obtain ⟨b2, hib2, _⟩ := hO2.ints
              have HS9 := Lib.hid (sints _ _ b1 b2 _ _ w9 (hib1.upd hu9 (.inr (by simp))) hib2 (by have := fronV_len g f ask; omega))
              have HU9 := Lib.hid (HUw8.out.trans hu9)
              obtain ⟨p2, c2, rfl⟩ := hO2.shape
              clear hib1 hib2 hO2 hu9 HRF HO
              go_wp2_with fail
              refine HS9.out.mono ?_
              rintro e w10 ⟨rfl, hu10⟩
              simp only [decide_true]
              go_wp2_with fail
              go_ret
              exact ⟨rfl, HU9.out.trans hu10⟩
            · have hnt : ¬ thereP (cleanG g) ask := fun hh => by
                have h1 := rd_lt (cleanG_clean g) hh.2
                have h2 := hh.1
                rw [cleanG_len] at h1
                exact hin ⟨h2, by omega⟩
              have v1 : fronV (cleanG g) f ask = [] := by
                unfold fronV
                rw [cleanG_len, if_neg hin]
              have v2 : idomV (cleanG g) f ask = -1 := if_neg (fun hh => hnt hh.1)
              have v3 : depV (cleanG g) f ask = 0 := if_neg hnt
              have v4 : kidV (cleanG g) f ask = [] := by
                unfold kidV
                rw [cleanG_len, if_neg hin]
              have v5 : abB (cleanG g) f ask 0 = false := abB_no (fun hh => hnt hh.1)
              have v6 : abB (cleanG g) f 0 ask = false := abB_no (fun hh => hnt hh.2.1)
              have HFN := Lib.hid (frontier_any (cleanG g) (cleanG_clean g) (by rw [cleanG_len]; omega) _ tb f d fr ask bask wq HA.out (HTZ.out.upd HUq.out (by simp)) HFR.out)
              rw [v1] at HFN
              have HV2 := Lib.hid v2
              have HV3 := Lib.hid v3
              have HV4 := Lib.hid v4
              have HV5 := Lib.hid v5
              have HV6 := Lib.hid v6
              clear v1 v2 v3 v4 v5 v6 hnt
              by_cases h0 : 0 ≤ ask
              · have d0 : decide (0 ≤ ask) = true := decide_eq_true h0
                have d0' : decide (ask ≥ 0) = true := decide_eq_true h0
                have d1 : decide (ask < (g.length : Int)) = false := decide_eq_false (fun h => hin ⟨h0, h⟩)
                clear hin
                go_wp2_with fail
                refine HFN.out.mono ?_
                rintro e w8 ⟨u, fr2, rfl, hO, hA8, _, hu8⟩
                have HUw8 := Lib.hid (HUq.out.trans' hu8 (fun q hq hl => by simp at hq; omega))
                have HA8 := Lib.hid hA8
                have HID8 := Lib.hid (idom_any (cleanG g) (cleanG_clean g) (by rw [cleanG_len]; omega) _ tb f _ _ _ _ ask bask w8 hA8.g)
                have HDP8 := Lib.hid (depth_any (cleanG g) (cleanG_clean g) (by rw [cleanG_len]; omega) _ tb f _ _ _ _ ask bask w8 hA8.g)
                have HKD8 := Lib.hid (kids_any (cleanG g) (by rw [cleanG_len]; omega) _ tb f _ _ _ _ ask bask w8 hA8.g)
                rw [HV2.out] at HID8
                rw [HV3.out] at HDP8
                rw [HV4.out] at HKD8
                obtain ⟨fp, fc, rfl⟩ := hO.shape
                clear hO hu8 HFN HA HFR hA8
                go_wp2_with fail
                refine HID8.out.mono ?_
                rintro e w9 ⟨rfl, rfl⟩
                go_wp2_with fail
                refine HDP8.out.mono ?_
                rintro e w10 ⟨rfl, rfl⟩
                go_wp2_with fail
                refine HKD8.out.mono ?_
                rintro e w11 ⟨u, rfl, hO, hu11⟩
                have HU11 := Lib.hid (HUw8.out.trans hu11)
                have HA11 := Lib.hid (HA8.out.low (S := []) hu11 (by simp))
                have HAB1 := Lib.hid (above_q (cleanG g) (cleanG_clean g) (by rw [cleanG_len]; omega) _ tb f _ _ _ _ w11 HA11.out.g ask 0 0 bask (by omega))
                rw [HV5.out] at HAB1
                obtain ⟨kp, kc, rfl⟩ := hO.shape
                clear hO hu11 HKD8
                go_wp2_with fail
                refine Calls.mono (P := Tryd.prog) HAB1.out ?_
                rintro e w12 ⟨rfl, m12, rfl⟩
                have HAB2 := Lib.hid (above_q (cleanG g) (cleanG_clean g) (by rw [cleanG_len]; omega) _ tb f _ _ _ _ w11 HA11.out.g 0 ask m12 (by omega) bask)
                rw [HV6.out] at HAB2
                go_wp2_with fail
                refine HAB2.out.mono ?_
                rintro e w13 ⟨rfl, m13, rfl⟩
                go_wp2_with fail
                go_ret
                exact ⟨rfl, HU11.out.drewN _⟩
              · have d0 : decide (0 ≤ ask) = false := decide_eq_false h0
                have d0' : decide (ask ≥ 0) = false := decide_eq_false h0
                clear hin
                go_wp2_with fail
                refine HFN.out.mono ?_
                rintro e w8 ⟨u, fr2, rfl, hO, hA8, _, hu8⟩
                have HUw8 := Lib.hid (HUq.out.trans' hu8 (fun q hq hl => by simp at hq; omega))
                have HA8 := Lib.hid hA8
                have HID8 := Lib.hid (idom_any (cleanG g) (cleanG_clean g) (by rw [cleanG_len]; omega) _ tb f _ _ _ _ ask bask w8 hA8.g)
                have HDP8 := Lib.hid (depth_any (cleanG g) (cleanG_clean g) (by rw [cleanG_len]; omega) _ tb f _ _ _ _ ask bask w8 hA8.g)
                have HKD8 := Lib.hid (kids_any (cleanG g) (by rw [cleanG_len]; omega) _ tb f _ _ _ _ ask bask w8 hA8.g)
                rw [HV2.out] at HID8
                rw [HV3.out] at HDP8
                rw [HV4.out] at HKD8
                obtain ⟨fp, fc, rfl⟩ := hO.shape
                clear hO hu8 HFN HA HFR hA8
                go_wp2_with fail
                refine HID8.out.mono ?_
                rintro e w9 ⟨rfl, rfl⟩
                go_wp2_with fail
                refine HDP8.out.mono ?_
                rintro e w10 ⟨rfl, rfl⟩
                go_wp2_with fail
                refine HKD8.out.mono ?_
                rintro e w11 ⟨u, rfl, hO, hu11⟩
                have HU11 := Lib.hid (HUw8.out.trans hu11)
                have HA11 := Lib.hid (HA8.out.low (S := []) hu11 (by simp))
                have HAB1 := Lib.hid (above_q (cleanG g) (cleanG_clean g) (by rw [cleanG_len]; omega) _ tb f _ _ _ _ w11 HA11.out.g ask 0 0 bask (by omega))
                rw [HV5.out] at HAB1
                obtain ⟨kp, kc, rfl⟩ := hO.shape
                clear hO hu11 HKD8
                go_wp2_with fail
                refine Calls.mono (P := Tryd.prog) HAB1.out ?_
                rintro e w12 ⟨rfl, m12, rfl⟩
                have HAB2 := Lib.hid (above_q (cleanG g) (cleanG_clean g) (by rw [cleanG_len]; omega) _ tb f _ _ _ _ w11 HA11.out.g 0 ask m12 (by omega) bask)
                rw [HV6.out] at HAB2
                go_wp2_with fail
                refine HAB2.out.mono ?_
                rintro e w13 ⟨rfl, m13, rfl⟩
                go_wp2_with fail
                go_ret
                exact ⟨rfl, HU11.out.drewN _⟩

end Go.Proofs.YtjjkliifpdcliaaDoor
