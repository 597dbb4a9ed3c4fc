/- GcNone: the walk. -/
import Derived.Test.YtneeljhjfmcdoaaDoorMake
namespace Go.Proofs.YtneeljhjfmcdoaaDoor
open Go.RowKit

theorem r1_facts : R1.y = ⟨0, 20, 4⟩ ∧ R1.old = ⟨20, 110, 20⟩ ∧ R1.cs = [IR] ∧ R1.is 1 = true ∧ R1.inY 1 = true := by
  refine ⟨by rfl, by rfl, by rfl, by decide +kernel, by decide +kernel⟩
theorem r1_words (c n : Int) : R1.words c n = if c < -2 ∨ 1 ≤ c ∨ c < 0 ∧ (n < 0 ∨ 50 < n) then 0 else if 0 ≤ c then 4 else 2 + n := by
  unfold Hp.words
  rw [r1_facts.2.2.1]
  by_cases h : c < -2 ∨ 1 ≤ c ∨ c < 0 ∧ (n < 0 ∨ 50 < n)
  · rw [if_pos (by simpa using h), if_pos h]
  · rw [if_neg (by simpa using h), if_neg h]
    by_cases h0 : 0 ≤ c
    · obtain rfl : c = 0 := by omega
      rfl
    · rw [if_neg h0, if_neg h0]
theorem none_made {c n r : Int} {rs' : List Int} {is : Bool} {S' : Hp} (h : Made R1 c n [1] r rs' is S') :
    (R1.words c n < 1 → is = false ∧ r = 0 ∧ S' = R1) ∧ (1 ≤ R1.words c n → is = true ∧ 0 < r ∧ rs'.length = 1) := by
  obtain ⟨fy, fo, fc, _, _⟩ := r1_facts
  have hw52 : R1.words c n ≤ 52 := by rw [r1_words]; split; omega; split <;> omega
  have hs0 : R1.sp 0 = R1.y := rfl
  have hso : R1.sp R1.oldK = R1.old := sp_oldK
  have noroom : R1.room (R1.layAt c n) c n = false → 1 ≤ R1.words c n → R1.words c n ≤ 20 ∧ ¬ (R1.y.to - R1.y.fr < R1.words c n ∨ R1.gives false < R1.asks false [1]) := fun hr h1 => by
    have ha : R1.asks false [1] = 4 := by show (if false = true then _ else R1.y.top - R1.y.fr) = 4; rw [fy]; rfl
    have hg : R1.gives false = 90 := by show (if false = true then _ else (R1.sp R1.oldK).to - (R1.sp R1.oldK).top) = 90; rw [hso, fo]; rfl
    rw [ha, hg, fy]
    unfold Hp.room Hp.layAt at hr
    rw [decide_eq_false_iff_not] at hr
    by_cases hle : R1.words c n ≤ 20
    · exact ⟨hle, by simp; omega⟩
    · rw [fy, if_neg (by simp; omega), hso, fo] at hr
      simp at hr
      omega
  cases h with
  | none h => exact ⟨fun _ => ⟨rfl, rfl, rfl⟩, fun h1 => by omega⟩
  | room h hr =>
    refine ⟨fun h1 => by omega, fun _ => ⟨rfl, ?_, rfl⟩⟩
    unfold Hp.layR
    rw [if_pos hr]
    unfold Hp.layAt
    split
    · rw [hs0, fy]; decide
    · rw [hso, fo]; decide
  | minor h hr hw sc M bg hg hd =>
    have hy : (R1.left false M bg).y = { R1.y with top := R1.y.fr } := after_y hd.fin
    have hcs : (R1.left false M bg).cs = R1.cs := rfl
    have hwd : (R1.left false M bg).words c n = R1.words c n := by unfold Hp.words; rw [hcs]
    have hrm : (R1.left false M bg).room 0 c n = true := by
      unfold Hp.room
      rw [hwd, show (R1.left false M bg).sp 0 = (R1.left false M bg).y from rfl, hy, fy]
      rw [fy] at hw
      simp only [decide_eq_true_eq]
      simp at hw
      omega
    refine ⟨fun h1 => by omega, fun _ => ⟨hrm, ?_, by simp⟩⟩
    unfold Hp.layR
    rw [if_pos hrm, show (R1.left false M bg).sp 0 = (R1.left false M bg).y from rfl, hy, fy]
    decide
  | major h hr hw => exact absurd hw (noroom hr h).2
  | fail h hr hw => exact absurd hw (noroom hr h).2

set_option maxRecDepth 100000 in
set_option maxHeartbeats 4000000 in
theorem noneW_any (c n : Int) (w : World) (hT : TzAt w) : Calls Tryd.prog 7 #[.int .i64 c, .int .i64 n] w fun e w' => e = .returned (.bool true) ∧ Upd [] w w' := by
  have HF := Lib.hid (first12_any w hT)
  have HT := Lib.hid hT
  clear hT
  go_enter Tryd.func7, Tryd.ntmps7
  go_wp2_with fail
  refine HF.out.mono ?_
  rintro e wz ⟨rfl, huz⟩
  have HUZ := Lib.hid huz
  have HRA := Lib.hid (ring_any wz (HT.out.upd huz (by simp)))
  have HTZ := Lib.hid (HT.out.upd huz (by simp))
  clear huz HF
  go_wp2_with fail
  refine HRA.out.mono ?_
  rintro e w1 ⟨L, cv, mv, pa, pm, rfl, hn⟩
  have HG := Lib.hid (hn.gc HTZ.out)
  clear hn HRA
  go_wp2_with fail
  have HG1 := Lib.hid (HG.out.upd ((Upd.refl [] w1).alloc (.cells #[.slice pa 1 1, .slice pm 1 1] 28)))
  have hk1 := heap_alloc_new w1 (.cells #[.slice pa 1 1, .slice pm 1 1] 28)
  have hpn : w1.heap.size ∉ L.own := fun hm => by have := HG.out.hi _ (HL.sub hm); omega
  generalize w1.alloc (.cells #[.slice pa 1 1, .slice pm 1 1] 28) = w2 at HG1 hk1 ⊢
  have HC := Lib.hid (gyoung HG1.out 0 0)
  rw [show (Hp.new [IR] 200 20).layR 0 0 0 = 1 from r0_lay.1, show (Hp.new [IR] 200 20).room 0 0 0 = true from r0_lay.2] at HC
  refine HC.out.mono ?_
  rintro e w3 ⟨rfl, hg, hu3⟩
  have HG2 : Hid (GcAt wz w3 L cv mv R1) := hg
  have hk3 := hu3.heap hk1 hpn
  clear hg HG HG1 HC hu3 hk1
  go_wp2_with fail
  have HG3 := Lib.hid (HG2.out.upd ((Upd.refl [] w3).alloc (.cells #[.int .i64 1] 3)))
  have hcn := cell_of (heap_alloc_new w3 (.cells #[.int .i64 1] 3))
  have hk4 := ((Upd.refl [] w3).alloc (.cells #[.int .i64 1] 3)).heap hk3 (by simp)
  have HC := Lib.hid (make_any wz L cv mv R1 c n (some ⟨w3.heap.size, 0, none⟩) 1 w3.heap.size [1] _ HG3.out (by simp) (.inr rfl) (fun i hi => by
    obtain rfl : i = 0 := by simpa using hi
    rw [hcn]; rfl) (fun r hr => by simp at hr; omega))
  clear hcn hk3
  refine HC.out.mono ?_
  rintro e w5 ⟨v, L', r, rs', is, S', u, rfl, hme⟩
  obtain ⟨rfl, hown, hmade, hg5, hb5, hs5, hu5⟩ := hme
  have hk5 := hu5.heap hk4 hpn
  have hc5 : w5.cell? ⟨w1.heap.size, 0, none⟩ = some (.slice pa 1 1) := by rw [cell_of hk5]; rfl
  obtain ⟨p5, c5, rfl⟩ := ownI_shape hown
  have HNM := Lib.hid (none_made hmade)
  have HWD := Lib.hid (r1_words c n)
  have HG5 := Lib.hid hg5
  have HB := Lib.hid hb5
  have HU5 := Lib.hid (HUZ.out.trans hg5.up)
  clear HC hown hmade hg5 hs5 hu5 hk4 hk5 hb5 HG2 HG3 hpn
  by_cases a1 : c < -2
  · have d1 : decide (c ≥ -2) = false := decide_eq_false (by omega)
    have d1' : decide (-2 ≤ c) = false := decide_eq_false (by omega)
    obtain ⟨rfl, rfl, rfl⟩ := HNM.out.1 (by rw [HWD.out, if_pos (by omega)]; omega)
    have HIS := Lib.hid (is_any L' cv mv R1 1 w5 HG5.out.hp (by omega))
    rw [HB.out, r1_facts.2.2.2.1, if_pos rfl, if_pos rfl] at HIS
    clear HNM HWD
    go_wp2_with fail
    refine HIS.out.mono ?_
    rintro e w6 ⟨rfl, rfl⟩
    go_wp2_with fail
    have HRO := Lib.hid (hroom_any L' cv mv R1 w5 HG5.out.hp)
    rw [HB.out, show R1.y.to - R1.y.top = 16 by rw [r1_facts.1]; rfl] at HRO
    refine HRO.out.mono ?_
    rintro e w6' ⟨rfl, n6, hw6⟩
    have hu6 := (Upd.refl [] w5).drewN n6
    rw [← hw6] at hu6
    obtain ⟨w6, rfl⟩ : ∃ w6 : World, w6 = w6' := ⟨_, rfl⟩
    clear hw6
    have HIY := Lib.hid (inYoung_any L' cv mv R1 1 w6 (HG5.out.hp.upd0 hu6) (by omega))
    rw [HB.out, r1_facts.2.2.2.2] at HIY
    have HU6 := Lib.hid (HU5.out.trans hu6)
    clear hu6 HIS HRO
    go_wp2_with fail
    refine HIY.out.mono ?_
    rintro e w7 ⟨rfl, rfl⟩
    go_wp2_with fail
    go_ret
    exact ⟨rfl, HU6.out⟩
  · have d1 : decide (c ≥ -2) = true := decide_eq_true (by omega)
    have d1' : decide (-2 ≤ c) = true := decide_eq_true (by omega)
    by_cases a2 : 1 ≤ c
    · have d2 : decide (c < 1) = false := decide_eq_false (by omega)
      obtain ⟨rfl, rfl, rfl⟩ := HNM.out.1 (by rw [HWD.out, if_pos (by omega)]; omega)
      have HIS := Lib.hid (is_any L' cv mv R1 1 w5 HG5.out.hp (by omega))
      rw [HB.out, r1_facts.2.2.2.1, if_pos rfl, if_pos rfl] at HIS
      clear HNM HWD
      go_wp2_with fail
      refine HIS.out.mono ?_
      rintro e w6 ⟨rfl, rfl⟩
      go_wp2_with fail
      have HRO := Lib.hid (hroom_any L' cv mv R1 w5 HG5.out.hp)
      rw [HB.out, show R1.y.to - R1.y.top = 16 by rw [r1_facts.1]; rfl] at HRO
      refine HRO.out.mono ?_
      rintro e w6' ⟨rfl, n6, hw6⟩
      have hu6 := (Upd.refl [] w5).drewN n6
      rw [← hw6] at hu6
      obtain ⟨w6, rfl⟩ : ∃ w6 : World, w6 = w6' := ⟨_, rfl⟩
      clear hw6
      have HIY := Lib.hid (inYoung_any L' cv mv R1 1 w6 (HG5.out.hp.upd0 hu6) (by omega))
      rw [HB.out, r1_facts.2.2.2.2] at HIY
      have HU6 := Lib.hid (HU5.out.trans hu6)
      clear hu6 HIS HRO
      go_wp2_with fail
      refine HIY.out.mono ?_
      rintro e w7 ⟨rfl, rfl⟩
      go_wp2_with fail
      go_ret
      exact ⟨rfl, HU6.out⟩
    · have d2 : decide (c < 1) = true := decide_eq_true (by omega)
      by_cases a3 : 0 ≤ c
      · have d3 : decide (c ≥ 0) = true := decide_eq_true (by omega)
        have d3' : decide (0 ≤ c) = true := decide_eq_true (by omega)
        obtain ⟨rfl, hr0, hl1⟩ := HNM.out.2 (by rw [HWD.out, if_neg (by omega)]; split <;> omega)
        have dr : decide (r > 0) = true := decide_eq_true hr0
        rw [hl1]
        clear HNM HWD hr0 hl1
        go_wp2_with fail
        go_ret
        exact ⟨rfl, HU5.out⟩
      · have d3 : decide (c ≥ 0) = false := decide_eq_false (by omega)
        have d3' : decide (0 ≤ c) = false := decide_eq_false (by omega)
        by_cases a4 : n < 0
        · have d4 : decide (n ≥ 0) = false := decide_eq_false (by omega)
          have d4' : decide (0 ≤ n) = false := decide_eq_false (by omega)
          obtain ⟨rfl, rfl, rfl⟩ := HNM.out.1 (by rw [HWD.out, if_pos (by omega)]; omega)
          have HIS := Lib.hid (is_any L' cv mv R1 1 w5 HG5.out.hp (by omega))
          rw [HB.out, r1_facts.2.2.2.1, if_pos rfl, if_pos rfl] at HIS
          clear HNM HWD
          go_wp2_with fail
          refine HIS.out.mono ?_
          rintro e w6 ⟨rfl, rfl⟩
          go_wp2_with fail
          have HRO := Lib.hid (hroom_any L' cv mv R1 w5 HG5.out.hp)
          rw [HB.out, show R1.y.to - R1.y.top = 16 by rw [r1_facts.1]; rfl] at HRO
          refine HRO.out.mono ?_
          rintro e w6' ⟨rfl, n6, hw6⟩
          have hu6 := (Upd.refl [] w5).drewN n6
          rw [← hw6] at hu6
          obtain ⟨w6, rfl⟩ : ∃ w6 : World, w6 = w6' := ⟨_, rfl⟩
          clear hw6
          have HIY := Lib.hid (inYoung_any L' cv mv R1 1 w6 (HG5.out.hp.upd0 hu6) (by omega))
          rw [HB.out, r1_facts.2.2.2.2] at HIY
          have HU6 := Lib.hid (HU5.out.trans hu6)
          clear hu6 HIS HRO
          go_wp2_with fail
          refine HIY.out.mono ?_
          rintro e w7 ⟨rfl, rfl⟩
          go_wp2_with fail
          go_ret
          exact ⟨rfl, HU6.out⟩
        · have d4 : decide (n ≥ 0) = true := decide_eq_true (by omega)
          have d4' : decide (0 ≤ n) = true := decide_eq_true (by omega)
          by_cases a5 : 50 < n
          · have d5 : decide (n ≤ 50) = false := decide_eq_false (by omega)
            obtain ⟨rfl, rfl, rfl⟩ := HNM.out.1 (by rw [HWD.out, if_pos (by omega)]; omega)
            have HIS := Lib.hid (is_any L' cv mv R1 1 w5 HG5.out.hp (by omega))
            rw [HB.out, r1_facts.2.2.2.1, if_pos rfl, if_pos rfl] at HIS
            clear HNM HWD
            go_wp2_with fail
            refine HIS.out.mono ?_
            rintro e w6 ⟨rfl, rfl⟩
            go_wp2_with fail
            have HRO := Lib.hid (hroom_any L' cv mv R1 w5 HG5.out.hp)
            rw [HB.out, show R1.y.to - R1.y.top = 16 by rw [r1_facts.1]; rfl] at HRO
            refine HRO.out.mono ?_
            rintro e w6' ⟨rfl, n6, hw6⟩
            have hu6 := (Upd.refl [] w5).drewN n6
            rw [← hw6] at hu6
            obtain ⟨w6, rfl⟩ : ∃ w6 : World, w6 = w6' := ⟨_, rfl⟩
            clear hw6
            have HIY := Lib.hid (inYoung_any L' cv mv R1 1 w6 (HG5.out.hp.upd0 hu6) (by omega))
            rw [HB.out, r1_facts.2.2.2.2] at HIY
            have HU6 := Lib.hid (HU5.out.trans hu6)
            clear hu6 HIS HRO
            go_wp2_with fail
            refine HIY.out.mono ?_
            rintro e w7 ⟨rfl, rfl⟩
            go_wp2_with fail
            go_ret
            exact ⟨rfl, HU6.out⟩
          · have d5 : decide (n ≤ 50) = true := decide_eq_true (by omega)
            obtain ⟨rfl, hr0, hl1⟩ := HNM.out.2 (by rw [HWD.out, if_neg (by omega)]; split <;> omega)
            have dr : decide (r > 0) = true := decide_eq_true hr0
            rw [hl1]
            clear HNM HWD hr0 hl1
            go_wp2_with fail
            go_ret
            exact ⟨rfl, HU5.out⟩
end Go.Proofs.YtneeljhjfmcdoaaDoor
