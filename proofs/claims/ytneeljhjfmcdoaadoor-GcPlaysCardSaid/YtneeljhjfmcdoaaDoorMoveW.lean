/- Heap.Move: the walk. -/
import Derived.Test.YtneeljhjfmcdoaaDoorMoveL
namespace Go.Proofs.YtneeljhjfmcdoaaDoor
open Go.RowKit

/-- What Move answers. -/
def MoveEnd (L : HL) (cv mv : Value) (S : Hp) (all : Bool) (rs : List Int) (w : World) (v : Value) (w' : World) : Prop :=
  (S.gives all < S.asks all rs ∧ v = .tuple #[.slice none 0 0, .bool false] ∧ HpAt w' L cv mv S ∧ Upd [L.hb] w w') ∨
  (S.asks all rs ≤ S.gives all ∧ ∃ sc M bg mb mw u, Done S all rs sc M bg ∧ v = .tuple #[u, .bool true] ∧ OwnI w' w.heap.size 3 u (rs.map (fwL M.mv)) ∧
    HpAt w' { L with mb := mb, mw := mw } cv mv ((S.cx all).after M bg (List.replicate ((S.A.length + 63) / 64) 0)) ∧ w.heap.size ≤ mb ∧ w.heap.size ≤ mw ∧ mb < w'.heap.size ∧ mw < w'.heap.size ∧ Upd [L.hb, L.wb, L.bw] w w')

/-- Ready to move: the mover is made; the space that is moved to is empty, or the old one. -/
structure Ready (w wx : World) (L : HL) (cv mv : Value) (S : Hp) (all : Bool) (q : Nat) : Prop where
  hp : HpAt wx L cv mv S
  mb : wx.heap[q]? = some (.cells #[.pointer (some ⟨L.hb, 0, none⟩), .bool all, .pointer (some ⟨L.hb, 3 + 3 * (S.cx all).tk, none⟩), .pointer none, .slice none 0 0] 130)
  up : Upd [L.hb] w wx

theorem hcells_same (cv mv : Value) (L : HL) (S : Hp) (k : Nat) (hk : k < 3) : (hcells cv mv L S).setIfInBounds (3 + 3 * k + 2) (.int .i64 (S.sp k).top) = hcells cv mv L S := by
  unfold hcells
  have hk' : k = 0 ∨ k = 1 ∨ k = 2 := by omega
  rcases hk' with rfl | rfl | rfl <;> simp [Hp.sp]

set_option maxRecDepth 100000 in
set_option maxHeartbeats 8000000 in
theorem hmove_any (L : HL) (cv mv : Value) (S : Hp) (all : Bool) (p : Option Addr) (cap rb : Nat) (rs : List Int) (w : World) (h : HpAt w L cv mv S) (hI : S.Inv) (hlow : ∀ i ∈ L.all, i < w.heap.size) (hT : TzAt w) (hTL : ∀ i ∈ L.all, i ≠ 1) (hn : rs.length ≤ 100000)
    (hp : rs = [] ∨ p = some ⟨rb, 0, none⟩) (hr : ∀ i, i < rs.length → w.cell? ⟨rb, i, none⟩ = some (.int .i64 (rs.getD i 0))) (hrr : ∀ r ∈ rs, -9223372036854775808 ≤ r ∧ r ≤ 9223372036854775807) (hrb : rb ∉ [L.hb, L.wb, L.bw]) :
    Calls Tryd.prog 40 #[.pointer (some ⟨L.hb, 0, none⟩), .bool all, .slice p rs.length cap] w fun e w' => ∃ v, e = .returned v ∧ MoveEnd L cv mv S all rs w v w' := by
  have hok := h.ok
  have hnow := hok.now
  have HOLD := Lib.hid (old_raw L cv mv S w h.hb hnow)
  have H := Lib.hid h
  have HR := Lib.hid hr
  have HRR := Lib.hid hrr
  have HP := Lib.hid hp
  have HLOW := Lib.hid hlow
  have HTZ := Lib.hid hT
  have HTL := Lib.hid hTL
  have HRB := Lib.hid hrb
  have hlhb := hlow L.hb (by simp [HL.all])
  clear h hr hrr hp hlow hT hTL hrb
  go_enter Tryd.func40, Tryd.ntmps40
  go_wp2_with fail
  refine HOLD.out.mono ?_
  rintro e w0 ⟨rfl, m0, rfl⟩
  have hu0 := (Upd.refl [] w).drewN m0
  go_upto_if 21 with fail
  have hu1 := hu0.alloc (.cells #[.pointer (some ⟨L.hb, 0, none⟩), .bool all, .pointer (some ⟨L.hb, 3 + 3 * S.oldK, none⟩), .pointer none, .slice none 0 0] 130)
  have hq := heap_alloc_new (w.drewN m0) (.cells #[.pointer (some ⟨L.hb, 0, none⟩), .bool all, .pointer (some ⟨L.hb, 3 + 3 * S.oldK, none⟩), .pointer none, .slice none 0 0] 130)
  have hqs : (w.drewN m0).heap.size = w.heap.size := rfl
  rw [hqs] at hq
  have HQ := Lib.hid hq
  have HU1 := Lib.hid hu1
  have HP1 := Lib.hid (H.out.upd0 hu1)
  clear hu1 hq hqs hu0 HOLD
  generalize hw1 : (w.drewN m0).alloc (.cells #[.pointer (some ⟨L.hb, 0, none⟩), .bool all, .pointer (some ⟨L.hb, 3 + 3 * S.oldK, none⟩), .pointer none, .slice none 0 0] 130) = w1 at HQ HU1 HP1 ⊢
  clear hw1
  have hl65 := hok.len
  go_cut [] from 22 to 64 (fun wx => Hid (S.asks all rs ≤ S.gives all) ∧ Hid (Ready w wx L cv mv S all w.heap.size))
  case first =>
    have q2 : w1.cell? ⟨w.heap.size, 2, none⟩ = some (.pointer (some ⟨L.hb, 3 + 3 * S.oldK, none⟩)) := by rw [cell_of HQ.out]; rfl
    have qf2 := froz_of HQ.out 2
    cases all with
    | false =>
      obtain ⟨c0, c1, c2⟩ := sp_cells HP1.out.hb S.oldK (oldK_lt S)
      have hso := hok.sp0 S.oldK
      have hsy := hok.sp0 0
      have h5 := HP1.out.c5
      have h3 := HP1.out.c3
      have HRM : Hid (∀ n, Calls Tryd.prog 52 #[.pointer (some ⟨L.hb, 3 + 3 * S.oldK, none⟩)] (w1.drewN n) fun e w'' => e = .returned (.int .i64 ((S.sp S.oldK).to - (S.sp S.oldK).top)) ∧ ∃ m, w'' = w1.drewN m) := fun n =>
        Calls.quiet_of (room_any L.hb (3 + 3 * S.oldK) _ _ (w1.drewN n) (by omega) (by omega) (by omega) (((Upd.refl [] w1).drewN n).cell c1 (by simp)) (((Upd.refl [] w1).drewN n).cell c2 (by simp)))
      have hy : S.sp 0 = S.y := rfl
      rw [hy] at hsy
      have hsub : IntKind.i64.wrap (S.y.top - S.y.fr) = S.y.top - S.y.fr := by rw [IntWalk.i64_in _ (by omega)]
      have HG : Hid (S.gives false = (S.sp S.oldK).to - (S.sp S.oldK).top) := by show _ = _; unfold Hp.gives; simp
      have HA : Hid (S.asks false rs = S.y.top - S.y.fr) := by show _ = _; unfold Hp.asks; simp
      have HRD : Hid (∀ n, Ready w (w1.drewN n) L cv mv S false w.heap.size) := fun n => ⟨HP1.out.upd0 ((Upd.refl [] w1).drewN n), HQ.out, (HU1.out.mono (T := [L.hb]) (by simp)).drewN n⟩
      clear hy c0 c1 c2 hso hsy
      by_cases hgt : (S.sp S.oldK).to - (S.sp S.oldK).top < S.y.top - S.y.fr
      · have d0 : decide (S.y.top - S.y.fr > (S.sp S.oldK).to - (S.sp S.oldK).top) = true := by simpa using hgt
        go_wp2_with fail
        go_quiet ((go_at_call 52; exact HRM.out _))
        go_wp2_with fail
        go_ret2
        exact ⟨_, rfl, .inl ⟨by rw [HG.out, HA.out]; exact hgt, rfl, (HRD.out _).hp, (HRD.out _).up⟩⟩
      · have d0 : decide (S.y.top - S.y.fr > (S.sp S.oldK).to - (S.sp S.oldK).top) = false := by simpa using hgt
        go_wp2_with fail
        go_quiet ((go_at_call 52; exact HRM.out _))
        go_wp2_with fail
        go_meet
        exact ⟨by show S.asks false rs ≤ S.gives false; rw [HG.out, HA.out]; omega, HRD.out _⟩
    | true =>
      rcases hnow with h0 | h0
      · have HOK1 : Hid (S.oldK = 1) := by show _ = _; unfold Hp.oldK; rw [if_pos h0]
        have c12 := HP1.out.c12
        rw [h0] at c12
        have HTK : Hid ((S.cx true).tk = 2) := by show (if true = true then 3 - S.oldK else S.oldK) = _; rw [HOK1.out]; rfl
        have hhalf : (S.sp 2).top = (S.sp 2).fr := by have := hI.half; unfold Hp.Half at this; rw [HOK1.out] at this; exact this
        have HHALF := Lib.hid hhalf
        have hsk := hok.sp0 2
        clear h0 hhalf
        go_wp2_with fail
        go_region
        all_goals
          have hu2 : Upd [w.heap.size] w1 (w1.setCell ⟨w.heap.size, 2, none⟩ (.pointer (some ⟨L.hb, 9, none⟩))).drew := ((Upd.refl [w.heap.size] w1).setCell (.inl (by simp)) _).drew
          have hq2 := heap_setCell HQ.out 2 (.pointer (some ⟨L.hb, 9, none⟩))
          simp only [List.setIfInBounds_toArray, List.set_cons_zero, List.set_cons_succ] at hq2
          have hq2 : (w1.setCell ⟨w.heap.size, 2, none⟩ (.pointer (some ⟨L.hb, 9, none⟩))).drew.heap[w.heap.size]? = _ := hq2
          generalize (w1.setCell ⟨w.heap.size, 2, none⟩ (.pointer (some ⟨L.hb, 9, none⟩))).drew = w2 at hu2 hq2 ⊢
          have hp2 : HpAt w2 L cv mv S := HP1.out.upd hu2 (fun i hi => by have := HLOW.out i hi; simp; omega)
          obtain ⟨c0, c1, c2⟩ := sp_cells hp2.hb 2 (by omega)
          have q2 : w2.cell? ⟨w.heap.size, 2, none⟩ = some (.pointer (some ⟨L.hb, 9, none⟩)) := by rw [cell_of hq2]; rfl
          have HRS := Lib.hid (reset_any L.hb 9 (S.sp 2).fr _ w2 c0 c2 (froz_of hp2.hb _))
          have HSET : Hid ((w2.setCell ⟨L.hb, 9 + 2, none⟩ (.int .i64 (S.sp 2).fr)).heap[L.hb]? = some (.cells (hcells cv mv L S) 94)) := by
            have h9 := heap_setCell hp2.hb (3 + 3 * 2 + 2) (.int .i64 (S.sp 2).fr)
            rw [← HHALF.out, hcells_same cv mv L S 2 (by omega)] at h9
            rw [← HHALF.out]
            exact h9
          have HU2 := Lib.hid hu2
          have HQ2 := Lib.hid hq2
          have HP2 := Lib.hid hp2
          clear hu2 hq2 hp2 c0 c2
          go_wp2_with fail
          refine HRS.out.mono ?_
          rintro e w3 ⟨rfl, hw3⟩
          have hu3 : Upd [L.hb] w2 w3 := by rw [hw3]; exact (Upd.refl [L.hb] w2).setCell (.inl (by simp)) _
          have hb3 : w3.heap[L.hb]? = some (.cells (hcells cv mv L S) 94) := by rw [hw3]; exact HSET.out
          clear hw3 HSET HRS
          have hne := HL.ne HP2.out.nd
          have nhb : ∀ k ∈ L.all, k ≠ L.hb → k ∉ [L.hb] := fun k _ hk hm => hk (by simpa using hm)
          have hp3 : HpAt w3 L cv mv S := ⟨hb3, HP2.out.ar.upd hu3 (nhb _ (by simp [HL.all]) hne.1.1.symm) (nhb _ (by simp [HL.all]) hne.1.2.1.symm), HP2.out.bg.upd hu3 (nhb _ (by simp [HL.all]) hne.1.2.2.1.symm) (nhb _ (by simp [HL.all]) hne.1.2.2.2.1.symm), HP2.out.mr.upd hu3 (nhb _ (by simp [HL.all]) hne.1.2.2.2.2.1.symm) (nhb _ (by simp [HL.all]) hne.1.2.2.2.2.2.1.symm), HP2.out.cls.upd hu3 (nhb _ (by simp [HL.all]) hne.1.2.2.2.2.2.2.symm), HP2.out.nd, HP2.out.ok⟩
          have hq3 := hu3.heap HQ2.out (by simp; omega)
          have hu03 : Upd [L.hb] w w3 := ((HU1.out.mono (T := [L.hb]) (by simp)).trans' HU2.out (fun q hq hl => by simp at hq; omega)).trans hu3
          have HP3 := Lib.hid hp3
          have HQ3 := Lib.hid hq3
          have HU3 := Lib.hid hu03
          have q2 : w3.cell? ⟨w.heap.size, 2, none⟩ = some (.pointer (some ⟨L.hb, 9, none⟩)) := by rw [cell_of hq3]; rfl
          have q2d := (Upd.refl [] w3).drew.cell q2 (by simp)
          have HRC := Lib.hid (reach_w L cv mv S p cap rb rs w3.drew (hp3.upd0 (Upd.refl [] w3).drew) (fun i hi => Nat.lt_of_lt_of_le (HLOW.out i hi) hu03.size) hI.wide.rng hn HP.out (fun i hi => (Upd.refl [] w3).drew.cell (hu03.cell (HR.out i hi) (by simp; exact fun e => HRB.out (by simp [e]))) (by simp)) HRR.out)
          obtain ⟨_, d1, d2⟩ := sp_cells hp3.hb 2 (by omega)
          have hbd := reach_bd hok rs
          have HG : Hid (S.gives true = (S.sp 2).to - (S.sp 2).fr) := by show _ = _; unfold Hp.gives; rw [if_pos rfl, HOK1.out]
          have HA : Hid (S.asks true rs = sumW S (S.reach rs)) := by show _ = _; unfold Hp.asks; simp
          have HD1 := Lib.hid d1
          have HD2 : Hid (w3.cell? ⟨L.hb, 3 + 3 * 2 + 2, none⟩ = some (.int .i64 (S.sp 2).fr)) := by rw [HHALF.out] at d2; exact d2
          have HRDY : ∀ {w4 : World}, Upd [] w3 w4 → Hid (Ready w w4 L cv mv S true w.heap.size) := fun {w4} hu4 => ⟨HP3.out.upd0 hu4, by rw [HTK.out]; exact hu4.heap HQ3.out (by simp), HU3.out.trans (hu4.mono (T := [L.hb]) (by simp))⟩
          clear hu3 hb3 hp3 hq3 hu03 d1 d2 hsk hne nhb
          go_wp2_with fail
          go_region_held3 (fun w' => w'.cell? ⟨w.heap.size, 2, none⟩ = some (.pointer (some ⟨L.hb, 9, none⟩)))
            (first | exact q2d | exact hk1 | exact hk0 | exact q2)
            ((first
              | (go_at_call 74; refine HRC.out.mono ?_; rintro e w4 ⟨rfl, hu4⟩; have hk0 := hu4.cell q2d (by simp))
              | (go_at_call 52; refine (room_any L.hb 9 (S.sp 2).to (S.sp 2).fr _ (by have := hok.sp0 2; omega) (by have := hok.sp0 2; omega) (by have := hok.sp0 2; omega) (hu4.cell ((Upd.refl [] w3).drew.cell HD1.out (by simp)) (by simp)) (hu4.cell ((Upd.refl [] w3).drew.cell HD2.out (by simp)) (by simp))).mono ?_; rintro e w5 ⟨rfl, m5, rfl⟩; have hk1 := (((Upd.refl [] w4).drewN m5).cell hk0 (by simp)))))
          have hu35 : Upd [] w3 (w4.drewN m5) := ((Upd.refl [] w3).drew.trans hu4).drewN m5
          have HRD5 := HRDY hu35
          clear hu35 hk0 hk1 hu4
          by_cases hgt : (S.sp 2).to - (S.sp 2).fr < sumW S (S.reach rs)
          · have d0 : decide (sumW S (S.reach rs) > (S.sp 2).to - (S.sp 2).fr) = true := by simpa using hgt
            go_wp2_with fail
            go_ret2
            exact ⟨_, rfl, .inl ⟨by rw [HG.out, HA.out]; exact hgt, rfl, HRD5.out.hp, HRD5.out.up⟩⟩
          · have d0 : decide (sumW S (S.reach rs) > (S.sp 2).to - (S.sp 2).fr) = false := by simpa using hgt
            go_wp2_with fail
            go_meet
            exact ⟨by show S.asks true rs ≤ S.gives true; rw [HG.out, HA.out]; omega, HRD5.out⟩
      · have HOK1 : Hid (S.oldK = 2) := by show _ = _; unfold Hp.oldK; rw [if_neg (by omega)]
        have c12 := HP1.out.c12
        rw [h0] at c12
        have HTK : Hid ((S.cx true).tk = 1) := by show (if true = true then 3 - S.oldK else S.oldK) = _; rw [HOK1.out]; rfl
        have hhalf : (S.sp 1).top = (S.sp 1).fr := by have := hI.half; unfold Hp.Half at this; rw [HOK1.out] at this; exact this
        have HHALF := Lib.hid hhalf
        have hsk := hok.sp0 1
        clear h0 hhalf
        go_wp2_with fail
        go_region
        all_goals
          have hu2 : Upd [w.heap.size] w1 (w1.setCell ⟨w.heap.size, 2, none⟩ (.pointer (some ⟨L.hb, 6, none⟩))).drew := ((Upd.refl [w.heap.size] w1).setCell (.inl (by simp)) _).drew
          have hq2 := heap_setCell HQ.out 2 (.pointer (some ⟨L.hb, 6, none⟩))
          simp only [List.setIfInBounds_toArray, List.set_cons_zero, List.set_cons_succ] at hq2
          have hq2 : (w1.setCell ⟨w.heap.size, 2, none⟩ (.pointer (some ⟨L.hb, 6, none⟩))).drew.heap[w.heap.size]? = _ := hq2
          generalize (w1.setCell ⟨w.heap.size, 2, none⟩ (.pointer (some ⟨L.hb, 6, none⟩))).drew = w2 at hu2 hq2 ⊢
          have hp2 : HpAt w2 L cv mv S := HP1.out.upd hu2 (fun i hi => by have := HLOW.out i hi; simp; omega)
          obtain ⟨c0, c1, c2⟩ := sp_cells hp2.hb 1 (by omega)
          have q2 : w2.cell? ⟨w.heap.size, 2, none⟩ = some (.pointer (some ⟨L.hb, 6, none⟩)) := by rw [cell_of hq2]; rfl
          have HRS := Lib.hid (reset_any L.hb 6 (S.sp 1).fr _ w2 c0 c2 (froz_of hp2.hb _))
          have HSET : Hid ((w2.setCell ⟨L.hb, 6 + 2, none⟩ (.int .i64 (S.sp 1).fr)).heap[L.hb]? = some (.cells (hcells cv mv L S) 94)) := by
            have h9 := heap_setCell hp2.hb (3 + 3 * 1 + 2) (.int .i64 (S.sp 1).fr)
            rw [← HHALF.out, hcells_same cv mv L S 1 (by omega)] at h9
            rw [← HHALF.out]
            exact h9
          have HU2 := Lib.hid hu2
          have HQ2 := Lib.hid hq2
          have HP2 := Lib.hid hp2
          clear hu2 hq2 hp2 c0 c2
          go_wp2_with fail
          refine HRS.out.mono ?_
          rintro e w3 ⟨rfl, hw3⟩
          have hu3 : Upd [L.hb] w2 w3 := by rw [hw3]; exact (Upd.refl [L.hb] w2).setCell (.inl (by simp)) _
          have hb3 : w3.heap[L.hb]? = some (.cells (hcells cv mv L S) 94) := by rw [hw3]; exact HSET.out
          clear hw3 HSET HRS
          have hne := HL.ne HP2.out.nd
          have nhb : ∀ k ∈ L.all, k ≠ L.hb → k ∉ [L.hb] := fun k _ hk hm => hk (by simpa using hm)
          have hp3 : HpAt w3 L cv mv S := ⟨hb3, HP2.out.ar.upd hu3 (nhb _ (by simp [HL.all]) hne.1.1.symm) (nhb _ (by simp [HL.all]) hne.1.2.1.symm), HP2.out.bg.upd hu3 (nhb _ (by simp [HL.all]) hne.1.2.2.1.symm) (nhb _ (by simp [HL.all]) hne.1.2.2.2.1.symm), HP2.out.mr.upd hu3 (nhb _ (by simp [HL.all]) hne.1.2.2.2.2.1.symm) (nhb _ (by simp [HL.all]) hne.1.2.2.2.2.2.1.symm), HP2.out.cls.upd hu3 (nhb _ (by simp [HL.all]) hne.1.2.2.2.2.2.2.symm), HP2.out.nd, HP2.out.ok⟩
          have hq3 := hu3.heap HQ2.out (by simp; omega)
          have hu03 : Upd [L.hb] w w3 := ((HU1.out.mono (T := [L.hb]) (by simp)).trans' HU2.out (fun q hq hl => by simp at hq; omega)).trans hu3
          have HP3 := Lib.hid hp3
          have HQ3 := Lib.hid hq3
          have HU3 := Lib.hid hu03
          have q2 : w3.cell? ⟨w.heap.size, 2, none⟩ = some (.pointer (some ⟨L.hb, 6, none⟩)) := by rw [cell_of hq3]; rfl
          have q2d := (Upd.refl [] w3).drew.cell q2 (by simp)
          have HRC := Lib.hid (reach_w L cv mv S p cap rb rs w3.drew (hp3.upd0 (Upd.refl [] w3).drew) (fun i hi => Nat.lt_of_lt_of_le (HLOW.out i hi) hu03.size) hI.wide.rng hn HP.out (fun i hi => (Upd.refl [] w3).drew.cell (hu03.cell (HR.out i hi) (by simp; exact fun e => HRB.out (by simp [e]))) (by simp)) HRR.out)
          obtain ⟨_, d1, d2⟩ := sp_cells hp3.hb 1 (by omega)
          have hbd := reach_bd hok rs
          have HG : Hid (S.gives true = (S.sp 1).to - (S.sp 1).fr) := by show _ = _; unfold Hp.gives; rw [if_pos rfl, HOK1.out]
          have HA : Hid (S.asks true rs = sumW S (S.reach rs)) := by show _ = _; unfold Hp.asks; simp
          have HD1 := Lib.hid d1
          have HD2 : Hid (w3.cell? ⟨L.hb, 3 + 3 * 1 + 2, none⟩ = some (.int .i64 (S.sp 1).fr)) := by rw [HHALF.out] at d2; exact d2
          have HRDY : ∀ {w4 : World}, Upd [] w3 w4 → Hid (Ready w w4 L cv mv S true w.heap.size) := fun {w4} hu4 => ⟨HP3.out.upd0 hu4, by rw [HTK.out]; exact hu4.heap HQ3.out (by simp), HU3.out.trans (hu4.mono (T := [L.hb]) (by simp))⟩
          clear hu3 hb3 hp3 hq3 hu03 d1 d2 hsk hne nhb
          go_wp2_with fail
          go_region_held3 (fun w' => w'.cell? ⟨w.heap.size, 2, none⟩ = some (.pointer (some ⟨L.hb, 6, none⟩)))
            (first | exact q2d | exact hk1 | exact hk0 | exact q2)
            ((first
              | (go_at_call 74; refine HRC.out.mono ?_; rintro e w4 ⟨rfl, hu4⟩; have hk0 := hu4.cell q2d (by simp))
              | (go_at_call 52; refine (room_any L.hb 6 (S.sp 1).to (S.sp 1).fr _ (by have := hok.sp0 1; omega) (by have := hok.sp0 1; omega) (by have := hok.sp0 1; omega) (hu4.cell ((Upd.refl [] w3).drew.cell HD1.out (by simp)) (by simp)) (hu4.cell ((Upd.refl [] w3).drew.cell HD2.out (by simp)) (by simp))).mono ?_; rintro e w5 ⟨rfl, m5, rfl⟩; have hk1 := (((Upd.refl [] w4).drewN m5).cell hk0 (by simp)))))
          have hu35 : Upd [] w3 (w4.drewN m5) := ((Upd.refl [] w3).drew.trans hu4).drewN m5
          have HRD5 := HRDY hu35
          clear hu35 hk0 hk1 hu4
          by_cases hgt : (S.sp 1).to - (S.sp 1).fr < sumW S (S.reach rs)
          · have d0 : decide (sumW S (S.reach rs) > (S.sp 1).to - (S.sp 1).fr) = true := by simpa using hgt
            go_wp2_with fail
            go_ret2
            exact ⟨_, rfl, .inl ⟨by rw [HG.out, HA.out]; exact hgt, rfl, HRD5.out.hp, HRD5.out.up⟩⟩
          · have d0 : decide (sumW S (S.reach rs) > (S.sp 1).to - (S.sp 1).fr) = false := by simpa using hgt
            go_wp2_with fail
            go_meet
            exact ⟨by show S.asks true rs ≤ S.gives true; rw [HG.out, HA.out]; omega, HRD5.out⟩
  case rest =>
    obtain ⟨HRM, HRD⟩ := hcut
    obtain ⟨wq, rfl⟩ : ∃ wq : World, wq = wc := ⟨_, rfl⟩
    have hX := cx_ok hok hI all
    have hRoom := cx_room hok hI HRM.out
    have HX := Lib.hid hX
    have HROOM := Lib.hid hRoom
    have hzc := HRD.out.up.size
    have hqlt := lt_of_heap HRD.out.mb
    have h2 := HRD.out.hp.c2
    have hm := HRD.out.mb
    have q3 : wq.cell? ⟨w.heap.size, 3, none⟩ = some (.pointer none) := by rw [cell_of hm]; rfl
    have qf3 := froz_of hm 3
    have HLN := Lib.hid (len_any L.ab L.wb S.A wq HRD.out.hp.ar)
    have HNW := Lib.hid (bnew S.A.length wq (by omega))
    clear hX hRoom hm hnow
    go_wp2_with fail
    refine HLN.out.mono ?_
    rintro e w' ⟨rfl, rfl⟩
    go_wp2_with fail
    refine HNW.out.mono ?_
    rintro e w2 ⟨rfl, hs2, hu2, hz2⟩
    have q3 := hu2.cell q3 (by simp)
    have hm2 := hu2.heap HRD.out.mb (by simp)
    have qf3 := froz_of hm2 3
    have HS2 := Lib.hid hs2
    have HU2 := Lib.hid hu2
    have HM2 := Lib.hid hm2
    clear hs2 hu2 hm2 HLN HNW h2
    have h3s := heap_setCell HM2.out 3 (.pointer (some ⟨wq.heap.size + 1, 0, none⟩))
    simp only [List.setIfInBounds_toArray, List.set_cons_zero, List.set_cons_succ] at h3s
    have HM3 := Lib.hid h3s
    have hu23 : Upd [w.heap.size] w2 (w2.setCell ⟨w.heap.size, 3, none⟩ (.pointer (some ⟨wq.heap.size + 1, 0, none⟩))) := (Upd.refl _ _).setCell (.inl (by simp)) _
    have hz3 : (w2.setCell ⟨w.heap.size, 3, none⟩ (.pointer (some ⟨wq.heap.size + 1, 0, none⟩))).heap.size = w2.heap.size := by simp
    have HU23 := Lib.hid hu23
    clear h3s hu23
    go_upto_region 10 with fail
    generalize w2.setCell ⟨w.heap.size, 3, none⟩ (.pointer (some ⟨wq.heap.size + 1, 0, none⟩)) = w3 at HM3 HU23 hz3 ⊢
    have hmk := make_lenI w3 rs.length (by omega)
    have hu34 := (Upd.refl [] w3).alloc (.cells (icells (List.replicate rs.length 0)) 3)
    have ho4 := heap_alloc_new w3 (.cells (icells (List.replicate rs.length 0)) 3)
    have hz4 : (w3.alloc (.cells (icells (List.replicate rs.length 0)) 3)).heap.size = w3.heap.size + 1 := by simp
    have HU34 := Lib.hid hu34
    have HO4 := Lib.hid ho4
    have hobe : w3.heap.size = wq.heap.size + 2 := by omega
    have HZ4 : Hid ((w3.alloc (.cells (icells (List.replicate rs.length 0)) 3)).heap.size = wq.heap.size + 3) := by show _ = _; omega
    have HOBE := Lib.hid hobe
    clear hu34 ho4 hz3 hz4 hz2 hobe
    go_wp2_with fail
    clear hmk
    generalize w3.alloc (.cells (icells (List.replicate rs.length 0)) 3) = w4 at HU34 HO4 HZ4 ⊢
    have hob := HOBE.out
    rw [hob] at HO4 ⊢
    have HB4 := HZ4
    have hlA : ∀ i ∈ L.all, i < w.heap.size := HLOW.out
    have hu24 : Upd [w.heap.size] w2 w4 := HU23.out.trans (HU34.out.mono (by simp))
    have hu4 : Upd [w.heap.size] wq w4 := (HU2.out.mono (T := [w.heap.size]) (by simp)).trans hu24
    have hgo : Hid (Going w4 w4 L cv mv S all rs 0 (fun _ _ => false) ⟨S.A, (S.cx all).T0, [], []⟩ w.heap.size (wq.heap.size + 1) wq.heap.size (.slice none 0 0) w4.heap.size (List.replicate ((S.A.length + 63) / 64) 0) (wq.heap.size + 2)) := by
      have hid0 := mid_start (S.cx all)
      have e0 : (S.cx all).S = S := rfl
      rw [e0] at hid0
      refine ⟨⟨?_, HU34.out.heap HM3.out (by simp), ?_, fun x => ?_, OwnI.nil _ _ _, fun i hi => ?_, ?_, ?_⟩, Mv.Ok.start HX.out _, Mv.Wk.start _ _ _ _ _, ?_, by simp, UpB.refl _ _ _⟩
      · rw [hid0]; exact HRD.out.hp.upd hu4 (fun i hi => by have := hlA i hi; simp; omega)
      · exact HS2.out.upd hu24 (by simp; omega) (by simp; omega)
      · rw [bhas_zero]; simp
      · have := hlA i hi; have := HB4.out; omega
      · have := HB4.out; omega
      · refine ⟨fun hm => ?_, fun hm => ?_, fun hm => ?_, by omega, by omega⟩ <;> (have := hlA _ hm; omega)
      · rw [List.take_zero]; exact HO4.out
    have hu04 : Upd [L.hb] w w4 := HRD.out.up.trans' hu4 (fun k hk hl => by simp at hk; omega)
    have HU04 := Lib.hid hu04
    have hzw : w.heap.size ≤ wq.heap.size := hzc
    have hob3 : wq.heap.size + 2 < w4.heap.size := by have := HB4.out; omega
    have HOBN : Hid (wq.heap.size + 2 ∉ L.all ∧ wq.heap.size + 2 ≠ w.heap.size ∧ wq.heap.size + 2 ≠ wq.heap.size + 1 ∧ wq.heap.size + 2 ≠ wq.heap.size) := ⟨fun hm => by have := hlA _ hm; omega, by omega, by omega, by omega⟩
    clear hu24 hu4 hu04 hlA HU34 HO4 hob HM3 HM2 HU2 HS2 HU23 qf3 q3
    generalize hQ : wq.heap.size + 2 = ob at HOBN hob3 hgo ⊢
    generalize hFB : wq.heap.size + 1 = fb at HOBN hgo ⊢
    have HQ1 := Lib.hid hQ
    have HFB1 := Lib.hid hFB
    clear hQ hFB
    go_loopw [79] (fun iv wr => ∃ (i : Nat) (M : Mv) (wv : Value) (fr : List Nat), i ≤ rs.length ∧ iv = .int .i64 i ∧ Hid (Going w4 wr L cv mv S all rs i (fun _ _ => false) M w.heap.size fb wq.heap.size wv w4.heap.size fr ob)) (fun iv _ => rs.length - (intOf iv).toNat)
    case atStart => exact ⟨0, _, _, _, by omega, rfl, hgo.out⟩
    case round =>
      clear hgo
      obtain ⟨i, M, wv, fr, hi, rfl, HG⟩ := hrel
      obtain ⟨wo, rfl⟩ : ∃ wo : World, wo = wr := ⟨_, rfl⟩
      by_cases hlt : i < rs.length
      · have hpp : p = some ⟨rb, 0, none⟩ := by
          rcases HP.out with e | e
          · rw [e] at hlt; simp at hlt
          · exact e
        subst hpp
        have hrc0 := HR.out i hlt
        have hrlt : rb < w.heap.size := World.block_lt_of_cell? w _ hrc0
        have hrbn := HRB.out
        have hrc4 := HU04.out.cell hrc0 (by simp; exact fun e => hrbn (by simp [e]))
        have hw04 := HU04.out.size
        have hrc := HG.out.up.cell hrc4 (by show rb < _; omega) (by
          show rb ∉ _
          simp only [List.mem_cons, List.not_mem_nil, or_false, not_or] at hrbn ⊢
          have := HQ1.out
          exact ⟨hrbn.1, hrbn.2.1, by omega, by omega, by omega⟩)
        have hmem : rs.getD i 0 ∈ rs := by rw [List.getD_eq_getElem?_getD, List.getElem?_eq_getElem hlt]; exact List.getElem_mem hlt
        have HMV := Lib.hid (move_any L cv mv (S.cx all) (S.may all rs) (fun _ _ => false) M w.heap.size fb wq.heap.size wv w4.heap.size fr (rs.getD i 0) wo HX.out HROOM.out HG.out.ok HG.out.at_ (HRR.out _ hmem).2 (fun hf => may_root hok hmem hf) HG.out.up.size (HG.out.wk.few HX.out HG.out.ok))
        have HMVR := Lib.hid (fun (w5 w6 : World) (M' : Mv) (wv' : Value) (fr' : List Nat) hm hw => HG.out.move hok hlt (w5 := w5) (w6 := w6) (M' := M') (wv' := wv') (fr' := fr') hm hob3 HOBN.out hw)
        clear hrc0 hrc4 hmem hrbn
        generalize rs.getD i 0 = r at hrc HMV HMVR
        go_wp2_with fail
        refine HMV.out.mono ?_
        rintro e w5 ⟨M', wv', fr', rfl, hmv⟩
        have hnm : ob ∉ [L.hb, L.wb, w.heap.size, wq.heap.size] := by
          simp only [List.mem_cons, List.not_mem_nil, or_false, not_or]
          have h9 := HOBN.out
          exact ⟨fun e => h9.1 (e ▸ by simp [HL.all]), fun e => h9.1 (e ▸ by simp [HL.all]), h9.2.1, h9.2.2.2⟩
        have ho5 := hmv.up.heap HG.out.out hob3 hnm
        have hoc : ∃ v, w5.cell? ⟨ob, i, none⟩ = some (.int .i64 v) := by
          rw [cell_of ho5]
          refine ⟨_, icells_get _ i ?_⟩
          rw [List.length_append, List.length_map, List.length_take, List.length_replicate]; omega
        obtain ⟨ov, hoc⟩ := hoc
        have hof := froz_of ho5 i
        have HFIN := Lib.hid (HMVR.out w5 _ M' wv' fr' hmv rfl)
        clear hmv ho5 hnm HMVR HMV hrc
        go_wp2_with fail
        go_roundw
        case rel => exact ⟨i + 1, M', wv', fr', by omega, by go_num, HFIN.out⟩
        case measure => simp [intOf]; omega
      · obtain rfl : i = rs.length := by omega
        clear hlt hi
        have hTL := HTL.out
        have HTZW : Hid (∀ wr, UpB w4.heap.size [L.hb, L.wb, w.heap.size, wq.heap.size, ob] w4 wr → TzAt wr) := fun wr hup j hj => hup.cell (HU04.out.cell (HTZ.out j hj) (by simp; exact (hTL _ (by simp [HL.all])).symm)) (by
          have h9 := HTZ.out.lt
          have h8 := HU04.out.size
          show 1 < w4.heap.size
          omega) (by
          have h9 := HTZ.out.lt
          have h8 := HQ1.out
          show 1 ∉ [L.hb, L.wb, w.heap.size, wq.heap.size, ob]
          simp only [List.mem_cons, List.not_mem_nil, or_false, not_or]
          exact ⟨(hTL _ (by simp [HL.all])).symm, (hTL _ (by simp [HL.all])).symm, by omega, by omega, by omega⟩)
        have HTO := Lib.hid (HTZW.out wo HG.out.up)
        clear hTL
        go_upto_if 92 with fail
        go_cut [13] from 93 to 103 (fun v13 wx => ∃ (sc : Int → Nat → Bool) (M : Mv) (wv : Value) (fr : List Nat), Hid (Going w4 wx L cv mv S all rs rs.length sc M w.heap.size fb wq.heap.size wv w4.heap.size fr ob) ∧ Hid (all = false → ∀ r, S.is r = true → bhas S.mr (r - 1).toNat = true → ∀ j : Nat, (j : Int) < S.num r → sc r j = true) ∧ Hid (TzAt wx))
        case first =>
          cases all with
          | true =>
            go_wp2_with fail
            go_meet
            exact ⟨_, M, wv, fr, HG.out, fun h9 => (by cases h9), HTO.out⟩
          | false =>
            go_wp2_with fail
            refine (marked_any L cv mv ((S.cx false).mid M) wo HG.out.at_.hp HTO.out).mono ?_
            rintro e w5 ⟨u, rfl, hown, hu5⟩
            have hown : OwnI w5 wo.heap.size 3 u (plus1 (blist S.mr)) := hown
            have HMM : Hid (∀ r ∈ plus1 (blist S.mr), S.is r = true ∧ S.inY r = false) := fun r hr => marks_mem hI hr
            have HMI : Hid (∀ r, S.is r = true → bhas S.mr (r - 1).toNat = true → r ∈ plus1 (blist S.mr)) := fun r h1 h2 => marks_in h1 h2
            have HND := Lib.hid (marks_nodup S)
            have hms : (plus1 (blist S.mr)).length ≤ 65600 := by
              have h1 := bupto_len S.mr (64 * S.mr.length)
              have h2 := H.out.mr.2.2.2.1
              unfold plus1
              rw [List.length_map]
              unfold blist
              omega
            have HGO5 := Lib.hid (HG.out.upd0 hu5)
            have hwvl : ∀ k, wv.ownBlock = some k → k < wo.heap.size := fun k hk => (World.ownsRow.lt HG.out.at_.wk k hk).2
            have HWVL := Lib.hid hwvl
            have hlows : ∀ k ∈ [L.hb, L.wb, w.heap.size, wq.heap.size], k < wo.heap.size := fun k hk => by
              have h1 := HG.out.at_.lo
              have h2 := HG.out.at_.qB
              have h3 := HG.out.up.size
              have h4 := h1 L.hb (by simp [HL.all])
              have h5 := h1 L.wb (by simp [HL.all])
              simp only [List.mem_cons, List.not_mem_nil, or_false] at hk
              rcases hk with e | e | e | e <;> omega
            have HLOWS := Lib.hid hlows
            generalize plus1 (blist S.mr) = ms at hown HMM HMI HND hms
            obtain ⟨up, ub, uc, rfl, hup, hucell, hubl⟩ : ∃ up ub uc, u = .slice up ms.length uc ∧ (0 < ms.length → up = some ⟨ub, 0, none⟩) ∧ (∀ i, i < ms.length → w5.cell? ⟨ub, i, none⟩ = some (.int .i64 (ms.getD i 0))) ∧ (0 < ms.length → wo.heap.size ≤ ub ∧ ub < w5.heap.size) := by
              rcases hown.form with ⟨h1, h2⟩ | ⟨g, c, h1, h2, h3, h4, h5⟩
              · exact ⟨none, 0, 0, by rw [h1, h2]; rfl, fun h => by rw [h2] at h; simp at h, fun i hi => by rw [h2] at hi; simp at hi, fun h => by rw [h2] at h; simp at h⟩
              · exact ⟨_, g, c, h1, fun _ => rfl, h5, fun _ => ⟨h3, h4⟩⟩
            have HUP := Lib.hid hup
            have HUC := Lib.hid hucell
            have HUB := Lib.hid hubl
            clear hown hup hucell hubl hwvl hlows hu5
            go_wp2_with fail
            go_loopw [13, 96] (fun v13 iv wr => ∃ (k : Nat) (sc : Int → Nat → Bool) (M : Mv) (wv : Value) (fr : List Nat), k ≤ ms.length ∧ iv = .int .i64 k ∧ Hid (Going w4 wr L cv mv S false rs rs.length sc M w.heap.size fb wq.heap.size wv w4.heap.size fr ob) ∧ Hid (∀ r ∈ ms.take k, ∀ j : Nat, (j : Int) < S.num r → sc r j = true) ∧ Hid (∀ b j, sc b j = true → b ∈ ms.take k) ∧ Hid (∀ i, i < ms.length → wr.cell? ⟨ub, i, none⟩ = some (.int .i64 (ms.getD i 0))) ∧ Hid (0 < ms.length → wv.ownBlock ≠ some ub ∧ ub < wr.heap.size)) (fun _ iv _ => ms.length - (intOf iv).toNat)
            case atStart => exact ⟨0, fun _ _ => false, M, wv, fr, by omega, rfl, HGO5.out, (by simp : ∀ r ∈ ms.take 0, _), (by simp : ∀ (b : Int) (j : Nat), false = true → b ∈ ms.take 0), HUC.out, fun h => ⟨fun e => by have := HWVL.out _ e; have := (HUB.out h).1; omega, (HUB.out h).2⟩⟩
            case round =>
              clear HG HGO5 HUC HTO HWVL
              obtain ⟨k, sc, M, wv, fr, hk, rfl, HG, HD, HC, HUC, HWN⟩ := hrel
              obtain ⟨wp, rfl⟩ : ∃ wp : World, wp = wr := ⟨_, rfl⟩
              by_cases hlt : k < ms.length
              · obtain rfl := HUP.out (by omega)
                have huc := HUC.out k hlt
                have hmem : ms.getD k 0 ∈ ms := by rw [List.getD_eq_getElem?_getD, List.getElem?_eq_getElem hlt]; exact List.getElem_mem hlt
                have hno := nodup_take HND.out hlt
                have htk : ms.take (k + 1) = ms.take k ++ [ms.getD k 0] := by rw [List.take_add_one, List.getD_eq_getElem?_getD, List.getElem?_eq_getElem hlt]; rfl
                obtain ⟨his, hiy⟩ := HMM.out _ hmem
                have HNO := Lib.hid hno
                have HTKK := Lib.hid htk
                have HIS := Lib.hid his
                have HIY := Lib.hid hiy
                clear hmem hno htk his hiy
                generalize ms.getD k 0 = r at huc HNO HTKK HIS HIY
                have hfr : (S.cx false).frm r = false := by
                  show (S.is r && (false || S.inY r)) = false
                  rw [HIY.out]; simp
                have himg : M.Img (S.cx false) r r := .inr ⟨HIS.out, hfr, rfl⟩
                have hun : ∀ j, sc r j = false := fun j => by
                  cases hs : sc r j with
                  | false => rfl
                  | true => exact absurd (HC.out r j hs) HNO.out
                have HSC := Lib.hid (scan_any L cv mv (S.cx false) (S.may false rs) sc M w.heap.size fb wq.heap.size wv w4.heap.size fr r r 0 wp HX.out HROOM.out HG.out.ok HG.out.wk HG.out.at_ himg (.inr ⟨HIS.out, hfr, rfl⟩) hun (HG.out.top0 hok) (fun j hj hb hf => may_ref hok (.inr rfl) j hj hb hf) HG.out.up.size)
                have hrb1 := hok.le HIS.out
                clear himg hun hfr
                go_wp2_with fail
                refine HSC.out.mono ?_
                rintro e w7 ⟨M', wv', fr', rfl, hsc⟩
                have HGN := Lib.hid (HG.out.scan (w1 := wp) (M1 := M) (UpB.refl _ _ _) rfl rfl hsc hsc.wk hob3 HOBN.out)
                have hubw := HWN.out (by omega)
                have hubl := (HUB.out (by omega)).1
                have hubn : ub ∉ ([L.hb, L.wb, w.heap.size, wq.heap.size] ++ wv.ownBlock.toList) := fun hm => by
                  rcases List.mem_append.1 hm with hm | hm
                  · have := HLOWS.out _ hm; omega
                  · exact hubw.1 (Option.mem_toList.1 hm)
                have HUCN : Hid (∀ i, i < ms.length → w7.cell? ⟨ub, i, none⟩ = some (.int .i64 (ms.getD i 0))) := fun i hi => hsc.upo.cell (HUC.out i hi) hubn
                have HWNN : Hid (0 < ms.length → wv'.ownBlock ≠ some ub ∧ ub < w7.heap.size) := fun h9 => by
                  have h8 := hsc.up.size
                  refine ⟨fun e => ?_, by omega⟩
                  rcases hsc.own with h7 | ⟨k', h7, h6⟩
                  · exact hubw.1 (h7 ▸ e)
                  · rw [h7] at e
                    injection e with e
                    omega
                have HDN : Hid (∀ x ∈ ms.take (k + 1), ∀ j : Nat, (j : Int) < S.num x → scI sc r (S.num r).toNat x j = true) := fun x hx j hj => by
                  show (sc x j || (decide (x = r) && decide (j < (S.num r).toNat))) = true
                  rw [HTKK.out] at hx
                  rcases List.mem_append.1 hx with hx | hx
                  · rw [HD.out x hx j hj]; rfl
                  · simp only [List.mem_singleton] at hx
                    rw [hx] at hj ⊢
                    rw [decide_eq_true rfl, decide_eq_true (by omega : j < (S.num r).toNat)]; simp
                have HCN : Hid (∀ b j, scI sc r (S.num r).toNat b j = true → b ∈ ms.take (k + 1)) := fun b j hb => by
                  have hb : (sc b j || (decide (b = r) && decide (j < (S.num r).toNat))) = true := hb
                  rw [HTKK.out, List.mem_append]
                  rw [Bool.or_eq_true] at hb
                  rcases hb with hb | hb
                  · exact .inl (HC.out b j hb)
                  · simp only [Bool.and_eq_true, decide_eq_true_eq] at hb
                    right; rw [hb.1]; simp
                clear hsc hubn hubw hubl HSC huc
                go_wp2_with fail
                go_roundw
                case rel => exact ⟨k + 1, _, M', wv', fr', by omega, by go_num, HGN.out, HDN.out, HCN.out, HUCN.out, HWNN.out⟩
                case measure => simp [intOf]; omega
              · obtain rfl : k = ms.length := by omega
                have HMKK : Hid (∀ r, S.is r = true → bhas S.mr (r - 1).toNat = true → ∀ j : Nat, (j : Int) < S.num r → sc r j = true) := fun r h1 h2 j hj => HD.out r (by rw [List.take_length]; exact HMI.out r h1 h2) j hj
                clear hlt hk
                go_wp2_with fail
                go_meet
                exact ⟨sc, M, wv, fr, HG.out, fun _ => HMKK.out, HTZW.out _ HG.out.up⟩
        case rest =>
          obtain ⟨sc, M2, wv2, fr2, HG2, HMK2, HTO2⟩ := hcut
          clear HG HTO
          go_wp2_with fail
          go_loopw [14] (fun v14 wr => ∃ (sc : Int → Nat → Bool) (M : Mv) (wv : Value) (fr : List Nat), Hid (Going w4 wr L cv mv S all rs rs.length sc M w.heap.size fb wq.heap.size wv w4.heap.size fr ob) ∧ Hid (all = false → ∀ r, S.is r = true → bhas S.mr (r - 1).toNat = true → ∀ j : Nat, (j : Int) < S.num r → sc r j = true) ∧ Hid (TzAt wr)) (fun _ wr => mzr L (S.cx all) w.heap.size wr)
          case atStart => exact ⟨sc, M2, wv2, fr2, HG2, HMK2, HTO2⟩
          case round =>
            clear HG2 HMK2 HTO2
            obtain ⟨sc, M, wv, fr, HG, HMK, HTO⟩ := hrel
            obtain ⟨wo, rfl⟩ : ∃ wo : World, wo = wr := ⟨_, rfl⟩
            have q4 : wo.cell? ⟨w.heap.size, 4, none⟩ = some wv := by rw [cell_of HG.out.at_.mb]; rfl
            have qf4 := froz_of HG.out.at_.mb 4
            rcases List.eq_nil_or_concat M.work with hw0 | ⟨l, b, hw0⟩
            · have hwv : ∃ p c, wv = .slice p 0 c := by
                rcases HG.out.at_.wk.form with ⟨h1, h2⟩ | ⟨g, c, h1, _⟩
                · exact ⟨none, 0, h1⟩
                · rw [hw0] at h1; exact ⟨_, c, h1⟩
              obtain ⟨wp, wcap, rfl⟩ := hwv
              have HW0 := Lib.hid hw0
              clear hw0
              go_wp2_with fail
              refine (settle_any L cv mv (S.cx all) (S.may all rs) sc M w.heap.size fb wq.heap.size _ w4.heap.size fr wo HX.out HG.out.ok HG.out.at_ rfl (fun ha => by
                have h9 := hI.half
                unfold Hp.Half at h9
                have ha : all = true := ha
                show (S.sp (if all = true then 3 - S.oldK else S.oldK)).top = (S.sp (if all = true then 3 - S.oldK else S.oldK)).fr
                rw [if_pos ha]; exact h9) HTO.out HTL.out HG.out.up.size).mono ?_
              rintro e w5 ⟨bg, mb, mw, rfl, hset⟩
              have HSET := Lib.hid hset
              clear hset
              go_wp2_with fail
              go_ret2
              have hbelow : ∀ k, k < w.heap.size → k ∈ [L.hb, L.wb, w.heap.size, wq.heap.size, ob] → k ∈ [L.hb, L.wb, L.bw] := fun k hk hm => by
                have h8 := HQ1.out
                simp only [List.mem_cons, List.not_mem_nil, or_false] at hm ⊢
                rcases hm with e | e | e | e | e
                · exact .inl e
                · exact .inr (.inl e)
                · omega
                · omega
                · omega
              have hu4o : Upd [L.hb, L.wb, L.bw] w wo := UpB.upd (HU04.out.mono (T := [L.hb, L.wb, L.bw]) (by intro k hk _; simp at hk; simp [hk])) HG.out.up HU04.out.size (fun k hk hl => hbelow k hl hk)
              have hset := HSET.out
              have hend : (S.cx all).End (S.may all rs) sc M bg := ⟨HX.out, HG.out.ok, HG.out.wk.all HX.out HG.out.ok HW0.out, hset.left, rfl⟩
              have hlenA : M.A.length = S.A.length := HG.out.ok.len
              have hnd := HG.out.at_.hp.nd
              have hne := HL.ne hnd
              have hlA := HLOW.out
              have hszo : w.heap.size ≤ wo.heap.size := hu4o.size
              have hmbl := lt_of_heap hset.mr.1
              have hmwl := lt_of_heap hset.mr.2.1
              have nset : ∀ k, k ≠ L.hb → k ≠ L.bw → k ∉ [L.hb, L.bw] := fun k h1 h2 hm => by simp at hm; rcases hm with e | e; exact h1 e; exact h2 e
              have hnobset : ob ∉ [L.hb, L.bw] := nset ob (fun e => HOBN.out.1 (e ▸ by simp [HL.all])) (fun e => HOBN.out.1 (e ▸ by simp [HL.all]))
              refine ⟨_, rfl, .inr ⟨HRM.out, sc, M, bg, mb, mw, _, ⟨hend, fun r hr hf => HG.out.rts r (by rw [List.take_length]; exact hr) hf, HMK.out⟩, rfl, ?_, ⟨?_, ?_, ?_, ?_, ?_, ?_, after_ok hend⟩, by have := hset.new.1; omega, by have := hset.new.2.1; omega, hmbl, hmwl, hu4o.trans (hset.up.mono (T := [L.hb, L.wb, L.bw]) (by intro k hk _; simp at hk; rcases hk with e | e <;> simp [e]))⟩⟩
              · have ho := hset.up.heap HG.out.out hnobset
                rw [List.take_length, Nat.sub_self, List.replicate_zero, List.append_nil] at ho
                refine ⟨by simp, .inr ⟨ob, rs.length, _, by simp, by have := HQ1.out; omega, ho, by simp, by unfold maxLen; omega, by simp [icells], ?_⟩⟩
                simp [icells]
                rw [List.take_of_length_le (by simp)]
              · have h9 := hset.hb
                rw [left_cells (S.cx all) M cv mv { L with mb := mb, mw := mw } bg (List.replicate ((S.A.length + 63) / 64) 0) hok.now rfl] at h9
                exact h9
              · exact HG.out.at_.hp.ar.upd hset.up (nset _ hne.1.1.symm hne.2.2.1.1.symm) (nset _ hne.1.2.1.symm hne.2.1.2.2.1)
              · show SetAt w5 L.bb L.bw M.A.length bg
                rw [hlenA]; exact hset.bs
              · show SetAt w5 mb mw M.A.length _
                rw [hlenA]; exact hset.mr
              · exact HG.out.at_.hp.cls.upd hset.up (nset _ hne.1.2.2.2.2.2.2.symm hne.2.2.1.2.2.2.2.symm)
              · exact nodup_new hnd (fun k hk => Nat.lt_of_lt_of_le (hlA k hk) hszo) hset.new.1 hset.new.2.1 hset.new.2.2
            · rw [List.concat_eq_append] at hw0
              have hfew := HG.out.wk.few HX.out HG.out.ok
              obtain ⟨g, c, rfl, hlc, hcell⟩ : ∃ g c, wv = .slice (some ⟨g, 0, none⟩) M.work.length c ∧ M.work.length ≤ c ∧ ∀ i, i < M.work.length → wo.cell? ⟨g, i, none⟩ = some (.int .i64 (M.work.getD i 0)) := by
                rcases HG.out.at_.wk.form with ⟨h1, h2⟩ | ⟨g, c, h1, h2, h3, h4, h5⟩
                · rw [hw0] at h2; simp at h2
                · exact ⟨g, c, h1, h2, h5⟩
              have hwl : M.work.length = l.length + 1 := by rw [hw0]; simp
              have hcb := hcell l.length (by omega)
              have hgb : M.work.getD l.length 0 = b := by rw [hw0, List.getD_eq_getElem?_getD, List.getElem?_append_right (Nat.le_refl _)]; simp
              rw [hgb] at hcb
              rw [hwl] at q4 hfew HG hlc
              have HWL := Lib.hid hw0
              clear hcell hgb hwl hw0
              have hcut := fun W => cut_hi W g (l.length + 1) c l.length (by omega)
              have s0 : IntKind.i64.wrap (((l.length + 1 : Nat) : Int) - 1) = (l.length : Int) := by rw [IntWalk.i64_in _ (by omega)]; omega
              have s0b : IntKind.i64.wrap ((l.length : Int) + 1 - 1) = (l.length : Int) := by rw [IntWalk.i64_in _ (by omega)]; omega
              have HCUT := Lib.hid hcut
              clear hcut
              go_wp2_with fail
              go_quiet (fail)
              go_wp2_with fail
              have hcut := HCUT.out
              clear s0 s0b
              go_region
              all_goals
                go_wp2_with fail
                generalize hw6 : (World.setCell _ ⟨w.heap.size, 4, none⟩ (.slice (some ⟨g, 0, none⟩) l.length c)) = w6
                have hu6 : Upd [w.heap.size] wo w6 := by rw [← hw6]; exact ((Upd.refl [w.heap.size] wo).drewN _).setCell (.inl (by simp)) _
                have hm6 := heap_setCell HG.out.at_.mb 4 (.slice (some ⟨g, 0, none⟩) l.length c)
                simp only [List.setIfInBounds_toArray, List.set_cons_zero, List.set_cons_succ] at hm6
                have hm6 : w6.heap[w.heap.size]? = some (.cells #[.pointer (some ⟨L.hb, 0, none⟩), .bool all, .pointer (some ⟨L.hb, 3 + 3 * (S.cx all).tk, none⟩), .pointer (some ⟨fb, 0, none⟩), .slice (some ⟨g, 0, none⟩) l.length c] 130) := by rw [← hw6]; exact hm6
                clear hw6
                have hat6 := HG.out.at_.pop HWL.out hu6 hm6
                obtain ⟨⟨a, ha⟩, hun, _⟩ := HG.out.wk.inn b (by rw [HWL.out]; simp)
                have hwk6 := HG.out.wk.pop HX.out HG.out.ok HWL.out
                have hok6 := HG.out.ok.works l
                have himg : ({ M with work := l } : Mv).Img (S.cx all) a b := .inl ha
                have hmay := (HG.out.ok.frm _ _ ha).2
                refine (scan_any L cv mv (S.cx all) (S.may all rs) sc { M with work := l } w.heap.size fb wq.heap.size (.slice (some ⟨g, 0, none⟩) l.length c) w4.heap.size fr a b b w6 HX.out HROOM.out hok6 hwk6 hat6 himg (.inl rfl) hun (hok6.scn' HX.out himg) (fun j hj hb hf => may_ref hok (.inl hmay) j hj hb hf) (Nat.le_trans HG.out.up.size hu6.size)).mono ?_
                rintro e w7 ⟨M', wv', fr', rfl, hsc⟩
                have hn0 : 0 ≤ S.num a := unN_nonneg _
                have hfin := hsc.wk.fin HX.out hsc.ok (Mv.Img.le hsc.le himg) (fun j hj => by
                  have hj : (j : Int) < S.num a := hj
                  show (sc b j || (decide (b = b) && decide (j < (S.num a).toNat))) = true
                  rw [decide_eq_true rfl, decide_eq_true (by omega : j < (S.num a).toNat)]; simp)
                have hobl : ob < wo.heap.size := lt_of_heap HG.out.out
                have HGO := Lib.hid (HG.out.scan (M1 := { M with work := l }) (hu6.upB (fun k hk _ => by simp at hk; simp [hk])) rfl (hu6.block ob hobl (by simp; exact HOBN.out.2.1)) hsc hfin hob3 HOBN.out)
                have HMKN : Hid (all = false → ∀ r, S.is r = true → bhas S.mr (r - 1).toNat = true → ∀ j : Nat, (j : Int) < S.num r → scI sc b (S.num a).toNat r j = true) := fun h1 r h2 h3 j h4 => by
                  show (sc r j || _) = true
                  rw [HMK.out h1 r h2 h3 j h4]; rfl
                have HLESS : Hid (mzr L (S.cx all) w.heap.size w7 < mzr L (S.cx all) w.heap.size wo) := by
                  show _ < _
                  rw [mzr_eq HX.out.k3 HGO.out.at_, mzr_eq HX.out.k3 HG.out.at_]
                  have h1 := hsc.room
                  have h2 := HG.out.ok.tp
                  have h3 : M.work.length = l.length + 1 := by rw [HWL.out]; simp
                  have h4 : ({ M with work := l } : Mv).top = M.top := rfl
                  have h5 : ({ M with work := l } : Mv).work.length = l.length := rfl
                  rw [h4, h5] at h1
                  omega
                clear hfin hsc himg hok6 hwk6 hat6 ha hun hu6 hm6 hmay hobl hcut hcb q4 qf4 hn0
                go_wp2_with fail
                go_roundw
                case rel => exact ⟨_, M', wv', fr', HGO.out, HMKN.out, HTZW.out _ HGO.out.up⟩
                case measure => exact HLESS.out
end Go.Proofs.YtneeljhjfmcdoaaDoor
