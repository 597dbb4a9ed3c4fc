/- The heap: the walk of lay. -/
import Derived.Test.YtneeljhjfmcdoaaDoorHeap3
import Derived.Deep.RegionWith
namespace Go.Proofs.YtneeljhjfmcdoaaDoor
open Go.RowKit

theorem words_fits {S : Hp} (hS : S.Ok) {k : Nat} {c n : Int} (hk : k < 3) (hw : 1 ≤ S.words c n) (hr : S.words c n ≤ (S.sp k).to - (S.sp k).top) : Fits S k c (S.words c n) := by
  unfold Hp.words at *
  by_cases h : c < -2 ∨ (S.cs.length : Int) ≤ c ∨ c < 0 ∧ (n < 0 ∨ 50 < n)
  · rw [if_pos h] at hw; omega
  · rw [if_neg h] at *
    by_cases h0 : 0 ≤ c
    · rw [if_pos h0] at *
      have hl : c.toNat < S.cs.length := by omega
      have hsm : (S.cs.getD c.toNat ByteArray.empty).size ≤ 10 := by
        rw [List.getD_eq_getElem?_getD, List.getElem?_eq_getElem hl]
        exact hS.small _ (List.getElem_mem hl)
      exact ⟨hk, by omega, by omega, by omega, by omega, fun _ => by omega, hr⟩
    · rw [if_neg h0] at *
      exact ⟨hk, by omega, by omega, by omega, by omega, fun h => absurd h h0, hr⟩

theorem words_zero (S : Hp) (c n : Int) : 0 ≤ S.words c n := by
  unfold Hp.words
  split
  · omega
  · split <;> omega

theorem hcells_laid (cv mv : Value) (L : HL) (S : Hp) (k : Nat) (c wd : Int) (hk : k < 3) : (hcells cv mv L S).setIfInBounds (3 + 3 * k + 2) (.int .i64 ((S.sp k).top + wd)) = hcells cv mv L (S.laid k c wd) := by
  have hk' : k = 0 ∨ k = 1 ∨ k = 2 := by omega
  rcases hk' with rfl | rfl | rfl <;> rfl

theorem sp_cells {w : World} {L : HL} {cv mv : Value} {S : Hp} (h : w.heap[L.hb]? = some (.cells (hcells cv mv L S) 94)) (k : Nat) (hk : k < 3) :
    w.cell? ⟨L.hb, 3 + 3 * k, none⟩ = some (.int .i64 (S.sp k).fr) ∧ w.cell? ⟨L.hb, 3 + 3 * k + 1, none⟩ = some (.int .i64 (S.sp k).to) ∧ w.cell? ⟨L.hb, 3 + 3 * k + 2, none⟩ = some (.int .i64 (S.sp k).top) := by
  rw [cell_of h, cell_of h, cell_of h]
  have hk' : k = 0 ∨ k = 1 ∨ k = 2 := by omega
  rcases hk' with rfl | rfl | rfl <;> exact ⟨rfl, rfl, rfl⟩

set_option maxRecDepth 100000 in
set_option maxHeartbeats 1000000 in
theorem lay_no (L : HL) (cv mv : Value) (S : Hp) (k : Nat) (hk : k < 3) (c n : Int) (w : World) (h : HpAt w L cv mv S) (hno : S.words c n = 0 ∨ (S.sp k).to - (S.sp k).top < S.words c n) :
    Calls Tryd.prog 37 #[.pointer (some ⟨L.hb, 0, none⟩), .pointer (some ⟨L.hb, 3 + 3 * k, none⟩), .int .i64 c, .int .i64 n] w fun e w' => e = .returned (.tuple #[.int .i64 0, .bool false]) ∧ Upd [] w w' := by
  obtain ⟨s0, s1, s2, s3⟩ := h.ok.sp0 k
  have hl := h.ok.len
  have hwz := words_zero S c n
  go_enter Tryd.func37, Tryd.ntmps37
  go_wp2_with fail
  refine (words_any _ _ _ _ _ _ _ h).mono ?_
  rintro e w1 ⟨rfl, hu⟩
  obtain ⟨c0, c1, c2⟩ := sp_cells (h.upd0 hu).hb k hk
  go_wp2_with fail
  refine (take_no _ _ _ _ _ _ (by omega) s2 (by omega) (by omega) c1 c2).mono ?_
  rintro e w2 ⟨rfl, m, rfl⟩
  go_wp2_with fail
  go_ret2
  exact ⟨rfl, hu.drewN _⟩

theorem HL.ne {L : HL} (h : L.all.Nodup) : (L.hb ≠ L.ab ∧ L.hb ≠ L.wb ∧ L.hb ≠ L.bb ∧ L.hb ≠ L.bw ∧ L.hb ≠ L.mb ∧ L.hb ≠ L.mw ∧ L.hb ≠ L.cb) ∧ (L.wb ≠ L.ab ∧ L.wb ≠ L.bb ∧ L.wb ≠ L.bw ∧ L.wb ≠ L.mb ∧ L.wb ≠ L.mw ∧ L.wb ≠ L.cb) ∧
    (L.bw ≠ L.ab ∧ L.bw ≠ L.bb ∧ L.bw ≠ L.mb ∧ L.bw ≠ L.mw ∧ L.bw ≠ L.cb) ∧ (L.mw ≠ L.ab ∧ L.mw ≠ L.bb ∧ L.mw ≠ L.mb ∧ L.mw ≠ L.cb) := by
  simp only [HL.all, List.nodup_cons, List.mem_cons, List.not_mem_nil, or_false, not_or] at h
  obtain ⟨⟨a1, a2, a3, a4, a5, a6, a7⟩, ⟨b1, b2, b3, b4, b5, b6⟩, ⟨c1, c2, c3, c4, c5⟩, ⟨d1, d2, d3, d4⟩, ⟨e1, e2, e3⟩, ⟨f1, f2⟩, g1, _⟩ := h
  exact ⟨⟨a1, a2, a3, a4, a5, a6, a7⟩, ⟨Ne.symm b1, c1, c2, c3, c4, c5⟩, ⟨Ne.symm b3, Ne.symm d1, e1, e2, e3⟩, ⟨Ne.symm b5, Ne.symm d3, Ne.symm f1, g1⟩⟩

theorem add_newI (b g n : Nat) (x : Int) (ws : List Nat) (w : World) (h : SetAt w b g n ws) (h0 : 0 ≤ x) (h1 : x < n) (hno : bhas ws x.toNat = false) :
    Calls Tryd.prog 39 #[.pointer (some ⟨b, 0, none⟩), .int .i64 x] w fun e w' => e = .returned (.bool true) ∧ SetAt w' b g n (badd ws x.toNat) ∧ Upd [g] w w' := by
  obtain ⟨k, rfl⟩ := Int.eq_ofNat_of_zero_le h0
  rw [Int.toNat_natCast] at *
  exact add_new b g n k ws w h (by omega) hno

/-- Half way of laying: the space has been taken from. -/
structure Half (w : World) (L : HL) (cv mv : Value) (S S' : Hp) : Prop where
  hb : w.heap[L.hb]? = some (.cells (hcells cv mv L S') 94)
  ar : ArAt w L.ab L.wb S.A
  bg : SetAt w L.bb L.bw S.A.length S.bg
  mr : SetAt w L.mb L.mw S.A.length S.mr
  cls : ClsAt w cv L.cb L.co S.cs

theorem takeH (L : HL) (cv mv : Value) (S : Hp) (k : Nat) (hk : k < 3) (c wd : Int) (w : World) (h : HpAt w L cv mv S) (h1 : 1 ≤ wd) (h2 : wd ≤ (S.sp k).to - (S.sp k).top) :
    Calls Tryd.prog 68 #[.pointer (some ⟨L.hb, 3 + 3 * k, none⟩), .int .i64 wd] w fun e w' => e = .returned (.tuple #[.int .i64 (S.sp k).top, .bool true]) ∧ Half w' L cv mv S (S.laid k c wd) ∧ Upd [L.hb] w w' := by
  obtain ⟨s0, s1, s2, s3⟩ := h.ok.sp0 k
  have hl := h.ok.len
  obtain ⟨c0, c1, c2⟩ := sp_cells h.hb k hk
  obtain ⟨⟨n1, n2, n3, n4, n5, n6, n7⟩, _⟩ := HL.ne h.nd
  refine (take_yes _ _ _ _ _ _ (by omega) s2 (by omega) h1 h2 c1 c2 (h.fz _)).mono ?_
  rintro e w2 ⟨rfl, m, rfl⟩
  have hu : Upd [L.hb] w ((w.setCell ⟨L.hb, 3 + 3 * k + 2, none⟩ (.int .i64 ((S.sp k).top + wd))).drewN m) := ((Upd.refl _ _).setCell (by simp) _).drewN _
  have hb2 : ((w.setCell ⟨L.hb, 3 + 3 * k + 2, none⟩ (.int .i64 ((S.sp k).top + wd))).drewN m).heap[L.hb]? = some (.cells (hcells cv mv L (S.laid k c wd)) 94) := by
    have := heap_setCell h.hb (3 + 3 * k + 2) (.int .i64 ((S.sp k).top + wd))
    rw [hcells_laid _ _ _ _ _ c _ hk] at this
    exact this
  have m1 : ∀ b, b ≠ L.hb → b ∉ [L.hb] := fun b hb => by simpa using hb
  exact ⟨rfl, ⟨hb2, h.ar.upd hu (m1 _ n1.symm) (m1 _ n2.symm), h.bg.upd hu (m1 _ n3.symm) (m1 _ n4.symm), h.mr.upd hu (m1 _ n5.symm) (m1 _ n6.symm), h.cls.upd hu (m1 _ n7.symm)⟩, hu⟩

set_option maxRecDepth 100000 in
set_option maxHeartbeats 1000000 in
theorem lay_yes (L : HL) (cv mv : Value) (S : Hp) (k : Nat) (hk : k < 3) (c n wd : Int) (w : World) (h : HpAt w L cv mv S) (hwd : Hid (S.words c n = wd)) (hw1 : 1 ≤ wd) (hw2 : wd ≤ (S.sp k).to - (S.sp k).top) :
    Calls Tryd.prog 37 #[.pointer (some ⟨L.hb, 0, none⟩), .pointer (some ⟨L.hb, 3 + 3 * k, none⟩), .int .i64 c, .int .i64 n] w fun e w' => e = .returned (.tuple #[.int .i64 ((S.sp k).top + 1), .bool true]) ∧ HpAt w' L cv mv (S.laid k c wd) ∧ Upd [L.hb, L.wb, L.bw] w w' := by
  obtain ⟨s0, s1, s2, s3⟩ := h.ok.sp0 k
  have hl := h.ok.len
  have hfit : Fits S k c wd := by
    have := words_fits h.ok hk (c := c) (n := n) (by rw [hwd.out]; exact hw1) (by rw [hwd.out]; exact hw2)
    rwa [hwd.out] at this
  have hf1 := hfit.c1
  have hf2 := hfit.c2
  have hf3 := hfit.w1
  have hf4 := hfit.w2
  have hfew := h.ok.few
  have HNE := Lib.hid (HL.ne h.nd)
  go_enter Tryd.func37, Tryd.ntmps37
  go_wp2_with fail
  refine (words_any _ _ _ _ _ _ _ h).mono ?_
  rintro e w1 ⟨rfl, hu⟩
  rw [hwd.out]
  have h1 := h.upd0 hu
  go_wp2_with fail
  refine (takeH _ _ _ _ _ hk c _ _ h1 hw1 hw2).mono ?_
  rintro e w2 ⟨rfl, hH, hu2⟩
  have d2 : w2.cell? ⟨L.hb, 2, none⟩ = some (.pointer (some ⟨L.ab, 0, none⟩)) := by rw [cell_of hH.hb]; rfl
  go_wp2_with fail
  refine (clear_any _ _ _ _ _ _ hH.ar).mono ?_
  rintro e w3 ⟨rfl, hA3, hu3⟩
  have hb3 : w3.heap[L.hb]? = some (.cells (hcells cv mv L (S.laid k c wd)) 94) := hu3.heap hH.hb (by simp; exact HNE.out.1.2.1)
  have d3 : w3.cell? ⟨L.hb, 2, none⟩ = some (.pointer (some ⟨L.ab, 0, none⟩)) := by rw [cell_of hb3]; rfl
  have HB3 := Lib.hid hb3
  clear hb3 d2
  have HP := Lib.hid (fun w => pack_yes c (wd - 2) w hf1 (by omega) (by omega) (by omega))
  have HST := Lib.hid (fun v => store_in _ _ _ (S.sp k).top v w3.drew (hA3.upd ((Upd.refl [] w3).drew) (by simp) (by simp)) (by omega) (by rw [clearL_len]; omega))
  go_wp2_with fail
  have q1 : IntKind.i64.wrap (wd - 2) = wd - 2 := IntWalk.i64_in _ (by omega)
  have q2 : IntKind.i64.wrap (S.sp k).top = (S.sp k).top := IntWalk.i64_in _ (by omega)
  go_region_with (first | (go_at_call 71; refine (HP.out _).mono ?_; rintro e w' ⟨rfl, rfl⟩) | (go_at_call 70; refine (HST.out _).mono ?_; rintro e w4 ⟨rfl, hA4, hu4⟩))
  all_goals
    have hu24 : Upd [L.wb] w2 w4 := hu3.trans (((Upd.refl [L.wb] w3).drew).trans hu4)
    have hb4 : w4.heap[L.hb]? = some (.cells (hcells cv mv L (S.laid k c wd)) 94) := hu24.heap hH.hb (by simp; exact HNE.out.1.2.1)
    have d4 : w4.cell? ⟨L.hb, 13, none⟩ = some (.pointer (some ⟨L.bb, 0, none⟩)) := by rw [cell_of hb4]; rfl
    have HB4 := Lib.hid hb4
    have hS4 : SetAt w4 L.bb L.bw S.A.length S.bg := hH.bg.upd hu24 (by simp; exact Ne.symm HNE.out.2.1.2.1) (by simp; exact Ne.symm HNE.out.2.1.2.2.1)
    have hM4 : SetAt w4 L.mb L.mw S.A.length S.mr := hH.mr.upd hu24 (by simp; exact Ne.symm HNE.out.2.1.2.2.2.1) (by simp; exact Ne.symm HNE.out.2.1.2.2.2.2.1)
    have hC4 : ClsAt w4 cv L.cb L.co S.cs := hH.cls.upd hu24 (by simp; exact Ne.symm HNE.out.2.1.2.2.2.2.2)
    have hu14 : Upd [L.hb, L.wb, L.bw] w w4 := ((hu.mono (T := [L.hb, L.wb, L.bw]) (by simp)).trans (hu2.mono (by simp))).trans (hu24.mono (by simp))
    clear hb4 d3 q1 q2
    go_wp2_with fail
    refine (add_newI _ _ _ _ _ _ hS4 (by omega) (by omega) (laid_new h.ok hfit)).mono ?_
    rintro e w5 ⟨rfl, hS5, hu5⟩
    have h5 : HpAt w5 L cv mv (S.laid k c wd) := by
      obtain ⟨⟨n1, n2, n3, n4, n5, n6, n7⟩, ⟨p1, p2, p3, p4, p5, p6⟩, ⟨r1, r2, r3, r4, r5⟩, _⟩ := HNE.out
      have m1 : ∀ b, b ≠ L.bw → b ∉ [L.bw] := fun b hb => by simpa using hb
      refine ⟨hu5.heap HB4.out (m1 _ n4), ?_, ?_, ?_, ?_, h.nd, laid_ok h.ok hfit h.bg.2.2.2.1⟩
      · exact hA4.upd hu5 (m1 _ (Ne.symm r1)) (m1 _ p3)
      · rw [laid_len]; exact hS5
      · rw [laid_len, laid_mr]; exact hM4.upd hu5 (m1 _ (Ne.symm r3)) (m1 _ (Ne.symm r4))
      · rw [laid_cs]; exact hC4.upd hu5 (m1 _ (Ne.symm r5))
    have hu15 : Upd [L.hb, L.wb, L.bw] w w5 := hu14.trans (hu5.mono (by simp))
    clear hS5 hu5 hS4 hM4 hC4 hu14 hu24 hA4 hA3 hu4 hu3
    go_wp2_with fail
    go_ret2
    exact ⟨rfl, h5, hu15⟩

end Go.Proofs.YtneeljhjfmcdoaaDoor
