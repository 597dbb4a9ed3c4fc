/- settle's closure: a space is emptied; which half is used, raw. settle: the walk. -/
import Derived.Test.YtneeljhjfmcdoaaDoorScanW
/-! settle's closure: a space is emptied; which half is used, raw. -/
namespace Go.Proofs.YtneeljhjfmcdoaaDoor
open Go.RowKit

theorem setSp_get (S : Hp) (k j : Nat) (s : Spc) (hk : k < 3) (hj : j < 3) : (S.setSp k s).sp j = if j = k then s else S.sp j := setSp_sp S k j s hk hj

set_option maxRecDepth 100000 in
set_option maxHeartbeats 2000000 in
theorem drop_space (L : HL) (cv mv : Value) (S : Hp) (k n xb : Nat) (bg : List Nat) (w : World) (hk : k < 3) (hb : w.heap[L.hb]? = some (.cells (hcells cv mv L S) 94)) (hs : SetAt w L.bb L.bw n bg)
    (h0 : 0 ≤ (S.sp k).fr) (h1 : (S.sp k).fr ≤ (S.sp k).top) (h2 : (S.sp k).top ≤ 65536) (hx : w.cell? ⟨xb, 0, none⟩ = some (.pointer (some ⟨L.hb, 0, none⟩))) (hxn : xb ≠ L.bw ∧ L.hb ≠ L.bw ∧ L.hb ≠ L.bb) :
    Calls Tryd.prog 88 #[.pointer (some ⟨L.hb, 3 + 3 * k, none⟩), .pointer (some ⟨xb, 0, none⟩)] w fun e w' => e = .returned (.tuple #[]) ∧ ∃ bg', w'.heap[L.hb]? = some (.cells (hcells cv mv L (S.setSp k { S.sp k with top := (S.sp k).fr })) 94) ∧ SetAt w' L.bb L.bw n bg' ∧
      (∀ p : Nat, bhas bg' p = (bhas bg p && !decide ((S.sp k).fr ≤ (p : Int) ∧ (p : Int) < (S.sp k).top))) ∧ Upd [L.hb, L.bw] w w' := by
  obtain ⟨c0, c1, c2⟩ := sp_cells hb k hk
  have c13 : w.cell? ⟨L.hb, 13, none⟩ = some (.pointer (some ⟨L.bb, 0, none⟩)) := by rw [cell_of hb]; rfl
  have HB := Lib.hid hb
  have HS := Lib.hid hs
  have HX := Lib.hid hxn
  have hcN : Hid ((hcells cv mv L S).setIfInBounds (3 + 3 * k + 2) (.int .i64 (S.sp k).fr) = hcells cv mv L (S.setSp k { S.sp k with top := (S.sp k).fr })) := by
    show _ = _
    unfold hcells
    have hk' : k = 0 ∨ k = 1 ∨ k = 2 := by omega
    rcases hk' with rfl | rfl | rfl <;> simp [Hp.setSp, Hp.sp]
  have HSP := Lib.hid (setSp_get S k)
  clear hb hs hxn
  generalize (S.sp k).fr = f at *
  generalize (S.sp k).top = t at *
  go_enter Tryd.func88, Tryd.ntmps88
  go_wp2_with fail
  go_loopw [3] (fun iv wr => ∃ (i : Int) (bg' : List Nat), f ≤ i ∧ i ≤ t ∧ iv = .int .i64 i ∧ Hid (SetAt wr L.bb L.bw n bg') ∧ Hid (∀ p : Nat, bhas bg' p = (bhas bg p && !decide (f ≤ (p : Int) ∧ (p : Int) < i))) ∧ Hid (Upd [L.bw] w wr)) (fun iv _ => (t - intOf iv).toNat)
  case atStart => exact ⟨f, bg, Int.le_refl _, h1, rfl, HS.out, (fun p => by rw [decide_eq_false (by omega)]; simp : ∀ _, _), Upd.refl _ _⟩
  case round =>
    obtain ⟨i, bg', hi1, hi2, rfl, HSS, HP, HU⟩ := hrel
    obtain ⟨wo, rfl⟩ : ∃ wo : World, wo = wr := ⟨_, rfl⟩
    have c0 := HU.out.cell c0 (by simp; exact HX.out.2.1)
    have c2 := HU.out.cell c2 (by simp; exact HX.out.2.1)
    have c13 := HU.out.cell c13 (by simp; exact HX.out.2.1)
    have hx := HU.out.cell hx (by simp; exact HX.out.1)
    by_cases hlt : i < t
    · have HD := Lib.hid (drop_any L.bb L.bw n i bg' wo HSS.out)
      go_wp2_with fail
      refine HD.out.mono ?_
      rintro e w2 ⟨bg2, rfl, hs2, hp2, hu2⟩
      have HS2 := Lib.hid hs2
      have HU2 := Lib.hid (HU.out.trans hu2)
      have HP2 : Hid (∀ p : Nat, bhas bg2 p = (bhas bg p && !decide (f ≤ (p : Int) ∧ (p : Int) < i + 1))) := by
        show ∀ p : Nat, _
        intro p
        rw [hp2, HP.out, Bool.and_assoc, ← Bool.not_or]
        congr 2
        rw [Bool.eq_iff_iff]
        simp; omega
      clear hs2 hu2 hp2
      go_wp2_with fail
      go_roundw
      case rel => exact ⟨i + 1, bg2, by omega, by omega, by go_num, HS2.out, HP2.out, HU2.out⟩
      case measure => simp [intOf]; omega
    · obtain rfl : i = t := by omega
      have hb2 := HU.out.heap HB.out (by simp; exact HX.out.2.1)
      have hf := froz_of hb2 (3 + 3 * k + 2)
      have HRE := Lib.hid (reset_any L.hb (3 + 3 * k) f _ wo c0 c2 hf)
      have HFB := Lib.hid (heap_setCell hb2 (3 + 3 * k + 2) (.int .i64 f))
      clear hb2 hf
      go_wp2_with fail
      refine HRE.out.mono ?_
      rintro e w2 ⟨rfl, rfl⟩
      go_wp2_with fail
      go_end0
      refine ⟨rfl, bg', ?_, HSS.out.upd ((Upd.refl [L.hb] wo).setCell (.inl (by simp)) _) (by simp; exact HX.out.2.2.symm) (by simp; exact HX.out.2.1.symm), HP.out, (HU.out.mono (T := [L.hb, L.bw]) (by intro q hq _; simp at hq ⊢; exact .inr hq)).trans ((Upd.refl [L.hb, L.bw] wo).setCell (.inl (by simp)) _)⟩
      rw [← hcN.out]
      exact HFB.out
theorem old_raw (L : HL) (cv mv : Value) (S : Hp) (w : World) (hb : w.heap[L.hb]? = some (.cells (hcells cv mv L S) 94)) (hn : S.now = 0 ∨ S.now = 1) :
    Calls Tryd.prog 48 #[.pointer (some ⟨L.hb, 0, none⟩)] w fun e w' => e = .returned (.pointer (some ⟨L.hb, 3 + 3 * S.oldK, none⟩)) ∧ ∃ n, w' = w.drewN n := by
  have h12 : w.cell? ⟨L.hb, 12, none⟩ = some (.int .i64 S.now) := by rw [cell_of hb]; rfl
  rcases hn with h0 | h0
  · have HE := Lib.hid (show 3 + 3 * S.oldK = 6 by unfold Hp.oldK; rw [if_pos h0])
    rw [h0] at h12
    clear h0 hb
    go_enter Tryd.func48, Tryd.ntmps48
    go_wp2_with fail
    go_quiet (fail)
    go_wp2_with fail
    go_ret
    exact ⟨by rw [HE.out]; rfl, _, rfl⟩
  · have HE := Lib.hid (show 3 + 3 * S.oldK = 9 by unfold Hp.oldK; rw [if_neg (by omega)])
    rw [h0] at h12
    clear h0 hb
    go_enter Tryd.func48, Tryd.ntmps48
    go_wp2_with fail
    go_quiet (fail)
    go_wp2_with fail
    go_ret
    exact ⟨by rw [HE.out]; rfl, _, rfl⟩
end Go.Proofs.YtneeljhjfmcdoaaDoor

/-! settle: the walk. -/
namespace Go.Proofs.YtneeljhjfmcdoaaDoor
open Go.RowKit

/-- What is left of the beginnings. -/
def bgLeft (X : Cx) (M : Mv) (bg : List Nat) : Prop := ∀ x : Nat, bhas bg x = true ↔ (bhas X.S.bg x = true ∧ X.frm ((x : Int) + 1) = false) ∨ ∃ a, (a, (x : Int) + 1) ∈ M.mv
/-- The spaces behind the drops. -/
def Cx.left (X : Cx) (M : Mv) : Hp :=
  if X.all = true then { ((X.mid M).setSp 0 { (X.mid M).sp 0 with top := ((X.mid M).sp 0).fr }).setSp X.S.oldK { (X.mid M).sp X.S.oldK with top := ((X.mid M).sp X.S.oldK).fr } with now := 1 - X.S.now }
  else (X.mid M).setSp 0 { (X.mid M).sp 0 with top := ((X.mid M).sp 0).fr }
theorem left_cells (X : Cx) (M : Mv) (cv mv : Value) (L : HL) (bg mr : List Nat) (hn : X.S.now = 0 ∨ X.S.now = 1) (htk : X.tk = if X.all = true then 3 - X.S.oldK else X.S.oldK) : hcells cv mv L (X.left M) = hcells cv mv L (X.after M bg mr) := by
  unfold Hp.oldK at htk
  unfold Cx.left Hp.oldK
  rcases hn with e | e <;> cases ha : X.all <;> rw [e, ha] at htk <;> simp at htk <;> simp [hcells, Cx.after, Cx.spE, Cx.mid, Cx.spM, Hp.setSp, Hp.sp, htk, ha, e]

theorem bg_minor {X : Cx} {M : Mv} {bg1 bg2 fr : List Nat} (ha : X.all = false) (h1 : ∀ p : Nat, bhas bg1 p = (bhas X.S.bg p && !decide (X.S.y.fr ≤ (p : Int) ∧ (p : Int) < X.S.y.top)))
    (h2 : ∀ p, bhas bg2 p = (bhas bg1 p || (decide (p < X.S.A.length) && bhas fr p))) (hfx : ∀ x : Nat, bhas fr x = true ↔ ∃ a, (a, (x : Int) + 1) ∈ M.mv) (hfl : ∀ x, bhas fr x = true → x < X.S.A.length) : bgLeft X M bg2 := by
  intro x
  have his : X.S.is ((x : Int) + 1) = bhas X.S.bg x := by
    unfold Hp.is
    rw [decide_eq_true (by omega), Bool.true_and, show ((x : Int) + 1 - 1).toNat = x by omega]
  have hfr : X.frm ((x : Int) + 1) = (bhas X.S.bg x && decide (X.S.y.fr ≤ (x : Int) ∧ (x : Int) < X.S.y.top)) := by
    unfold Cx.frm Hp.inY
    rw [ha, his, Bool.false_or, show (x : Int) + 1 - 1 = (x : Int) by omega, ← Bool.and_assoc, Bool.and_self]
  rw [h2, h1, hfr]
  rw [Bool.or_eq_true, Bool.and_eq_true, Bool.and_eq_true, decide_eq_true_eq, hfx]
  constructor
  · rintro (⟨h3, h4⟩ | ⟨_, h3⟩)
    · left
      rw [Bool.not_eq_true'] at h4
      rw [h3, h4]
      exact ⟨rfl, rfl⟩
    · exact .inr h3
  · rintro (⟨h3, h4⟩ | h3)
    · left
      rw [h3, Bool.true_and] at h4
      rw [h4]; simp [h3]
    · exact .inr ⟨hfl x ((hfx x).2 h3), h3⟩
theorem bg_major {X : Cx} {M : Mv} {bg1 bg2 bg3 fr : List Nat} (hX : X.Ok) (ha : X.all = true) (htk : X.tk = 3 - X.S.oldK) (hemp : (X.S.sp X.tk).top = (X.S.sp X.tk).fr) (h1 : ∀ p : Nat, bhas bg1 p = (bhas X.S.bg p && !decide (X.S.y.fr ≤ (p : Int) ∧ (p : Int) < X.S.y.top)))
    (h0 : ∀ p : Nat, bhas bg2 p = (bhas bg1 p && !decide ((X.S.sp X.S.oldK).fr ≤ (p : Int) ∧ (p : Int) < (X.S.sp X.S.oldK).top)))
    (h2 : ∀ p, bhas bg3 p = (bhas bg2 p || (decide (p < X.S.A.length) && bhas fr p))) (hfx : ∀ x : Nat, bhas fr x = true ↔ ∃ a, (a, (x : Int) + 1) ∈ M.mv) (hfl : ∀ x, bhas fr x = true → x < X.S.A.length) : bgLeft X M bg3 := by
  intro x
  have his : X.S.is ((x : Int) + 1) = bhas X.S.bg x := by
    unfold Hp.is
    rw [decide_eq_true (by omega), Bool.true_and, show ((x : Int) + 1 - 1).toNat = x by omega]
  have hfr : X.frm ((x : Int) + 1) = bhas X.S.bg x := by
    unfold Cx.frm
    rw [ha, his, Bool.true_or, Bool.and_true]
  have hno : bhas bg2 x = false := by
    rw [h0, h1]
    cases hb : bhas X.S.bg x with
    | false => rfl
    | true =>
      obtain ⟨k, hk, u1, u2⟩ := hX.ok.used x hb
      have hn0 : 0 ≤ unN (X.S.A.getD x 0) := unN_nonneg _
      have ho := oldK_lt X.S
      have ho2 : X.S.oldK = 1 ∨ X.S.oldK = 2 := by unfold Hp.oldK; split <;> omega
      have hkc : k = 0 ∨ k = X.S.oldK ∨ k = X.tk := by omega
      rcases hkc with rfl | rfl | rfl
      · have e : X.S.sp 0 = X.S.y := rfl
        rw [e] at u1 u2
        rw [decide_eq_true (by omega : X.S.y.fr ≤ (x : Int) ∧ (x : Int) < X.S.y.top)]; rfl
      · rw [decide_eq_true (by omega : (X.S.sp X.S.oldK).fr ≤ (x : Int) ∧ (x : Int) < (X.S.sp X.S.oldK).top)]; simp
      · omega
  rw [h2, hno, hfr, Bool.false_or, Bool.and_eq_true, decide_eq_true_eq, hfx]
  constructor
  · rintro ⟨_, h3⟩; exact .inr h3
  · rintro (⟨h3, h4⟩ | h3)
    · rw [h3] at h4; cases h4
    · exact ⟨hfl x ((hfx x).2 h3), h3⟩

/-- What settle leaves. -/
structure Settled (w w' : World) (L : HL) (cv mv : Value) (X : Cx) (M : Mv) (bg : List Nat) (mb mw : Nat) : Prop where
  hb : w'.heap[L.hb]? = some (.cells (hcells cv mv { L with mb := mb, mw := mw } (X.left M)) 94)
  bs : SetAt w' L.bb L.bw X.S.A.length bg
  left : bgLeft X M bg
  mr : SetAt w' mb mw X.S.A.length (List.replicate ((X.S.A.length + 63) / 64) 0)
  new : w.heap.size ≤ mb ∧ w.heap.size ≤ mw ∧ mb ≠ mw
  up : Upd [L.hb, L.bw] w w'

set_option maxRecDepth 100000 in
set_option maxHeartbeats 4000000 in
theorem settle_any (L : HL) (cv mv : Value) (X : Cx) (Lv : List Int) (sc : Int → Nat → Bool) (M : Mv) (q fb fg : Nat) (wv : Value) (B : Nat) (fr : List Nat) (w : World)
    (hX : X.Ok) (hM : M.Ok X Lv sc) (h : MvAt w L cv mv X M q fb fg wv B fr) (htk : X.tk = if X.all = true then 3 - X.S.oldK else X.S.oldK) (hemp : X.all = true → (X.S.sp X.tk).top = (X.S.sp X.tk).fr) (hT : TzAt w) (hTL : ∀ i ∈ L.all, i ≠ 1) (hBw : B ≤ w.heap.size) :
    Calls Tryd.prog 78 #[.pointer (some ⟨L.hb, 0, none⟩), .pointer (some ⟨q, 0, none⟩)] w fun e w' => ∃ bg mb mw, e = .returned (.tuple #[]) ∧ Settled w w' L cv mv X M bg mb mw := by
  have hmf : ∀ (fn : Fn) (first cap : Array Value) (w : World), (Instr.makeFunc fn first cap).run Tryd.prog w = .ok (.func fn first cap) w := fun _ _ _ _ => rfl
  have hnow := hX.ok.now
  have hne := HL.ne h.hp.nd
  have hlo := h.lo
  have hqB := h.qB
  have hqn := h.ne
  have hlhb := hlo L.hb (by simp [HL.all])
  have hlbw := hlo L.bw (by simp [HL.all])
  have hlbb := hlo L.bb (by simp [HL.all])
  have hu0 := (Upd.refl [] w).alloc (.cells #[.pointer (some ⟨L.hb, 0, none⟩)] 24)
  have hx0 := heap_alloc_new w (.cells #[.pointer (some ⟨L.hb, 0, none⟩)] 24)
  have H := Lib.hid h
  have HNE := Lib.hid hne
  have HQN := Lib.hid hqn
  have HU0 := Lib.hid hu0
  have HX0 := Lib.hid hx0
  have hb1 := hu0.heap h.hp.hb (by simp)
  have hs1 := h.hp.bg.upd hu0 (by simp) (by simp)
  have hm1 := hu0.heap h.mb (by simp)
  have hsp0 := (mid_ok hX hM).sp0 0
  have hlen0 : (X.mid M).A.length = X.S.A.length := hM.len
  have hl65 := hX.ok.len
  have HDR := Lib.hid (drop_space L cv mv (X.mid M) 0 (X.mid M).A.length w.heap.size X.S.bg _ (by omega) hb1 hs1 hsp0.1 hsp0.2.1 (by omega) (cell_of hx0 0) ⟨by omega, hne.1.2.2.2.1, hne.1.2.2.1⟩)
  clear h hne hqn hu0 hx0 hb1 hs1 hsp0
  go_enter Tryd.func78, Tryd.ntmps78
  go_wp2_with fail
  refine HDR.out.mono ?_
  rintro e w1 ⟨rfl, bg1, hb1, hs1, hp1, hu1⟩
  have HB1 := Lib.hid hb1
  have HS1 := Lib.hid hs1
  have HP1 := Lib.hid hp1
  have HU1 : Hid (Upd [L.hb, L.bw] w w1) := (HU0.out.mono (T := [L.hb, L.bw]) (by simp)).trans hu1
  have hx := hu1.cell (cell_of HX0.out 0) (by simp; exact ⟨by omega, by omega⟩)
  have hmq := HU1.out.heap H.out.mb (by simp; exact ⟨fun e => HQN.out.1 (e ▸ by simp [HL.all]), fun e => HQN.out.1 (e ▸ by simp [HL.all])⟩)
  have q1 : w1.cell? ⟨q, 1, none⟩ = some (.bool X.all) := by rw [cell_of hmq]; rfl
  have hfl : ∀ x, bhas fr x = true → x < X.S.A.length := H.out.fs.2.2.2.2.2
  have HFL := Lib.hid hfl
  have HZ1 : Hid (w.heap.size < w1.heap.size) := by
    have h9 := hu1.size
    rw [World.size_alloc] at h9
    show _ < _
    omega
  have HXB := Lib.hid hx
  clear hb1 hs1 hp1 hu1 hmq hfl HDR
  go_upto_if 14 with fail
  go_cut [14] from 15 to 26 (fun v14 wx => ∃ bg2, Hid (wx.heap[L.hb]? = some (.cells (hcells cv mv L (X.left M)) 94)) ∧ Hid (SetAt wx L.bb L.bw X.S.A.length bg2) ∧ Hid (∀ bg3, (∀ p, bhas bg3 p = (bhas bg2 p || (decide (p < X.S.A.length) && bhas fr p))) → bgLeft X M bg3) ∧ Hid (Upd [L.hb, L.bw] w1 wx))
  case first =>
    cases ha : X.all with
    | false =>
      rw [ha] at q1
      have HLE : Hid (X.left M = (X.mid M).setSp 0 { (X.mid M).sp 0 with top := ((X.mid M).sp 0).fr }) := by show _ = _; unfold Cx.left; rw [ha]; simp
      have HA := Lib.hid ha
      clear ha
      go_wp2_with fail
      go_meet
      refine ⟨bg1, by rw [HLE.out]; exact HB1.out, by rw [← hlen0]; exact HS1.out, fun bg3 h3 => ?_, Upd.refl _ _⟩
      refine bg_minor HA.out (fun p => ?_) h3 H.out.fx HFL.out
      rw [HP1.out p]
      have e : (X.mid M).sp 0 = X.S.y := by
        show X.spM M 0 = _
        unfold Cx.spM
        rw [if_neg (fun e => hX.k0 e.symm)]; rfl
      rw [e]
    | true =>
      rw [ha] at q1
      have HA := Lib.hid ha
      have htk1 : X.tk = 3 - X.S.oldK := by rw [htk, if_pos ha]
      have hem := hemp ha
      clear ha
      have ho2 : X.S.oldK = 1 ∨ X.S.oldK = 2 := by unfold Hp.oldK; split <;> omega
      obtain ⟨S1, hS1⟩ : ∃ S1, S1 = (X.mid M).setSp 0 { (X.mid M).sp 0 with top := ((X.mid M).sp 0).fr } := ⟨_, rfl⟩
      have hok1 : S1.oldK = X.S.oldK := by rw [hS1]; rfl
      have hsp1 : S1.sp X.S.oldK = X.S.sp X.S.oldK := by
        rw [hS1, setSp_get _ _ _ _ (by omega) (by omega), if_neg (by omega), mid_sp _ _ _ (by omega)]
        unfold Cx.spM
        rw [if_neg (by omega)]
      have HLE : Hid (hcells cv mv L (X.left M) = (hcells cv mv L (S1.setSp X.S.oldK { S1.sp X.S.oldK with top := (S1.sp X.S.oldK).fr })).setIfInBounds 12 (.int .i64 (1 - X.S.now))) := by
        have e2 : (X.mid M).sp X.S.oldK = X.S.sp X.S.oldK := by
          rw [mid_sp _ _ _ (by omega)]
          unfold Cx.spM
          rw [if_neg (by omega)]
        show _ = _
        rw [hsp1]
        unfold Cx.left
        rw [HA.out, if_pos rfl, e2, hS1]
        have hn2 : ((1 - X.S.now : Nat) : Int) = 1 - (X.S.now : Int) := by rcases hnow with e | e <;> rw [e] <;> rfl
        unfold hcells
        rw [← hn2]
        rcases ho2 with e | e <;> rw [e] <;> simp [Hp.setSp]
      have hn1 : S1.now = X.S.now := by rw [hS1]; rfl
      have HB1' := HB1.out
      rw [← hS1] at HB1'
      have HB1S := Lib.hid HB1'
      have HOLD := Lib.hid (old_raw L cv mv S1 w1 HB1' (by rw [hn1]; exact hnow))
      rw [hok1] at HOLD
      have hspo := hX.ok.sp0 X.S.oldK
      have HD2 : Hid (∀ m, Calls Tryd.prog 88 #[.pointer (some ⟨L.hb, 3 + 3 * X.S.oldK, none⟩), .pointer (some ⟨w.heap.size, 0, none⟩)] (w1.drewN m) fun e w' => e = .returned (.tuple #[]) ∧ ∃ bg', w'.heap[L.hb]? = some (.cells (hcells cv mv L (S1.setSp X.S.oldK { S1.sp X.S.oldK with top := (S1.sp X.S.oldK).fr })) 94) ∧ SetAt w' L.bb L.bw (X.mid M).A.length bg' ∧
          (∀ p : Nat, bhas bg' p = (bhas bg1 p && !decide ((S1.sp X.S.oldK).fr ≤ (p : Int) ∧ (p : Int) < (S1.sp X.S.oldK).top))) ∧ Upd [L.hb, L.bw] (w1.drewN m) w') := fun m =>
        drop_space L cv mv S1 X.S.oldK (X.mid M).A.length w.heap.size bg1 (w1.drewN m) (oldK_lt _) HB1' (HS1.out.upd ((Upd.refl [] w1).drewN m) (by simp) (by simp)) (by rw [hsp1]; exact hspo.1) (by rw [hsp1]; exact hspo.2.1) (by rw [hsp1]; omega) (((Upd.refl [] w1).drewN m).cell HXB.out (by simp)) ⟨by omega, HNE.out.1.2.2.2.1, HNE.out.1.2.2.1⟩
      clear hspo HB1' hok1
      have HN1 := Lib.hid hn1
      have HSP1 := Lib.hid hsp1
      clear hn1 hS1 hsp1 htk
      go_wp2_with fail
      refine HOLD.out.mono ?_
      rintro e w2 ⟨rfl, m, rfl⟩
      go_wp2_with fail
      refine (HD2.out m).mono ?_
      rintro e w3 ⟨rfl, bg2, hb3, hs3, hp3, hu3⟩
      have HB3 := Lib.hid hb3
      have HS3 := Lib.hid hs3
      have HP3 := Lib.hid hp3
      have HU3 : Hid (Upd [L.hb, L.bw] w1 w3) := (((Upd.refl [] w1).drewN m).mono (T := [L.hb, L.bw]) (by simp)).trans hu3
      have hx3 := HU3.out.cell HXB.out (by simp; exact ⟨by omega, by omega⟩)
      have c12 : w3.cell? ⟨L.hb, 12, none⟩ = some (.int .i64 X.S.now) := by
        rw [cell_of hb3]
        have : (S1.setSp X.S.oldK { S1.sp X.S.oldK with top := (S1.sp X.S.oldK).fr }).now = X.S.now := by
          rcases ho2 with e | e <;> rw [e] <;> exact HN1.out
        show some (Value.int .i64 ((S1.setSp X.S.oldK { S1.sp X.S.oldK with top := (S1.sp X.S.oldK).fr }).now : Int)) = _
        rw [this]
      have f12 := froz_of hb3 12
      have HSET := Lib.hid (heap_setCell hb3 12 (.int .i64 (1 - X.S.now)))
      rw [← HLE.out] at HSET
      have HTK1 := Lib.hid htk1
      have HEM := Lib.hid hem
      have hnn : (X.S.now : Int) ≤ 1 := by rcases hnow with e | e <;> omega
      have hnn0 : (0 : Int) ≤ X.S.now := by omega
      have HNOW := Lib.hid hnow
      clear hb3 hs3 hp3 hu3 HD2 HOLD htk1 hem hnow ho2
      generalize (X.S.now : Int) = nw at c12 HSET HLE hnn hnn0
      go_wp2_with fail
      go_region
      all_goals
        go_wp2_with fail
        go_meet
        have hus : Upd [L.hb] w3 (w3.setCell ⟨L.hb, 12, none⟩ (.int .i64 (1 - nw))).drew := ((Upd.refl [L.hb] w3).setCell (.inl (by simp)) _).drew
        refine ⟨bg2, HSET.out, ?_, fun bg3 h3 => ?_, HU3.out.trans (hus.mono (T := [L.hb, L.bw]) (by intro q hq _; simp at hq ⊢; exact .inl hq))⟩
        · rw [← hlen0]
          exact HS3.out.upd hus (by simp; exact HNE.out.1.2.2.1.symm) (by simp; exact HNE.out.1.2.2.2.1.symm)
        · refine bg_major (bg1 := bg1) hX HA.out HTK1.out HEM.out (fun p => ?_) (fun p => ?_) h3 H.out.fx HFL.out
          · rw [HP1.out p]
            have e : (X.mid M).sp 0 = X.S.y := by
              show X.spM M 0 = _
              unfold Cx.spM
              rw [if_neg (fun e => hX.k0 e.symm)]; rfl
            rw [e]
          · rw [HP3.out p, HSP1.out]
  case rest =>
    obtain ⟨bg2, HB2, HS2, HSP2, HU2⟩ := hcut
    have HUC : Hid (Upd [L.hb, L.bw] w wc) := HU1.out.trans HU2.out
    have hxc := HU2.out.cell HXB.out (by simp; exact ⟨by omega, by omega⟩)
    have c13 : wc.cell? ⟨L.hb, 13, none⟩ = some (.pointer (some ⟨L.bb, 0, none⟩)) := by rw [cell_of HB2.out]; rfl
    have c2 : wc.cell? ⟨L.hb, 2, none⟩ = some (.pointer (some ⟨L.ab, 0, none⟩)) := by rw [cell_of HB2.out]; rfl
    have nq : ∀ k, k ∉ L.all → k ∉ [L.hb, L.bw] := fun k hk hm => by
      simp at hm
      rcases hm with e | e
      · exact hk (by rw [e]; simp [HL.all])
      · exact hk (by rw [e]; simp [HL.all])
    have q3 : wc.cell? ⟨q, 3, none⟩ = some (.pointer (some ⟨fb, 0, none⟩)) := by
      rw [cell_of (HUC.out.heap H.out.mb (nq _ HQN.out.1))]; rfl
    have hT2 : TzAt wc.drew := (hT.upd HUC.out (by simp; exact ⟨(hTL _ (by simp [HL.all])).symm, (hTL _ (by simp [HL.all])).symm⟩)).upd (Upd.refl [] wc).drew (by simp)
    have hfs := (H.out.fs.upd HUC.out (nq _ HQN.out.2.1) (nq _ HQN.out.2.2.1)).upd (Upd.refl [] wc).drew (by simp) (by simp)
    have HJ := Lib.hid (bjoin_any L.bb L.bw X.S.A.length fb fg X.S.A.length bg2 fr wc.drew (HS2.out.upd (Upd.refl [] wc).drew (by simp) (by simp)) hfs hT2 (hTL _ (by simp [HL.all])) (by omega))
    have dx := (Upd.refl [] wc).drew.cell hxc (by simp)
    have d13 := (Upd.refl [] wc).drew.cell c13 (by simp)
    have dq3 := (Upd.refl [] wc).drew.cell q3 (by simp)
    clear hfs hT2 q1
    go_wp2_with fail
    go_region_held3 (fun w' => w'.cell? ⟨w.heap.size, 0, none⟩ = some (.pointer (some ⟨L.hb, 0, none⟩)) ∧ w'.cell? ⟨L.hb, 13, none⟩ = some (.pointer (some ⟨L.bb, 0, none⟩)) ∧ w'.cell? ⟨q, 3, none⟩ = some (.pointer (some ⟨fb, 0, none⟩)))
      (first | exact ⟨dx, d13, dq3⟩ | exact ⟨hk0, hk1, hk2⟩ | exact ⟨hxc, c13, q3⟩)
      ((go_at_call 90; refine HJ.out.mono ?_; rintro e w4 ⟨av, bg3, rfl, hs4, hp4, _, _, hu4⟩; have hk0 := hu4.cell dx (by simp; omega); have hk1 := hu4.cell d13 (by simp; exact HNE.out.1.2.2.2.1); have hk2 := hu4.cell dq3 (by simp; intro e; exact HQN.out.1 (e ▸ by simp [HL.all]))))
    go_wp2_with fail
    have hu4c : Upd [L.bw] wc w4 := ((Upd.refl [L.bw] wc).drew).trans hu4
    have hu4w : Upd [L.hb, L.bw] w w4 := HUC.out.trans (hu4c.mono (T := [L.hb, L.bw]) (by intro q hq _; simp at hq ⊢; exact .inr hq))
    have hHB4 := hu4c.heap HB2.out (by simp; exact HNE.out.1.2.2.2.1)
    have HU4 := Lib.hid hu4w
    have HB4 := Lib.hid hHB4
    have HS4 := Lib.hid hs4
    have HLF := Lib.hid (HSP2.out bg3 hp4)
    have ex : w4.cell? ⟨w.heap.size, 0, none⟩ = some (.pointer (some ⟨L.hb, 0, none⟩)) := hk0
    have e2 : w4.cell? ⟨L.hb, 2, none⟩ = some (.pointer (some ⟨L.ab, 0, none⟩)) := by rw [cell_of hHB4]; rfl
    have f14 := froz_of hHB4 14
    have dx2 := (Upd.refl [] w4).drew.cell ex (by simp)
    have de2 := (Upd.refl [] w4).drew.cell e2 (by simp)
    have HLN : Hid (Calls Tryd.prog 75 #[.pointer (some ⟨L.ab, 0, none⟩)] w4.drew fun e w' => e = .returned (.int .i64 (X.S.A.length : Nat)) ∧ w4.drew = w') := by
      have h9 := len_any L.ab L.wb M.A w4.drew ((H.out.hp.ar.upd hu4w (by simp; exact ⟨HNE.out.1.1.symm, HNE.out.2.2.1.1.symm⟩) (by simp; exact ⟨HNE.out.1.2.1.symm, HNE.out.2.1.2.2.1⟩)).upd (Upd.refl [] w4).drew (by simp) (by simp))
      rw [hM.len] at h9
      exact h9
    have HNW := Lib.hid (bnew X.S.A.length w4.drew (by omega))
    clear hu4c hu4w hHB4 hs4 hp4 hk0 hk1 hk2 HJ dx d13 dq3 hxc c13 q3 c2 hu4 HSP2 HS2 HB2 hlen0 hT hTL
    go_wp2_with fail
    go_region_held3 (fun w' => w'.cell? ⟨w.heap.size, 0, none⟩ = some (.pointer (some ⟨L.hb, 0, none⟩)) ∧ w'.cell? ⟨L.hb, 2, none⟩ = some (.pointer (some ⟨L.ab, 0, none⟩)))
      (first | exact ⟨dx2, de2⟩ | exact ⟨hk0, hk1⟩ | exact ⟨ex, e2⟩ | exact ⟨hs0, hs1⟩)
      ((first
        | (go_at_call 75; refine HLN.out.mono ?_; rintro e w5 ⟨rfl, rfl⟩)
        | (go_at_call 46; refine HNW.out.mono ?_; rintro e w5 ⟨rfl, hn5, hu5, hz5⟩; have hk0 := hu5.cell dx2 (by simp); have hk1 := hu5.cell de2 (by simp); have hb5 := hu5.heap (show w4.drew.heap[L.hb]? = _ from HB4.out) (by simp); have f5 := froz_of hb5 14; have c5 : w5.cell? ⟨L.hb, 14, none⟩ = some (.pointer (some ⟨L.mb, 0, none⟩)) := (by rw [cell_of hb5]; rfl); have hs0 := ((Upd.refl [L.hb] w5).setCell (p := ⟨L.hb, 14, none⟩) (.inl (by simp)) (.pointer (some ⟨w4.drew.heap.size + 1, 0, none⟩))).cell hk0 (by simp; omega); have hs1 : (w5.setCell ⟨L.hb, 14, none⟩ (.pointer (some ⟨w4.drew.heap.size + 1, 0, none⟩))).cell? ⟨L.hb, 2, none⟩ = some (.pointer (some ⟨L.ab, 0, none⟩)) := (by rw [cell_of (heap_setCell hb5 14 _)]; rfl))))
    go_end0
    have hlt4 := HU4.out.size
    have hz4 : w4.drew.heap.size = w4.heap.size := rfl
    have hus : Upd [L.hb] w5 (w5.setCell ⟨L.hb, 14, none⟩ (.pointer (some ⟨w4.drew.heap.size + 1, 0, none⟩))) := (Upd.refl [L.hb] w5).setCell (.inl (by simp)) _
    have hu45 : Upd [] w4 w5 := (Upd.refl [] w4).drew.trans hu5
    have hs14 := heap_setCell hb5 14 (.pointer (some ⟨w4.drew.heap.size + 1, 0, none⟩))
    refine ⟨bg3, w4.drew.heap.size + 1, w4.drew.heap.size, rfl, ⟨?_, ?_, HLF.out, ?_, by omega, ?_⟩⟩
    · exact hs14
    · exact (HS4.out.upd hu45 (by simp) (by simp)).upd hus (by simp; exact HNE.out.1.2.2.1.symm) (by simp; exact HNE.out.1.2.2.2.1.symm)
    · exact hn5.upd hus (by simp; omega) (by simp; omega)
    · exact (HU4.out.trans (hu45.mono (T := [L.hb, L.bw]) (by simp))).trans (hus.mono (T := [L.hb, L.bw]) (by intro q hq _; simp at hq ⊢; exact .inl hq))
end Go.Proofs.YtneeljhjfmcdoaaDoor
