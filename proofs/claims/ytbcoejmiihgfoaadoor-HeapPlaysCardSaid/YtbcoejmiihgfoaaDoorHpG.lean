/- HeapPlays: kinds 1 and 2: an object is asked for. -/
import Derived.Test.YtbcoejmiihgfoaaDoorHpE
/-! HeapPlays: kinds 1 and 2: an object is asked for. -/
namespace Go.Proofs.YtbcoejmiihgfoaaDoor
open Go.RowKit
theorem wp_hpFP {P : Program} {c : Code} {Q : Exit → Act → World → Prop} {w : World} {lim nur : Int} {la : Option Addr} {nl lc : Nat} {ask at_ : Int} {pb hb ub : Nat} {half : Int} {s19 s20 s21 s22 s24 : Value} {arr : List Value} (R : (Nat → Value) → Prop) (e : (⟨arr.toArray, []⟩ : Act) = hpF lim nur la nl lc ask at_ pb hb ub half s19 s20 s21 s22 s24 (fun k => arr.getD k undef)) (hR : R (fun k => arr.getD k undef)) (h : ∀ f, R f → c.wp P Q (hpF lim nur la nl lc ask at_ pb hb ub half s19 s20 s21 s22 s24 f) w) : c.wp P Q ⟨arr.toArray, []⟩ w := by
 rw [e]
 exact h _ hR
theorem room_may {S : Hp} {c n : Int} {k : Nat} (h : S.room k c n = true) : MayC S.cs c n := by
 by_cases hm : MayC S.cs c n
 ·exact hm
 ·rw [(mayC_no hm k).1] at h; cases h
theorem room_not {S : Hp} {c n : Int} {k : Nat} (h : S.room k c n = false) : S.layR k c n = 0 ∧ S.layK k c n = S :=
 ⟨by unfold Hp.layR; rw [h]; rfl, by unfold Hp.layK; rw [h]; rfl⟩

set_option maxRecDepth 1000000 in
set_option maxHeartbeats 16000000 in
theorem hkind1 {w0 : World} {B ub pb nl lc i db dof : Nat} {L : HL} {hv hmv mv : Value} {p : Prg} {cp : Option Addr} {cc : Nat} {lim nur half ask at_ : Int} {S : Hp} {ov rv yv tv : Value} {ps : List OP} {rs : List Int} {ys : List Bool} {ts : List Int} {u0 u1 : Int} {wd : World} {da dby dn dv : Int} {f : Nat → Value} {J K' : Act → World → Prop} {Q' : Exit → Act → World → Prop}
  (hC : HpC w0 p cp cc mv pb lim nur half) (hM : HpW w0 wd B ub L hv hmv S ov rv yv tv ps rs ys ts u0 u1) (hT : HpT S ps rs ys ts u0 u1 nur half p.cs i) (hi : i < nl) (hn : nl ≤ 60) (hd : DoIn wd db (dof + i * 5) ⟨1, da, dby, dn, dv⟩)
  (hJ : ∀ a' w', HpR w0 B L hv hmv p lim nur (some ⟨db, dof, none⟩) nl lc ask at_ pb ub half i a' w' → J a' w') (hK : ∀ a' w', Go.Met J a' w' → K' a' w') :
  (hpB 1).wp Tryd.prog (Exit.then K' Q') (hpF lim nur (some ⟨db, dof, none⟩) nl lc ask at_ pb L.hb ub half ov rv yv tv (.int .i64 i) f) wd := by
 obtain ⟨d0, d1, d2, d3, d4⟩ := hd
 simp only at d0 d1 d2 d3 d4
 have HC := Lib.hid hC
 have HJ := Lib.hid hJ
 have HK := Lib.hid hK
 have hUD := (Upd.refl [] wd).alloc (.cells #[.int .i64 1, .int .i64 da, .int .i64 dby, .int .i64 dn, .int .i64 dv] 45)
 have HM := Lib.hid (hM.same hUD)
 have HT := Lib.hid hT
 have HX := Lib.hid (heap_alloc_new wd (.cells #[.int .i64 1, .int .i64 da, .int .i64 dby, .int .i64 dn, .int .i64 dv] 45))
 clear hC hM hJ hT hUD hK
 unfold hpF
 conv => arg 2; whnf
 go_upto_region 48 with fail
 rename_i K1 hK1
 have HK1 := Lib.hid hK1
 clear d0 d1 d2 d3 d4 hK1
 generalize wd.alloc (.cells #[.int .i64 1, .int .i64 da, .int .i64 dby, .int .i64 dn, .int .i64 dv] 45) = wx at HM HX ⊢
 generalize wd.heap.size = xd at HX ⊢
 refine wp_cut (fun a' w' => w' = wx ∧ ∃ f, a' = hpF lim nur (some ⟨db, dof, none⟩) nl lc ask at_ pb L.hb ub half ov rv yv tv (.int .i64 i) f ∧ (f 25 = .pointer (some ⟨xd, 0, none⟩) ∧ f 26 = .int .i64 0 ∧ f 27 = .int .i64 da ∧ f 28 = .bool (decide (MayC p.cs da dn)))) ?_ ?_
 rotate_left 1
 ·intro J2 K2 hJ2 hK2
  refine wp_hpFP (lim := lim) (nur := nur) (la := some ⟨db, dof, none⟩) (nl := nl) (lc := lc) (ask := ask) (at_ := at_) (pb := pb) (hb := L.hb) (ub := ub) (half := half) (s19 := ov) (s20 := rv) (s21 := yv) (s22 := tv) (s24 := .int .i64 i) (fun f => f 25 = .pointer (some ⟨xd, 0, none⟩) ∧ f 26 = .int .i64 0 ∧ f 27 = .int .i64 da) (by kernel_rfl) ⟨rfl, rfl, rfl⟩ (fun f hf => ?_)
  exact hreg48 HC.out HM.out.upd HX.out hf.1 hf.2.1 hf.2.2 hJ2 hK2
 rintro a wx ⟨rfl, f, rfl, h25, h26, h27, h28⟩
 refine HK1.out _ _ ?_
 clear HK1
 unfold hpF
 rw [h25, h26, h27, h28]
 clear h25 h26 h27 h28 K1
 go_upto_if 306 with fail
 rename_i K1 hK1
 have HK1 := Lib.hid hK1
 clear hK1
 refine wp_cut (fun a' w' => Upd [] wx w' ∧ ∃ f, a' = hpF lim nur (some ⟨db, dof, none⟩) nl lc ask at_ pb L.hb ub half ov rv yv tv (.int .i64 i) f ∧ (f 25 = .pointer (some ⟨xd, 0, none⟩) ∧ f 26 = .int .i64 ((0 : Nat) : Int) ∧ f 27 = .int .i64 da ∧ f 28 = .bool (S.room 0 da dn) ∧ f 29 = .int .i64 (if MayC p.cs da dn then 2 + wantN p.cs da dn else 0))) ?_ ?_
 rotate_left 1
 ·intro J2 K2 hJ2 hK2
  refine wp_hpFP (lim := lim) (nur := nur) (la := some ⟨db, dof, none⟩) (nl := nl) (lc := lc) (ask := ask) (at_ := at_) (pb := pb) (hb := L.hb) (ub := ub) (half := half) (s19 := ov) (s20 := rv) (s21 := yv) (s22 := tv) (s24 := .int .i64 i) (fun f => f 25 = .pointer (some ⟨xd, 0, none⟩) ∧ f 26 = .int .i64 ((0 : Nat) : Int) ∧ f 27 = .int .i64 da ∧ f 28 = .bool (decide (MayC p.cs da dn)) ∧ f 29 = .int .i64 0 ∧ f 306 = .bool (decide (MayC p.cs da dn))) (by kernel_rfl) ⟨rfl, rfl, rfl, rfl, rfl, rfl⟩ (fun f hf => ?_)
  exact hif306 HC.out HM.out HT.out HX.out (by omega) hf.1 hf.2.1 hf.2.2.1 hf.2.2.2.1 hf.2.2.2.2.1 hf.2.2.2.2.2 hJ2 hK2
 rintro a w2 ⟨hu2, f, rfl, h25, h26, h27, h28, h29⟩
 refine HK1.out _ _ ?_
 have HM2 := Lib.hid (HM.out.same hu2)
 have x3 : w2.cell? ⟨xd, 3, none⟩ = some (.int .i64 dn) := hu2.cell (by rw [cell_of HX.out]; rfl) (by simp)
 have h26' : f 26 = .int .i64 0 := h26
 clear HK1 hu2 h26
 have HY := Lib.hid (young_any L hv hmv S da dn _ HM2.out.hp)
 unfold hpF
 rw [h25, h26', h27, h28, h29]
 clear h25 h26' h27 h28 h29 K1
 cases hr : S.room 0 da dn with
 | false =>
  rw [hr] at HY
  obtain ⟨q1, q2⟩ := room_not hr
  rw [q1, q2] at HY
  clear q1 q2 hr
  generalize (if MayC p.cs da dn then 2 + wantN p.cs da dn else 0) = wv
  as_aux_lemma =>
   go_wp2_with fail
   refine HY.out.mono ?_
   rintro e w3 ⟨rfl, hH3, hu3⟩
   have HM3 := Lib.hid (HM2.out.heap hH3 hu3 (by simp))
   clear hH3 hu3 HY HM2 x3
   go_wp2_with fail
   exact HK.out _ _ (Go.Met.intro (HJ.out _ _ ⟨_, _, _, _, _, _, _, _, _, _, _, HM3.out, HT.out.mono (by omega), hpF_eq (by kernel_rfl)⟩))
 | true =>
  rw [hr] at HY
  have hcs := HT.out.cs
  have hmc := room_may hr
  obtain ⟨_, q1, _⟩ := mayC_room HT.out.k.ok hmc 0 (by omega)
  obtain ⟨ft, q2, q3⟩ := q1 hr
  have hwb := mayC_want HT.out.k.ok hmc
  rw [hcs] at hmc hwb ft q3
  rw [q2, q3] at HY
  rw [if_pos hmc]
  obtain ⟨m, hm⟩ : ∃ m : Nat, wantN p.cs da dn = (m : Int) := ⟨(wantN p.cs da dn).toNat, by omega⟩
  rw [hm] at ft HY ⊢
  have hsp := HT.out.k.ok.sp0 0
  have hdr : decide ((S.sp 0).top + 1 ≤ 0) = false := decide_eq_false (by omega)
  have FT := Lib.hid ft
  clear q1 q2 q3 hr hcs hmc hwb hm ft hsp
  generalize hrr : (S.sp 0).top + 1 = r at HY hdr
  have HRR := Lib.hid hrr
  clear hrr
  as_aux_lemma =>
   go_wp2_with fail
   refine HY.out.mono ?_
   rintro e w3 ⟨rfl, hH3, hu3⟩
   have HM3 := Lib.hid (HM2.out.heap hH3 hu3 (by simp))
   clear hH3 hu3 HY HM2 x3
   go_upto_if 361 with fail
   rename_i K1 hK1
   have HK1 := Lib.hid hK1
   clear hK1
   refine wp_cut (fun a' w' => w' = w3 ∧ ∃ f, a' = hpF lim nur (some ⟨db, dof, none⟩) nl lc ask at_ pb L.hb ub half ov rv yv tv (.int .i64 i) f ∧ (f 26 = .int .i64 ((0 : Nat) : Int) ∧ f 27 = .int .i64 da ∧ f 29 = .int .i64 (2 + (m : Int)) ∧ f 30 = .int .i64 r)) ?_ ?_
   ·rintro a w4 ⟨rfl, f, rfl, h26, h27, h29, h30⟩
    refine HK1.out _ _ ?_
    rw [← HRR.out] at h30
    exact hnote HC.out HT.out FT.out HM3.out (by omega) hi hn h26 h27 h29 h30 (fun a w h => HK.out _ _ (Go.Met.intro (HJ.out _ _ h)))
   ·intro J2 K2 hJ2 hK2
    have HJ2 := Lib.hid hJ2
    clear hJ2
    go_wp2_with fail
    exact Go.Met.intro (HJ2.out _ _ ⟨rfl, hpF_eqP _ (by kernel_rfl) ⟨rfl, rfl, rfl, rfl⟩⟩)

theorem old1 {L : HL} {cv mv : Value} {S : Hp} {c n : Int} {w : World} (h : HpAt w L cv mv S) (h0 : S.now = 0) : Calls Tryd.prog 12 #[.pointer (some ⟨L.hb, 0, none⟩), .int .i64 c, .int .i64 n] w fun e w' => e = .returned (.tuple #[.int .i64 (S.layR 1 c n), .bool (S.room 1 c n)]) ∧ HpAt w' L cv mv (S.layK 1 c n) ∧ Upd [L.hb, L.wb, L.bw] w w' := by
 have h1 := oldo_any L cv mv S c n w h
 have e : S.oldK = 1 := by unfold Hp.oldK; rw [if_pos h0]
 rw [e] at h1
 exact h1

set_option maxRecDepth 1000000 in
set_option maxHeartbeats 16000000 in
theorem hkind2 {w0 : World} {B ub pb nl lc i db dof : Nat} {L : HL} {hv hmv mv : Value} {p : Prg} {cp : Option Addr} {cc : Nat} {lim nur half ask at_ : Int} {S : Hp} {ov rv yv tv : Value} {ps : List OP} {rs : List Int} {ys : List Bool} {ts : List Int} {u0 u1 : Int} {wd : World} {da dby dn dv : Int} {f : Nat → Value} {J K' : Act → World → Prop} {Q' : Exit → Act → World → Prop}
  (hC : HpC w0 p cp cc mv pb lim nur half) (hM : HpW w0 wd B ub L hv hmv S ov rv yv tv ps rs ys ts u0 u1) (hT : HpT S ps rs ys ts u0 u1 nur half p.cs i) (hi : i < nl) (hn : nl ≤ 60) (hd : DoIn wd db (dof + i * 5) ⟨2, da, dby, dn, dv⟩)
  (hJ : ∀ a' w', HpR w0 B L hv hmv p lim nur (some ⟨db, dof, none⟩) nl lc ask at_ pb ub half i a' w' → J a' w') (hK : ∀ a' w', Go.Met J a' w' → K' a' w') :
  (hpB 1).wp Tryd.prog (Exit.then K' Q') (hpF lim nur (some ⟨db, dof, none⟩) nl lc ask at_ pb L.hb ub half ov rv yv tv (.int .i64 i) f) wd := by
 obtain ⟨d0, d1, d2, d3, d4⟩ := hd
 simp only at d0 d1 d2 d3 d4
 have HC := Lib.hid hC
 have HJ := Lib.hid hJ
 have HK := Lib.hid hK
 have hUD := (Upd.refl [] wd).alloc (.cells #[.int .i64 2, .int .i64 da, .int .i64 dby, .int .i64 dn, .int .i64 dv] 45)
 have HM := Lib.hid (hM.same hUD)
 have HT := Lib.hid hT
 have HX := Lib.hid (heap_alloc_new wd (.cells #[.int .i64 2, .int .i64 da, .int .i64 dby, .int .i64 dn, .int .i64 dv] 45))
 clear hC hM hJ hT hUD hK
 unfold hpF
 conv => arg 2; whnf
 go_upto_region 48 with fail
 rename_i K1 hK1
 have HK1 := Lib.hid hK1
 clear d0 d1 d2 d3 d4 hK1
 generalize wd.alloc (.cells #[.int .i64 2, .int .i64 da, .int .i64 dby, .int .i64 dn, .int .i64 dv] 45) = wx at HM HX ⊢
 generalize wd.heap.size = xd at HX ⊢
 refine wp_cut (fun a' w' => w' = wx ∧ ∃ f, a' = hpF lim nur (some ⟨db, dof, none⟩) nl lc ask at_ pb L.hb ub half ov rv yv tv (.int .i64 i) f ∧ (f 25 = .pointer (some ⟨xd, 0, none⟩) ∧ f 26 = .int .i64 1 ∧ f 27 = .int .i64 da ∧ f 28 = .bool (decide (MayC p.cs da dn)))) ?_ ?_
 rotate_left 1
 ·intro J2 K2 hJ2 hK2
  refine wp_hpFP (lim := lim) (nur := nur) (la := some ⟨db, dof, none⟩) (nl := nl) (lc := lc) (ask := ask) (at_ := at_) (pb := pb) (hb := L.hb) (ub := ub) (half := half) (s19 := ov) (s20 := rv) (s21 := yv) (s22 := tv) (s24 := .int .i64 i) (fun f => f 25 = .pointer (some ⟨xd, 0, none⟩) ∧ f 26 = .int .i64 1 ∧ f 27 = .int .i64 da) (by kernel_rfl) ⟨rfl, rfl, rfl⟩ (fun f hf => ?_)
  exact hreg48 HC.out HM.out.upd HX.out hf.1 hf.2.1 hf.2.2 hJ2 hK2
 rintro a wx ⟨rfl, f, rfl, h25, h26, h27, h28⟩
 refine HK1.out _ _ ?_
 clear HK1
 unfold hpF
 rw [h25, h26, h27, h28]
 clear h25 h26 h27 h28 K1
 go_upto_if 306 with fail
 rename_i K1 hK1
 have HK1 := Lib.hid hK1
 clear hK1
 refine wp_cut (fun a' w' => Upd [] wx w' ∧ ∃ f, a' = hpF lim nur (some ⟨db, dof, none⟩) nl lc ask at_ pb L.hb ub half ov rv yv tv (.int .i64 i) f ∧ (f 25 = .pointer (some ⟨xd, 0, none⟩) ∧ f 26 = .int .i64 ((1 : Nat) : Int) ∧ f 27 = .int .i64 da ∧ f 28 = .bool (S.room 1 da dn) ∧ f 29 = .int .i64 (if MayC p.cs da dn then 2 + wantN p.cs da dn else 0))) ?_ ?_
 rotate_left 1
 ·intro J2 K2 hJ2 hK2
  refine wp_hpFP (lim := lim) (nur := nur) (la := some ⟨db, dof, none⟩) (nl := nl) (lc := lc) (ask := ask) (at_ := at_) (pb := pb) (hb := L.hb) (ub := ub) (half := half) (s19 := ov) (s20 := rv) (s21 := yv) (s22 := tv) (s24 := .int .i64 i) (fun f => f 25 = .pointer (some ⟨xd, 0, none⟩) ∧ f 26 = .int .i64 ((1 : Nat) : Int) ∧ f 27 = .int .i64 da ∧ f 28 = .bool (decide (MayC p.cs da dn)) ∧ f 29 = .int .i64 0 ∧ f 306 = .bool (decide (MayC p.cs da dn))) (by kernel_rfl) ⟨rfl, rfl, rfl, rfl, rfl, rfl⟩ (fun f hf => ?_)
  exact hif306 HC.out HM.out HT.out HX.out (by omega) hf.1 hf.2.1 hf.2.2.1 hf.2.2.2.1 hf.2.2.2.2.1 hf.2.2.2.2.2 hJ2 hK2
 rintro a w2 ⟨hu2, f, rfl, h25, h26, h27, h28, h29⟩
 refine HK1.out _ _ ?_
 have HM2 := Lib.hid (HM.out.same hu2)
 have x3 : w2.cell? ⟨xd, 3, none⟩ = some (.int .i64 dn) := hu2.cell (by rw [cell_of HX.out]; rfl) (by simp)
 have h26' : f 26 = .int .i64 1 := h26
 clear HK1 hu2 h26
 have HY := Lib.hid (old1 (c := da) (n := dn) HM2.out.hp HT.out.k.now)
 unfold hpF
 rw [h25, h26', h27, h28, h29]
 clear h25 h26' h27 h28 h29 K1
 cases hr : S.room 1 da dn with
 | false =>
  rw [hr] at HY
  obtain ⟨q1, q2⟩ := room_not hr
  rw [q1, q2] at HY
  clear q1 q2 hr
  generalize (if MayC p.cs da dn then 2 + wantN p.cs da dn else 0) = wv
  as_aux_lemma =>
   go_wp2_with fail
   refine HY.out.mono ?_
   rintro e w3 ⟨rfl, hH3, hu3⟩
   have HM3 := Lib.hid (HM2.out.heap hH3 hu3 (by simp))
   clear hH3 hu3 HY HM2 x3
   go_wp2_with fail
   exact HK.out _ _ (Go.Met.intro (HJ.out _ _ ⟨_, _, _, _, _, _, _, _, _, _, _, HM3.out, HT.out.mono (by omega), hpF_eq (by kernel_rfl)⟩))
 | true =>
  rw [hr] at HY
  have hcs := HT.out.cs
  have hmc := room_may hr
  obtain ⟨_, q1, _⟩ := mayC_room HT.out.k.ok hmc 1 (by omega)
  obtain ⟨ft, q2, q3⟩ := q1 hr
  have hwb := mayC_want HT.out.k.ok hmc
  rw [hcs] at hmc hwb ft q3
  rw [q2, q3] at HY
  rw [if_pos hmc]
  obtain ⟨m, hm⟩ : ∃ m : Nat, wantN p.cs da dn = (m : Int) := ⟨(wantN p.cs da dn).toNat, by omega⟩
  rw [hm] at ft HY ⊢
  have hsp := HT.out.k.ok.sp0 1
  have hdr : decide ((S.sp 1).top + 1 ≤ 0) = false := decide_eq_false (by omega)
  have FT := Lib.hid ft
  clear q1 q2 q3 hr hcs hmc hwb hm ft hsp
  generalize hrr : (S.sp 1).top + 1 = r at HY hdr
  have HRR := Lib.hid hrr
  clear hrr
  as_aux_lemma =>
   go_wp2_with fail
   refine HY.out.mono ?_
   rintro e w3 ⟨rfl, hH3, hu3⟩
   have HM3 := Lib.hid (HM2.out.heap hH3 hu3 (by simp))
   clear hH3 hu3 HY HM2 x3
   go_upto_if 361 with fail
   rename_i K1 hK1
   have HK1 := Lib.hid hK1
   clear hK1
   refine wp_cut (fun a' w' => w' = w3 ∧ ∃ f, a' = hpF lim nur (some ⟨db, dof, none⟩) nl lc ask at_ pb L.hb ub half ov rv yv tv (.int .i64 i) f ∧ (f 26 = .int .i64 ((1 : Nat) : Int) ∧ f 27 = .int .i64 da ∧ f 29 = .int .i64 (2 + (m : Int)) ∧ f 30 = .int .i64 r)) ?_ ?_
   ·rintro a w4 ⟨rfl, f, rfl, h26, h27, h29, h30⟩
    refine HK1.out _ _ ?_
    rw [← HRR.out] at h30
    exact hnote HC.out HT.out FT.out HM3.out (by omega) hi hn h26 h27 h29 h30 (fun a w h => HK.out _ _ (Go.Met.intro (HJ.out _ _ h)))
   ·intro J2 K2 hJ2 hK2
    have HJ2 := Lib.hid hJ2
    clear hJ2
    go_wp2_with fail
    exact Go.Met.intro (HJ2.out _ _ ⟨rfl, hpF_eqP _ (by kernel_rfl) ⟨rfl, rfl, rfl, rfl⟩⟩)

end Go.Proofs.YtbcoejmiihgfoaaDoor
