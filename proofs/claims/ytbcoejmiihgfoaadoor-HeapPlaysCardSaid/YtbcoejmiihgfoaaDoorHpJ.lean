/- HeapPlays: what is marked was touched. -/
import Derived.Test.YtbcoejmiihgfoaaDoorHpV
import Derived.Test.YtbcoejmiihgfoaaDoorHpG
import Derived.Test.YtbcoejmiihgfoaaDoorHeldL
/-! HeapPlays: what is marked was touched. -/
namespace Go.Proofs.YtbcoejmiihgfoaaDoor
open Go.RowKit

theorem plus1_get (l : List Nat) (q : Nat) (h : q < l.length) : (plus1 l).getD q 0 = ((l.getD q 0 : Nat) : Int) + 1 := by
 unfold plus1
 simp [h]
set_option maxRecDepth 1000000 in
set_option maxHeartbeats 16000000 in
theorem hblk7 {w0 wx : World} {B ub pb nl lc i : Nat} {la : Option Addr} {L : HL} {hv hmv : Value} {cs : List ByteArray} {lim nur half ask at_ : Int} {S : Hp} {ov rv yv tv : Value} {ps : List OP} {rs : List Int} {ys : List Bool} {ts : List Int} {u0 u1 : Int} {s24 : Value} {uv : Value} {Bm : Nat} {f : Nat → Value} {Q : Exit → Act → World → Prop}
  (hM : HpW w0 wx B ub L hv hmv S ov rv yv tv ps rs ys ts u0 u1) (hT : HpT S ps rs ys ts u0 u1 nur half cs i) (htl : ts.length ≤ 100) (hu : OwnI wx Bm 3 uv (plus1 (blist S.mr))) (hml : (plus1 (blist S.mr)).length ≤ 70000) (h51 : f 51 = uv) (h52 : f 52 = .int .i64 0)
  (hQ : ∀ a' w', (Upd [] wx w' ∧ ∃ f, a' = hpF lim nur la nl lc ask at_ pb L.hb ub half ov rv yv tv s24 f ∧ f 51 = uv) → Q .normal a' w') :
  (hpB 7).wp Tryd.prog Q (hpF lim nur la nl lc ask at_ pb L.hb ub half ov rv yv tv s24 f) wx := by
 have HQ := Lib.hid hQ
 obtain ⟨tp, tc, rfl⟩ := own_shape hM.tch
 obtain ⟨ib, hiv, _⟩ := hM.tch.ints
 have HIV := Lib.hid hiv
 have hsrt : ∀ q, q + 1 < (plus1 (blist S.mr)).length → (plus1 (blist S.mr)).getD q 0 < (plus1 (blist S.mr)).getD (q + 1) 0 := fun q hq => by
  have hl : (plus1 (blist S.mr)).length = (blist S.mr).length := by simp [plus1]
  rw [hl] at hq
  rw [plus1_get _ _ (by omega), plus1_get _ _ hq]
  have h := List.pairwise_iff_getElem.1 (blist_sorted S.mr) q (q + 1) (by omega) hq (by omega)
  rw [List.getD_eq_getElem?_getD, List.getElem?_eq_getElem (by omega : q < (blist S.mr).length), List.getD_eq_getElem?_getD, List.getElem?_eq_getElem hq]
  simp only [Option.getD_some]
  omega
 have hin : ∀ q, q < (plus1 (blist S.mr)).length → (plus1 (blist S.mr)).getD q 0 ∈ ts := fun q hq => by
  have hl : (plus1 (blist S.mr)).length = (blist S.mr).length := by simp [plus1]
  rw [hl] at hq
  rw [plus1_get _ _ hq]
  refine hT.k.mks _ ((mem_blist _ _).1 ?_)
  rw [List.getD_eq_getElem?_getD, List.getElem?_eq_getElem hq]
  exact List.getElem_mem hq
 generalize plus1 (blist S.mr) = ms at *
 have HSR := Lib.hid hsrt
 have HIN := Lib.hid hin
 obtain ⟨mp, mc, hmv⟩ := own_shape hu
 have HUO := Lib.hid hu
 subst hmv
 clear hQ hM hT hiv hsrt hin hu
 unfold hpF
 rw [h51, h52]
 conv => arg 2; whnf
 clear h51 h52
 go_wp2_with fail
 refine wp_loop (fun a w => ∃ q : Nat, q ≤ ms.length ∧ Upd [] wx w ∧ ∃ f, a = hpF lim nur la nl lc ask at_ pb L.hb ub half ov rv yv (.slice tp ts.length tc) s24 f ∧ f 51 = .slice mp ms.length mc ∧ f 52 = .int .i64 (q : Int)) (fun a' _ => ms.length - (intOf (a'.tmps.getD 52 undef)).toNat) ?_ ?_
 ·exact ⟨0, by omega, Upd.refl _ _, hpF_eqP _ (by kernel_rfl) ⟨rfl, rfl⟩⟩
 ·rintro a w ⟨q, hq, hu, f, rfl, h51, h52⟩
  have HU := Lib.hid hu
  unfold hpF
  rw [h51, h52]
  clear h51 h52 hu
  by_cases hlt : q < ms.length
  ·obtain ⟨mg, mc', hmv, hmc⟩ := HUO.out.nth1 q hlt
   injection hmv with e1 _ e3
   subst e1 e3
   have v0 := HU.out.cell hmc (by simp)
   have hxin := HIN.out q hlt
   obtain ⟨x, hx⟩ : ∃ x, ms.getD q 0 = x := ⟨_, rfl⟩
   rw [hx] at hxin v0
   have hiw : IntsV w.drew (.slice tp ts.length tc) ib ts := ⟨HIV.out.1, fun i hi => (HU.out.drew).cell (HIV.out.2 i hi) (by simp)⟩
   have HA := Lib.hid (among_any (.slice tp ts.length tc) ib ts x w.drew hiw (by omega))
   rw [decide_eq_true hxin] at HA
   have hq1 : (q : Int) < (ms.length : Int) := by omega
   have hq0 : (0 : Int) ≤ (q : Int) := by omega
   have HX := Lib.hid hx
   clear hmc hxin hiw hx
   by_cases hz : q = 0
   ·subst hz
    have k0 : w.drew.cell? ⟨mg, 0, none⟩ = some (.int .i64 x) := v0
    clear v0
    as_aux_lemma =>
    go_upto_region 90 with fail
    refine wp_region_noPanic ?_
    refine wp_region_L (S := fun W => W.cell? ⟨mg, 0, none⟩ = some (.int .i64 x)) 22 (by kernel_rfl) ?_ (fun hHeld => ?_)
    ·first | exact k0
    refine wpAnyL_takeP (i := 0) [1, 2, 14, 22] (oi := ?_) (v := ?_) ?_ (by kernel_rfl) (by kernel_rfl) (by kernel_rfl) (by kernel_rfl) (fun _ _ _ h => h) (Or.inl ⟨?_, ?_⟩) hHeld ?_
    rotate_left 2
    ·simp only [List.getElem?_toArray, List.getElem?_cons_zero]; rfl
    ·rfl
    ·intro _ hSw; (try dsimp only at hSw); go_simp <;> with_reducible rfl
    (try simp only [Act.put, List.setIfInBounds_toArray, List.set_cons_zero, List.set_cons_succ])
    refine wpAnyL_takeP (i := 1) [2, 14, 22] (oi := ?_) (v := ?_) ?_ (by kernel_rfl) (by kernel_rfl) (by kernel_rfl) (by kernel_rfl) (fun _ _ _ h => h) (Or.inl ⟨?_, ?_⟩) hHeld ?_
    rotate_left 2
    ·simp only [List.getElem?_toArray, List.getElem?_cons_zero, List.getElem?_cons_succ]; rfl
    ·rfl
    ·intro _ hSw; (try dsimp only at hSw); go_simp <;> with_reducible rfl
    (try simp only [Act.put, List.setIfInBounds_toArray, List.set_cons_zero, List.set_cons_succ])
    refine wpAnyL_takeP (i := 2) [14, 22] (oi := ?_) (v := ?_) ?_ (by kernel_rfl) (by kernel_rfl) (by kernel_rfl) (by kernel_rfl) (fun _ _ _ h => h) (Or.inl ⟨?_, ?_⟩) hHeld ?_
    rotate_left 2
    ·simp only [List.getElem?_toArray, List.getElem?_cons_zero, List.getElem?_cons_succ]; rfl
    ·rfl
    ·intro _ hSw; (try dsimp only at hSw); go_simp <;> with_reducible rfl
    (try simp only [Act.put, List.setIfInBounds_toArray, List.set_cons_zero, List.set_cons_succ])
    refine wpAnyL_takeP (i := 3) [6, 7, 12, 13, 14, 22] (oi := ?_) (v := undef) ?_ (by kernel_rfl) (by kernel_rfl) (by kernel_rfl) (by kernel_rfl) (fun _ _ _ h => h) (Or.inr ⟨?_, rfl⟩) hHeld ?_
    rotate_left 1
    ·simp only [List.getElem?_toArray, List.getElem?_cons_zero, List.getElem?_cons_succ]; rfl
    ·rfl
    (try simp only [Act.put, List.setIfInBounds_toArray, List.set_cons_zero, List.set_cons_succ])
    refine wpAnyL_takeP (i := 4) [5, 6, 7, 12, 13, 14, 22] (oi := ?_) (v := undef) ?_ (by kernel_rfl) (by kernel_rfl) (by kernel_rfl) (by kernel_rfl) (fun _ _ _ h => h) (Or.inr ⟨?_, rfl⟩) hHeld ?_
    rotate_left 1
    ·simp only [List.getElem?_toArray, List.getElem?_cons_zero, List.getElem?_cons_succ]; rfl
    ·rfl
    (try simp only [Act.put, List.setIfInBounds_toArray, List.set_cons_zero, List.set_cons_succ])
    refine wpAnyL_takeP (i := 5) [6, 7, 12, 13, 14, 22] (oi := ?_) (v := undef) ?_ (by kernel_rfl) (by kernel_rfl) (by kernel_rfl) (by kernel_rfl) (fun _ _ _ h => h) (Or.inr ⟨?_, rfl⟩) hHeld ?_
    rotate_left 1
    ·simp only [List.getElem?_toArray, List.getElem?_cons_zero, List.getElem?_cons_succ]; rfl
    ·rfl
    (try simp only [Act.put, List.setIfInBounds_toArray, List.set_cons_zero, List.set_cons_succ])
    refine wpAnyL_takeP (i := 6) [7, 12, 13, 14, 22] (oi := ?_) (v := undef) ?_ (by kernel_rfl) (by kernel_rfl) (by kernel_rfl) (by kernel_rfl) (fun _ _ _ h => h) (Or.inr ⟨?_, rfl⟩) hHeld ?_
    rotate_left 1
    ·simp only [List.getElem?_toArray, List.getElem?_cons_zero, List.getElem?_cons_succ]; rfl
    ·rfl
    (try simp only [Act.put, List.setIfInBounds_toArray, List.set_cons_zero, List.set_cons_succ])
    refine wpAnyL_takeP (i := 7) [12, 13, 14, 22] (oi := ?_) (v := undef) ?_ (by kernel_rfl) (by kernel_rfl) (by kernel_rfl) (by kernel_rfl) (fun _ _ _ h => h) (Or.inr ⟨?_, rfl⟩) hHeld ?_
    rotate_left 1
    ·simp only [List.getElem?_toArray, List.getElem?_cons_zero, List.getElem?_cons_succ]; rfl
    ·rfl
    (try simp only [Act.put, List.setIfInBounds_toArray, List.set_cons_zero, List.set_cons_succ])
    refine wpAnyL_takeP (i := 8) [10, 11, 12, 13, 14, 22] (oi := ?_) (v := undef) ?_ (by kernel_rfl) (by kernel_rfl) (by kernel_rfl) (by kernel_rfl) (fun _ _ _ h => h) (Or.inr ⟨?_, rfl⟩) hHeld ?_
    rotate_left 1
    ·simp only [List.getElem?_toArray, List.getElem?_cons_zero, List.getElem?_cons_succ]; rfl
    ·rfl
    (try simp only [Act.put, List.setIfInBounds_toArray, List.set_cons_zero, List.set_cons_succ])
    refine wpAnyL_takeP (i := 9) [10, 11, 12, 13, 14, 22] (oi := ?_) (v := undef) ?_ (by kernel_rfl) (by kernel_rfl) (by kernel_rfl) (by kernel_rfl) (fun _ _ _ h => h) (Or.inr ⟨?_, rfl⟩) hHeld ?_
    rotate_left 1
    ·simp only [List.getElem?_toArray, List.getElem?_cons_zero, List.getElem?_cons_succ]; rfl
    ·rfl
    (try simp only [Act.put, List.setIfInBounds_toArray, List.set_cons_zero, List.set_cons_succ])
    refine wpAnyL_takeP (i := 10) [11, 12, 13, 14, 22] (oi := ?_) (v := undef) ?_ (by kernel_rfl) (by kernel_rfl) (by kernel_rfl) (by kernel_rfl) (fun _ _ _ h => h) (Or.inr ⟨?_, rfl⟩) hHeld ?_
    rotate_left 1
    ·simp only [List.getElem?_toArray, List.getElem?_cons_zero, List.getElem?_cons_succ]; rfl
    ·rfl
    (try simp only [Act.put, List.setIfInBounds_toArray, List.set_cons_zero, List.set_cons_succ])
    refine wpAnyL_takeP (i := 11) [12, 13, 14, 22] (oi := ?_) (v := undef) ?_ (by kernel_rfl) (by kernel_rfl) (by kernel_rfl) (by kernel_rfl) (fun _ _ _ h => h) (Or.inr ⟨?_, rfl⟩) hHeld ?_
    rotate_left 1
    ·simp only [List.getElem?_toArray, List.getElem?_cons_zero, List.getElem?_cons_succ]; rfl
    ·rfl
    (try simp only [Act.put, List.setIfInBounds_toArray, List.set_cons_zero, List.set_cons_succ])
    refine wpAnyL_takeP (i := 12) [13, 14, 22] (oi := ?_) (v := undef) ?_ (by kernel_rfl) (by kernel_rfl) (by kernel_rfl) (by kernel_rfl) (fun _ _ _ h => h) (Or.inr ⟨?_, rfl⟩) hHeld ?_
    rotate_left 1
    ·simp only [List.getElem?_toArray, List.getElem?_cons_zero, List.getElem?_cons_succ]; rfl
    ·rfl
    (try simp only [Act.put, List.setIfInBounds_toArray, List.set_cons_zero, List.set_cons_succ])
    refine wpAnyL_takeP (i := 13) [14, 22] (oi := ?_) (v := ?_) ?_ (by kernel_rfl) (by kernel_rfl) (by kernel_rfl) (by kernel_rfl) (fun _ _ _ h => h) (Or.inl ⟨?_, ?_⟩) hHeld ?_
    rotate_left 2
    ·simp only [List.getElem?_toArray, List.getElem?_cons_zero, List.getElem?_cons_succ]; rfl
    ·rfl
    ·intro _ hSw; (try dsimp only at hSw); go_simp <;> with_reducible rfl
    (try simp only [Act.put, List.setIfInBounds_toArray, List.set_cons_zero, List.set_cons_succ])
    refine wpAnyL_takeP (i := 14) [22] (oi := ?_) (v := ?_) ?_ (by kernel_rfl) (by kernel_rfl) (by kernel_rfl) (by kernel_rfl) (fun _ _ _ h => h) (Or.inl ⟨?_, ?_⟩) hHeld ?_
    rotate_left 2
    ·simp only [List.getElem?_toArray, List.getElem?_cons_zero, List.getElem?_cons_succ]; rfl
    ·rfl
    ·intro _ hSw; (try dsimp only at hSw); go_simp <;> with_reducible rfl
    (try simp only [Act.put, List.setIfInBounds_toArray, List.set_cons_zero, List.set_cons_succ])
    refine wpAnyL_takeP (i := 15) [20, 21, 22] (oi := ?_) (v := ?_) ?_ (by kernel_rfl) (by kernel_rfl) (by kernel_rfl) (by kernel_rfl) (fun _ _ _ h => h) (Or.inl ⟨?_, ?_⟩) hHeld ?_
    rotate_left 2
    ·simp only [List.getElem?_toArray, List.getElem?_cons_zero, List.getElem?_cons_succ]; rfl
    ·rfl
    ·intro _ hSw; (try dsimp only at hSw); go_simp <;> with_reducible rfl
    (try simp only [Act.put, List.setIfInBounds_toArray, List.set_cons_zero, List.set_cons_succ])
    refine wpAnyL_takeP (i := 16) [18, 19, 20, 21, 22] (oi := ?_) (v := ?_) ?_ (by kernel_rfl) (by kernel_rfl) (by kernel_rfl) (by kernel_rfl) (fun _ _ _ h => h) (Or.inl ⟨?_, ?_⟩) hHeld ?_
    rotate_left 2
    ·simp only [List.getElem?_toArray, List.getElem?_cons_zero, List.getElem?_cons_succ]; rfl
    ·rfl
    ·intro _ hSw; (try dsimp only at hSw); go_simp <;> with_reducible rfl
    (try simp only [Act.put, List.setIfInBounds_toArray, List.set_cons_zero, List.set_cons_succ])
    refine wpAnyL_takeP (i := 17) [18, 19, 20, 21, 22] (oi := ?_) (v := ?_) ?_ (by kernel_rfl) (by kernel_rfl) (by kernel_rfl) (by kernel_rfl) (fun _ _ _ h => h) (Or.inl ⟨?_, ?_⟩) hHeld ?_
    rotate_left 2
    ·simp only [List.getElem?_toArray, List.getElem?_cons_zero, List.getElem?_cons_succ]; rfl
    ·rfl
    ·intro _ hSw; (try dsimp only at hSw); go_simp <;> with_reducible rfl
    (try simp only [Act.put, List.setIfInBounds_toArray, List.set_cons_zero, List.set_cons_succ])
    refine wpAnyL_takeP (i := 18) [19, 20, 21, 22] (oi := ?_) (v := ?_) ?_ (by kernel_rfl) (by kernel_rfl) (by kernel_rfl) (by kernel_rfl) (fun _ _ _ h => h) (Or.inl ⟨?_, ?_⟩) hHeld ?_
    rotate_left 2
    ·simp only [List.getElem?_toArray, List.getElem?_cons_zero, List.getElem?_cons_succ]; rfl
    ·rfl
    ·intro _ hSw; (try dsimp only at hSw); go_simp <;> with_reducible rfl
    (try simp only [Act.put, List.setIfInBounds_toArray, List.set_cons_zero, List.set_cons_succ])
    refine wpAnyL_takeP (i := 19) [20, 21, 22] (oi := ?_) (v := ?_) ?_ (by kernel_rfl) (by kernel_rfl) (by kernel_rfl) (by kernel_rfl) (fun _ _ _ h => h) (Or.inl ⟨?_, ?_⟩) hHeld ?_
    rotate_left 2
    ·simp only [List.getElem?_toArray, List.getElem?_cons_zero, List.getElem?_cons_succ]; rfl
    ·rfl
    ·intro _ hSw; (try dsimp only at hSw); go_simp <;> with_reducible rfl
    (try simp only [Act.put, List.setIfInBounds_toArray, List.set_cons_zero, List.set_cons_succ])
    refine wpAnyL_one (i := 20) (o := ?_) (by kernel_rfl) ?_ (fun K hK => ?_)
    rotate_left 1
    ·simp only [List.getElem?_toArray, List.getElem?_cons_zero, List.getElem?_cons_succ]; rfl
    clear hHeld
    go_simp
    (go_at_call 13; refine (HA.out).mono ?_; rintro e w3 ⟨rfl, rfl⟩)
    try go_wp2_with fail
    refine hK.out _ _ ?_ (fun hHeld => ?_)
    ·first | exact k0
    clear hK K
    (try simp only [Act.put, List.setIfInBounds_toArray, List.set_cons_zero, List.set_cons_succ])
    refine wpAnyL_takeP (i := 21) [22] (oi := ?_) (v := ?_) ?_ (by kernel_rfl) (by kernel_rfl) (by kernel_rfl) (by kernel_rfl) (fun _ _ _ h => h) (Or.inl ⟨?_, ?_⟩) hHeld ?_
    rotate_left 2
    ·simp only [List.getElem?_toArray, List.getElem?_cons_zero, List.getElem?_cons_succ]; rfl
    ·rfl
    ·intro _ hSw; (try dsimp only at hSw); go_simp <;> with_reducible rfl
    (try simp only [Act.put, List.setIfInBounds_toArray, List.set_cons_zero, List.set_cons_succ])
    refine wpAnyL_last (o := ?_) (by kernel_rfl) ?_ (fun K hK => ?_)
    rotate_left 1
    ·simp only [List.getElem?_toArray, List.getElem?_cons_zero, List.getElem?_cons_succ]; rfl
    clear hHeld
    go_simp
    refine hK.out _ _ ?_
    clear hK K
    (try simp only [Act.put, List.setIfInBounds_toArray, List.set_cons_zero, List.set_cons_succ])
    refine wpAnyL_done (by kernel_rfl) ?_ _
    refine NoPanic.normal ?_
    go_wp2_with fail
    refine ⟨⟨0 + 1, hlt, HU.out.drew, hpF_eqP _ (by kernel_rfl) ⟨rfl, rfl⟩⟩, ?_⟩
    show ms.length - (0 + 1) < ms.length - 0
    omega
   ·obtain ⟨mg2, mc2, hmv2, hmc2⟩ := HUO.out.nth1 (q - 1) (by omega)
    injection hmv2 with e1 _ e3
    injection e1 with e1
    injection e1 with e1
    subst e1
    clear e3
    have v1 := HU.out.cell hmc2 (by simp)
    have hls := HSR.out (q - 1) (by omega)
    have e : q - 1 + 1 = q := by omega
    rw [e, HX.out] at hls
    obtain ⟨z, hzz⟩ : ∃ z, ms.getD (q - 1) 0 = z := ⟨_, rfl⟩
    rw [hzz] at hls v1
    have d0 : decide (x ≤ z) = false := decide_eq_false (by omega)
    have d1 : decide (0 < (q : Int)) = true := decide_eq_true (by omega)
    have d2 : decide (0 < q) = true := decide_eq_true (by omega)
    have hw1 : IntKind.i64.wrap ((q : Int) - 1) = ((q - 1 : Nat) : Int) := by rw [IntWalk.i64_in _ (by omega)]; omega
    have hq2 : ((q - 1 : Nat) : Int) < (ms.length : Int) := by omega
    have hq3 : (0 : Int) ≤ ((q - 1 : Nat) : Int) := by omega
    have k0 : w.drew.cell? ⟨mg, q, none⟩ = some (.int .i64 x) ∧ w.drew.cell? ⟨mg, q - 1, none⟩ = some (.int .i64 z) := ⟨v0, v1⟩
    clear v0 v1 hmc2 hls e hzz hz
    as_aux_lemma =>
    go_upto_region 90 with fail
    refine wp_region_noPanic ?_
    refine wp_region_L (S := fun W => W.cell? ⟨mg, q, none⟩ = some (.int .i64 x) ∧ W.cell? ⟨mg, q - 1, none⟩ = some (.int .i64 z)) 22 (by kernel_rfl) ?_ (fun hHeld => ?_)
    ·first | exact k0
    refine wpAnyL_takeP (i := 0) [1, 2, 14, 22] (oi := ?_) (v := ?_) ?_ (by kernel_rfl) (by kernel_rfl) (by kernel_rfl) (by kernel_rfl) (fun _ _ _ h => h) (Or.inl ⟨?_, ?_⟩) hHeld ?_
    rotate_left 2
    ·simp only [List.getElem?_toArray, List.getElem?_cons_zero]; rfl
    ·rfl
    ·intro _ hSw; (try dsimp only at hSw); go_simp <;> with_reducible rfl
    (try simp only [Act.put, List.setIfInBounds_toArray, List.set_cons_zero, List.set_cons_succ])
    refine wpAnyL_takeP (i := 1) [2, 14, 22] (oi := ?_) (v := ?_) ?_ (by kernel_rfl) (by kernel_rfl) (by kernel_rfl) (by kernel_rfl) (fun _ _ _ h => h) (Or.inl ⟨?_, ?_⟩) hHeld ?_
    rotate_left 2
    ·simp only [List.getElem?_toArray, List.getElem?_cons_zero, List.getElem?_cons_succ]; rfl
    ·rfl
    ·intro _ hSw; (try dsimp only at hSw); go_simp <;> with_reducible rfl
    (try simp only [Act.put, List.setIfInBounds_toArray, List.set_cons_zero, List.set_cons_succ])
    refine wpAnyL_takeP (i := 2) [14, 22] (oi := ?_) (v := ?_) ?_ (by kernel_rfl) (by kernel_rfl) (by kernel_rfl) (by kernel_rfl) (fun _ _ _ h => h) (Or.inl ⟨?_, ?_⟩) hHeld ?_
    rotate_left 2
    ·simp only [List.getElem?_toArray, List.getElem?_cons_zero, List.getElem?_cons_succ]; rfl
    ·rfl
    ·intro _ hSw; (try dsimp only at hSw); go_simp <;> with_reducible rfl
    (try simp only [Act.put, List.setIfInBounds_toArray, List.set_cons_zero, List.set_cons_succ])
    refine wpAnyL_takeP (i := 3) [6, 7, 12, 13, 14, 22] (oi := ?_) (v := ?_) ?_ (by kernel_rfl) (by kernel_rfl) (by kernel_rfl) (by kernel_rfl) (fun _ _ _ h => h) (Or.inl ⟨?_, ?_⟩) hHeld ?_
    rotate_left 2
    ·simp only [List.getElem?_toArray, List.getElem?_cons_zero, List.getElem?_cons_succ]; rfl
    ·rfl
    ·intro _ hSw; (try dsimp only at hSw); go_simp <;> with_reducible rfl
    (try simp only [Act.put, List.setIfInBounds_toArray, List.set_cons_zero, List.set_cons_succ])
    refine wpAnyL_takeP (i := 4) [5, 6, 7, 12, 13, 14, 22] (oi := ?_) (v := ?_) ?_ (by kernel_rfl) (by kernel_rfl) (by kernel_rfl) (by kernel_rfl) (fun _ _ _ h => h) (Or.inl ⟨?_, ?_⟩) hHeld ?_
    rotate_left 2
    ·simp only [List.getElem?_toArray, List.getElem?_cons_zero, List.getElem?_cons_succ]; rfl
    ·rfl
    ·intro _ hSw; (try dsimp only at hSw); go_simp <;> with_reducible rfl
    (try simp only [Act.put, List.setIfInBounds_toArray, List.set_cons_zero, List.set_cons_succ])
    refine wpAnyL_takeP (i := 5) [6, 7, 12, 13, 14, 22] (oi := ?_) (v := ?_) ?_ (by kernel_rfl) (by kernel_rfl) (by kernel_rfl) (by kernel_rfl) (fun _ _ _ h => h) (Or.inl ⟨?_, ?_⟩) hHeld ?_
    rotate_left 2
    ·simp only [List.getElem?_toArray, List.getElem?_cons_zero, List.getElem?_cons_succ]; rfl
    ·rfl
    ·intro _ hSw; (try dsimp only at hSw); go_simp <;> with_reducible rfl
    (try simp only [Act.put, List.setIfInBounds_toArray, List.set_cons_zero, List.set_cons_succ])
    refine wpAnyL_takeP (i := 6) [7, 12, 13, 14, 22] (oi := ?_) (v := ?_) ?_ (by kernel_rfl) (by kernel_rfl) (by kernel_rfl) (by kernel_rfl) (fun _ _ _ h => h) (Or.inl ⟨?_, ?_⟩) hHeld ?_
    rotate_left 2
    ·simp only [List.getElem?_toArray, List.getElem?_cons_zero, List.getElem?_cons_succ]; rfl
    ·rfl
    ·intro _ hSw; (try dsimp only at hSw); go_simp <;> with_reducible rfl
    (try simp only [Act.put, List.setIfInBounds_toArray, List.set_cons_zero, List.set_cons_succ])
    refine wpAnyL_takeP (i := 7) [12, 13, 14, 22] (oi := ?_) (v := ?_) ?_ (by kernel_rfl) (by kernel_rfl) (by kernel_rfl) (by kernel_rfl) (fun _ _ _ h => h) (Or.inl ⟨?_, ?_⟩) hHeld ?_
    rotate_left 2
    ·simp only [List.getElem?_toArray, List.getElem?_cons_zero, List.getElem?_cons_succ]; rfl
    ·rfl
    ·intro _ hSw; (try dsimp only at hSw); go_simp <;> with_reducible rfl
    (try simp only [Act.put, List.setIfInBounds_toArray, List.set_cons_zero, List.set_cons_succ])
    refine wpAnyL_takeP (i := 8) [10, 11, 12, 13, 14, 22] (oi := ?_) (v := ?_) ?_ (by kernel_rfl) (by kernel_rfl) (by kernel_rfl) (by kernel_rfl) (fun _ _ _ h => h) (Or.inl ⟨?_, ?_⟩) hHeld ?_
    rotate_left 2
    ·simp only [List.getElem?_toArray, List.getElem?_cons_zero, List.getElem?_cons_succ]; rfl
    ·rfl
    ·intro _ hSw; (try dsimp only at hSw); go_simp <;> with_reducible rfl
    (try simp only [Act.put, List.setIfInBounds_toArray, List.set_cons_zero, List.set_cons_succ])
    refine wpAnyL_takeP (i := 9) [10, 11, 12, 13, 14, 22] (oi := ?_) (v := ?_) ?_ (by kernel_rfl) (by kernel_rfl) (by kernel_rfl) (by kernel_rfl) (fun _ _ _ h => h) (Or.inl ⟨?_, ?_⟩) hHeld ?_
    rotate_left 2
    ·simp only [List.getElem?_toArray, List.getElem?_cons_zero, List.getElem?_cons_succ]; rfl
    ·rfl
    ·intro _ hSw; (try dsimp only at hSw); go_simp <;> with_reducible rfl
    (try simp only [Act.put, List.setIfInBounds_toArray, List.set_cons_zero, List.set_cons_succ])
    refine wpAnyL_takeP (i := 10) [11, 12, 13, 14, 22] (oi := ?_) (v := ?_) ?_ (by kernel_rfl) (by kernel_rfl) (by kernel_rfl) (by kernel_rfl) (fun _ _ _ h => h) (Or.inl ⟨?_, ?_⟩) hHeld ?_
    rotate_left 2
    ·simp only [List.getElem?_toArray, List.getElem?_cons_zero, List.getElem?_cons_succ]; rfl
    ·rfl
    ·intro _ hSw; (try dsimp only at hSw); go_simp <;> with_reducible rfl
    (try simp only [Act.put, List.setIfInBounds_toArray, List.set_cons_zero, List.set_cons_succ])
    refine wpAnyL_takeP (i := 11) [12, 13, 14, 22] (oi := ?_) (v := ?_) ?_ (by kernel_rfl) (by kernel_rfl) (by kernel_rfl) (by kernel_rfl) (fun _ _ _ h => h) (Or.inl ⟨?_, ?_⟩) hHeld ?_
    rotate_left 2
    ·simp only [List.getElem?_toArray, List.getElem?_cons_zero, List.getElem?_cons_succ]; rfl
    ·rfl
    ·intro _ hSw; (try dsimp only at hSw); go_simp <;> with_reducible rfl
    (try simp only [Act.put, List.setIfInBounds_toArray, List.set_cons_zero, List.set_cons_succ])
    refine wpAnyL_takeP (i := 12) [13, 14, 22] (oi := ?_) (v := ?_) ?_ (by kernel_rfl) (by kernel_rfl) (by kernel_rfl) (by kernel_rfl) (fun _ _ _ h => h) (Or.inl ⟨?_, ?_⟩) hHeld ?_
    rotate_left 2
    ·simp only [List.getElem?_toArray, List.getElem?_cons_zero, List.getElem?_cons_succ]; rfl
    ·rfl
    ·intro _ hSw; (try dsimp only at hSw); go_simp <;> with_reducible rfl
    (try simp only [Act.put, List.setIfInBounds_toArray, List.set_cons_zero, List.set_cons_succ])
    refine wpAnyL_takeP (i := 13) [14, 22] (oi := ?_) (v := ?_) ?_ (by kernel_rfl) (by kernel_rfl) (by kernel_rfl) (by kernel_rfl) (fun _ _ _ h => h) (Or.inl ⟨?_, ?_⟩) hHeld ?_
    rotate_left 2
    ·simp only [List.getElem?_toArray, List.getElem?_cons_zero, List.getElem?_cons_succ]; rfl
    ·rfl
    ·intro _ hSw; (try dsimp only at hSw); go_simp <;> with_reducible rfl
    (try simp only [Act.put, List.setIfInBounds_toArray, List.set_cons_zero, List.set_cons_succ])
    refine wpAnyL_takeP (i := 14) [22] (oi := ?_) (v := ?_) ?_ (by kernel_rfl) (by kernel_rfl) (by kernel_rfl) (by kernel_rfl) (fun _ _ _ h => h) (Or.inl ⟨?_, ?_⟩) hHeld ?_
    rotate_left 2
    ·simp only [List.getElem?_toArray, List.getElem?_cons_zero, List.getElem?_cons_succ]; rfl
    ·rfl
    ·intro _ hSw; (try dsimp only at hSw); go_simp <;> with_reducible rfl
    (try simp only [Act.put, List.setIfInBounds_toArray, List.set_cons_zero, List.set_cons_succ])
    refine wpAnyL_takeP (i := 15) [20, 21, 22] (oi := ?_) (v := ?_) ?_ (by kernel_rfl) (by kernel_rfl) (by kernel_rfl) (by kernel_rfl) (fun _ _ _ h => h) (Or.inl ⟨?_, ?_⟩) hHeld ?_
    rotate_left 2
    ·simp only [List.getElem?_toArray, List.getElem?_cons_zero, List.getElem?_cons_succ]; rfl
    ·rfl
    ·intro _ hSw; (try dsimp only at hSw); go_simp <;> with_reducible rfl
    (try simp only [Act.put, List.setIfInBounds_toArray, List.set_cons_zero, List.set_cons_succ])
    refine wpAnyL_takeP (i := 16) [18, 19, 20, 21, 22] (oi := ?_) (v := ?_) ?_ (by kernel_rfl) (by kernel_rfl) (by kernel_rfl) (by kernel_rfl) (fun _ _ _ h => h) (Or.inl ⟨?_, ?_⟩) hHeld ?_
    rotate_left 2
    ·simp only [List.getElem?_toArray, List.getElem?_cons_zero, List.getElem?_cons_succ]; rfl
    ·rfl
    ·intro _ hSw; (try dsimp only at hSw); go_simp <;> with_reducible rfl
    (try simp only [Act.put, List.setIfInBounds_toArray, List.set_cons_zero, List.set_cons_succ])
    refine wpAnyL_takeP (i := 17) [18, 19, 20, 21, 22] (oi := ?_) (v := ?_) ?_ (by kernel_rfl) (by kernel_rfl) (by kernel_rfl) (by kernel_rfl) (fun _ _ _ h => h) (Or.inl ⟨?_, ?_⟩) hHeld ?_
    rotate_left 2
    ·simp only [List.getElem?_toArray, List.getElem?_cons_zero, List.getElem?_cons_succ]; rfl
    ·rfl
    ·intro _ hSw; (try dsimp only at hSw); go_simp <;> with_reducible rfl
    (try simp only [Act.put, List.setIfInBounds_toArray, List.set_cons_zero, List.set_cons_succ])
    refine wpAnyL_takeP (i := 18) [19, 20, 21, 22] (oi := ?_) (v := ?_) ?_ (by kernel_rfl) (by kernel_rfl) (by kernel_rfl) (by kernel_rfl) (fun _ _ _ h => h) (Or.inl ⟨?_, ?_⟩) hHeld ?_
    rotate_left 2
    ·simp only [List.getElem?_toArray, List.getElem?_cons_zero, List.getElem?_cons_succ]; rfl
    ·rfl
    ·intro _ hSw; (try dsimp only at hSw); go_simp <;> with_reducible rfl
    (try simp only [Act.put, List.setIfInBounds_toArray, List.set_cons_zero, List.set_cons_succ])
    refine wpAnyL_takeP (i := 19) [20, 21, 22] (oi := ?_) (v := ?_) ?_ (by kernel_rfl) (by kernel_rfl) (by kernel_rfl) (by kernel_rfl) (fun _ _ _ h => h) (Or.inl ⟨?_, ?_⟩) hHeld ?_
    rotate_left 2
    ·simp only [List.getElem?_toArray, List.getElem?_cons_zero, List.getElem?_cons_succ]; rfl
    ·rfl
    ·intro _ hSw; (try dsimp only at hSw); go_simp <;> with_reducible rfl
    (try simp only [Act.put, List.setIfInBounds_toArray, List.set_cons_zero, List.set_cons_succ])
    refine wpAnyL_one (i := 20) (o := ?_) (by kernel_rfl) ?_ (fun K hK => ?_)
    rotate_left 1
    ·simp only [List.getElem?_toArray, List.getElem?_cons_zero, List.getElem?_cons_succ]; rfl
    clear hHeld
    go_simp
    (go_at_call 13; refine (HA.out).mono ?_; rintro e w3 ⟨rfl, rfl⟩)
    try go_wp2_with fail
    refine hK.out _ _ ?_ (fun hHeld => ?_)
    ·first | exact k0
    clear hK K
    (try simp only [Act.put, List.setIfInBounds_toArray, List.set_cons_zero, List.set_cons_succ])
    refine wpAnyL_takeP (i := 21) [22] (oi := ?_) (v := ?_) ?_ (by kernel_rfl) (by kernel_rfl) (by kernel_rfl) (by kernel_rfl) (fun _ _ _ h => h) (Or.inl ⟨?_, ?_⟩) hHeld ?_
    rotate_left 2
    ·simp only [List.getElem?_toArray, List.getElem?_cons_zero, List.getElem?_cons_succ]; rfl
    ·rfl
    ·intro _ hSw; (try dsimp only at hSw); go_simp <;> with_reducible rfl
    (try simp only [Act.put, List.setIfInBounds_toArray, List.set_cons_zero, List.set_cons_succ])
    refine wpAnyL_last (o := ?_) (by kernel_rfl) ?_ (fun K hK => ?_)
    rotate_left 1
    ·simp only [List.getElem?_toArray, List.getElem?_cons_zero, List.getElem?_cons_succ]; rfl
    clear hHeld
    go_simp
    refine hK.out _ _ ?_
    clear hK K
    (try simp only [Act.put, List.setIfInBounds_toArray, List.set_cons_zero, List.set_cons_succ])
    refine wpAnyL_done (by kernel_rfl) ?_ _
    refine NoPanic.normal ?_
    go_wp2_with fail
    refine ⟨⟨q + 1, hlt, HU.out.drew, hpF_eqP _ (by kernel_rfl) ⟨rfl, rfl⟩⟩, ?_⟩
    show ms.length - (q + 1) < ms.length - q
    omega
  ·obtain rfl : q = ms.length := by omega
   as_aux_lemma =>
    go_wp2_with fail
    exact HQ.out _ _ ⟨HU.out, hpF_eqP _ (by kernel_rfl) rfl⟩
end Go.Proofs.YtbcoejmiihgfoaaDoor
