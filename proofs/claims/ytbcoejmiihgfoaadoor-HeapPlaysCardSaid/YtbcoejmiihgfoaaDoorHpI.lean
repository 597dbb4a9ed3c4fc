/- HeapPlays: the values that are asked for. -/
import Derived.Test.YtbcoejmiihgfoaaDoorHpV
import Derived.Test.YtbcoejmiihgfoaaDoorHpG
import Derived.Test.YtbcoejmiihgfoaaDoorHeldL
/-! HeapPlays: the values that are asked for. -/
namespace Go.Proofs.YtbcoejmiihgfoaaDoor
open Go.RowKit

set_option maxRecDepth 1000000 in
set_option maxHeartbeats 16000000 in
theorem hblk5 {w0 wx : World} {B ub pb nl lc i : Nat} {la : Option Addr} {L : HL} {hv hmv : Value} {cs : List ByteArray} {lim nur half ask at_ : Int} {S : Hp} {ov rv yv tv : Value} {ps : List OP} {rs : List Int} {ys : List Bool} {ts : List Int} {u0 u1 : Int} {s24 : Value} {k n : Nat} {f : Nat → Value} {Q : Exit → Act → World → Prop}
  (hM : HpW w0 wx B ub L hv hmv S ov rv yv tv ps rs ys ts u0 u1) (hT : HpT S ps rs ys ts u0 u1 nur half cs i) (hk : k < rs.length) (hrl : rs.length ≤ 60) (hn : S.num (rs.getD k 0) = (n : Int)) (h42 : f 42 = .int .i64 (k : Int)) (h44 : f 44 = .int .i64 (n : Int)) (h46 : f 46 = .int .i64 0)
  (hQ : ∀ a' w', (Upd [] wx w' ∧ ∃ f, a' = hpF lim nur la nl lc ask at_ pb L.hb ub half ov rv yv tv s24 f ∧ f 42 = .int .i64 (k : Int) ∧ f 44 = .int .i64 (n : Int)) → Q .normal a' w') :
  (hpB 5).wp Tryd.prog Q (hpF lim nur la nl lc ask at_ pb L.hb ub half ov rv yv tv s24 f) wx := by
 obtain ⟨g, oc, gr, rc, gy, yc, rfl, rfl, rfl, hrows⟩ := hM.rows hT (by omega)
 obtain ⟨r0, _, _, vb, n', hn', o1, o2⟩ := hrows k hk
 obtain rfl : n' = n := by omega
 obtain ⟨hi1, hi2, hi3⟩ := hT.isr hk
 have hnb : n' ≤ 1048576 := by have := hT.k.ok.le hi1; omega
 have HQ := Lib.hid hQ
 have HM := Lib.hid hM
 have HO2 := Lib.hid o2
 have HG : Hid (∀ j : Nat, j < n' → S.getV (rs.getD k 0) j = S.get (rs.getD k 0) j ∧ S.hasV (rs.getD k 0) j = true) := fun j hj => by
  have h1 : S.hasV (rs.getD k 0) j = true := by unfold Hp.hasV; rw [hi1, Bool.true_and]; exact decide_eq_true (by omega)
  exact ⟨by unfold Hp.getV; rw [if_pos h1], h1⟩
 have HGA : Hid (∀ (j : Nat) (w : World), Upd [] wx w → Calls Tryd.prog 20 #[.pointer (some ⟨L.hb, 0, none⟩), .int .i64 (rs.getD k 0), .int .i64 (j : Int)] w fun e w' => e = .returned (.tuple #[.int .i64 (S.getV (rs.getD k 0) j), .bool (S.hasV (rs.getD k 0) j)]) ∧ w = w') := fun j w hu => get_any L hv hmv S (rs.getD k 0) j w (HM.out.hp.upd0 hu) (by omega)
 clear hQ hM hT hrows o2 hi1 hn hn'
 generalize rs.getD k 0 = r at *
 unfold hpF
 rw [h42, h44, h46]
 conv => arg 2; whnf
 clear h42 h44 h46
 have hk1 : (k : Int) < (rs.length : Int) := by omega
 have hk0 : (0 : Int) ≤ (k : Int) := by omega
 go_wp2_with fail
 refine wp_loop (fun a w => ∃ j : Nat, j ≤ n' ∧ Upd [] wx w ∧ ∃ f, a = hpF lim nur la nl lc ask at_ pb L.hb ub half (.slice (some ⟨g, 0, none⟩) rs.length oc) (.slice (some ⟨gr, 0, none⟩) rs.length rc) (.slice (some ⟨gy, 0, none⟩) rs.length yc) tv s24 f ∧ f 42 = .int .i64 (k : Int) ∧ f 44 = .int .i64 (n' : Int) ∧ f 46 = .int .i64 (j : Int)) (fun a' _ => n' - (intOf (a'.tmps.getD 46 undef)).toNat) ?_ ?_
 ·exact ⟨0, by omega, Upd.refl _ _, hpF_eqP _ (by kernel_rfl) ⟨rfl, rfl, rfl⟩⟩
 ·rintro a w ⟨j, hj, hu, f, rfl, h42, h44, h46⟩
  have r0 := hu.cell r0 (by simp)
  have o1 := hu.cell o1 (by simp)
  unfold hpF
  rw [h42, h44, h46]
  clear h42 h44 h46
  by_cases hlt : j < n'
  ·have v0 := hu.cell (HO2.out j hlt) (by simp)
   have HA := Lib.hid (HGA.out j w hu)
   rw [(HG.out j hlt).1, (HG.out j hlt).2] at HA
   have hj1 : (j : Int) < (n' : Int) := by omega
   have hj0 : (0 : Int) ≤ (j : Int) := by omega
   have HU := Lib.hid hu
   clear hu
   generalize S.get r j = x at HA v0
   as_aux_lemma =>
    go_wp2_with fail
    refine HA.out.mono ?_
    rintro e w2 ⟨rfl, rfl⟩
    go_wp2_with fail
    refine ⟨⟨j + 1, hlt, HU.out, hpF_eqP _ (by kernel_rfl) ⟨rfl, rfl, rfl⟩⟩, ?_⟩
    show n' - (j + 1) < n' - j
    omega
  ·obtain rfl : j = n' := by omega
   have HU := Lib.hid hu
   clear hu r0 o1
   as_aux_lemma =>
    go_wp2_with fail
    exact HQ.out _ _ ⟨HU.out, hpF_eqP _ (by kernel_rfl) ⟨rfl, rfl⟩⟩
set_option maxRecDepth 1000000 in
set_option maxHeartbeats 16000000 in
theorem hreg75 {w0 wx : World} {B ub pb nl lc i : Nat} {la : Option Addr} {L : HL} {hv hmv : Value} {cs : List ByteArray} {lim nur half ask at_ : Int} {S : Hp} {ov rv yv tv : Value} {ps : List OP} {rs : List Int} {ys : List Bool} {ts : List Int} {u0 u1 : Int} {s24 : Value} {k n : Nat} {f : Nat → Value} {J K' : Act → World → Prop} {Q' : Exit → Act → World → Prop}
  (hM : HpW w0 wx B ub L hv hmv S ov rv yv tv ps rs ys ts u0 u1) (hT : HpT S ps rs ys ts u0 u1 nur half cs i) (hk : k < rs.length) (_hrl : rs.length ≤ 60) (hn : S.num (rs.getD k 0) = (n : Int)) (h42 : f 42 = .int .i64 (k : Int)) (h43 : f 43 = .int .i64 (S.cls (rs.getD k 0))) (h44 : f 44 = .int .i64 (n : Int)) (h45 : f 45 = .bool true)
  (hJ : ∀ a' w', (Upd [] wx w' ∧ ∃ f, a' = hpF lim nur la nl lc ask at_ pb L.hb ub half ov rv yv tv s24 f ∧ f 42 = .int .i64 (k : Int) ∧ f 44 = .int .i64 (n : Int) ∧ f 458 = .bool false) → J a' w') (hK : ∀ a' w', Go.Met J a' w' → K' a' w') :
  (hpR 75).wp Tryd.prog (Exit.then K' Q') (hpF lim nur la nl lc ask at_ pb L.hb ub half ov rv yv tv s24 f) wx := by
 obtain ⟨g, oc, gr, rc, gy, yc, rfl, rfl, rfl, hrows⟩ := hM.rows hT (by omega)
 obtain ⟨r0, r1, r2, vb, n', hn', o1, _⟩ := hrows k hk
 obtain rfl : n' = n := by omega
 obtain ⟨hi1, hi2, hi3⟩ := hT.isr hk
 have HJ := Lib.hid hJ
 have HY := Lib.hid (inYoung_any L hv hmv S (rs.getD k 0) wx.drew (hM.hp.upd0 ((Upd.refl [] wx).drew)) (by omega))
 have hk1 : (k : Int) < (rs.length : Int) := by omega
 have hk0 : (0 : Int) ≤ (k : Int) := by omega
 clear hJ hM hT hrows hi1 hi2 hi3 hn hn'
 generalize rs.getD k 0 = r at *
 have k0 : wx.drew.cell? ⟨gr, k, none⟩ = some (.int .i64 r) ∧ wx.drew.cell? ⟨gy, k, none⟩ = some (.bool (S.inY r)) ∧ wx.drew.cell? ⟨g, k * 2, none⟩ = some (.int .i64 (S.cls r)) ∧ wx.drew.cell? ⟨g, k * 2 + 1, none⟩ = some (.slice (some ⟨vb, 0, none⟩) n' n') := ⟨r0, r1, r2, o1⟩
 have k1 := k0
 clear r0 r1 r2 o1
 unfold hpF
 rw [h42, h43, h44, h45]
 conv => arg 2; whnf
 clear h42 h43 h44 h45
 generalize S.cls r = c at *
 generalize S.inY r = y at *
 refine wp_region_noPanic ?_
 refine wp_region_L (S := fun W => W.cell? ⟨gr, k, none⟩ = some (.int .i64 r) ∧ W.cell? ⟨gy, k, none⟩ = some (.bool y) ∧ W.cell? ⟨g, k * 2, none⟩ = some (.int .i64 c) ∧ W.cell? ⟨g, k * 2 + 1, none⟩ = some (.slice (some ⟨vb, 0, none⟩) n' n')) 33 (by kernel_rfl) ?_ (fun hHeld => ?_)
 ·first | exact k0 | exact k1
 refine wpAnyL_takeP (i := 0) [1, 2, 11, 21, 33] (oi := ?_) (v := ?_) ?_ (by kernel_rfl) (by kernel_rfl) (by kernel_rfl) (by kernel_rfl) (fun _ _ _ h => h) (Or.inl ⟨?_, ?_⟩) hHeld ?_
 rotate_left 2
 ·simp only [List.getElem?_toArray, List.getElem?_cons_zero]; rfl
 ·rfl
 ·intro _ hSw; (try dsimp only at hSw); go_simp <;> with_reducible rfl
 (try simp only [Act.put, List.setIfInBounds_toArray, List.set_cons_zero, List.set_cons_succ])
 refine wpAnyL_takeP (i := 1) [2, 11, 21, 33] (oi := ?_) (v := ?_) ?_ (by kernel_rfl) (by kernel_rfl) (by kernel_rfl) (by kernel_rfl) (fun _ _ _ h => h) (Or.inl ⟨?_, ?_⟩) hHeld ?_
 rotate_left 2
 ·simp only [List.getElem?_toArray, List.getElem?_cons_zero, List.getElem?_cons_succ]; rfl
 ·rfl
 ·intro _ hSw; (try dsimp only at hSw); go_simp <;> with_reducible rfl
 (try simp only [Act.put, List.setIfInBounds_toArray, List.set_cons_zero, List.set_cons_succ])
 refine wpAnyL_takeP (i := 2) [11, 21, 33] (oi := ?_) (v := ?_) ?_ (by kernel_rfl) (by kernel_rfl) (by kernel_rfl) (by kernel_rfl) (fun _ _ _ h => h) (Or.inl ⟨?_, ?_⟩) hHeld ?_
 rotate_left 2
 ·simp only [List.getElem?_toArray, List.getElem?_cons_zero, List.getElem?_cons_succ]; rfl
 ·rfl
 ·intro _ hSw; (try dsimp only at hSw); go_simp <;> with_reducible rfl
 (try simp only [Act.put, List.setIfInBounds_toArray, List.set_cons_zero, List.set_cons_succ])
 refine wpAnyL_takeP (i := 3) [9, 10, 11, 21, 33] (oi := ?_) (v := ?_) ?_ (by kernel_rfl) (by kernel_rfl) (by kernel_rfl) (by kernel_rfl) (fun _ _ _ h => h) (Or.inl ⟨?_, ?_⟩) hHeld ?_
 rotate_left 2
 ·simp only [List.getElem?_toArray, List.getElem?_cons_zero, List.getElem?_cons_succ]; rfl
 ·rfl
 ·intro _ hSw; (try dsimp only at hSw); go_simp <;> with_reducible rfl
 (try simp only [Act.put, List.setIfInBounds_toArray, List.set_cons_zero, List.set_cons_succ])
 refine wpAnyL_takeP (i := 4) [6, 7, 8, 9, 10, 11, 21, 33] (oi := ?_) (v := ?_) ?_ (by kernel_rfl) (by kernel_rfl) (by kernel_rfl) (by kernel_rfl) (fun _ _ _ h => h) (Or.inl ⟨?_, ?_⟩) hHeld ?_
 rotate_left 2
 ·simp only [List.getElem?_toArray, List.getElem?_cons_zero, List.getElem?_cons_succ]; rfl
 ·rfl
 ·intro _ hSw; (try dsimp only at hSw); go_simp <;> with_reducible rfl
 (try simp only [Act.put, List.setIfInBounds_toArray, List.set_cons_zero, List.set_cons_succ])
 refine wpAnyL_takeP (i := 5) [6, 7, 8, 9, 10, 11, 21, 33] (oi := ?_) (v := ?_) ?_ (by kernel_rfl) (by kernel_rfl) (by kernel_rfl) (by kernel_rfl) (fun _ _ _ h => h) (Or.inl ⟨?_, ?_⟩) hHeld ?_
 rotate_left 2
 ·simp only [List.getElem?_toArray, List.getElem?_cons_zero, List.getElem?_cons_succ]; rfl
 ·rfl
 ·intro _ hSw; (try dsimp only at hSw); go_simp <;> with_reducible rfl
 (try simp only [Act.put, List.setIfInBounds_toArray, List.set_cons_zero, List.set_cons_succ])
 refine wpAnyL_takeP (i := 6) [7, 8, 9, 10, 11, 21, 33] (oi := ?_) (v := ?_) ?_ (by kernel_rfl) (by kernel_rfl) (by kernel_rfl) (by kernel_rfl) (fun _ _ _ h => h) (Or.inl ⟨?_, ?_⟩) hHeld ?_
 rotate_left 2
 ·simp only [List.getElem?_toArray, List.getElem?_cons_zero, List.getElem?_cons_succ]; rfl
 ·rfl
 ·intro _ hSw; (try dsimp only at hSw); go_simp <;> with_reducible rfl
 (try simp only [Act.put, List.setIfInBounds_toArray, List.set_cons_zero, List.set_cons_succ])
 refine wpAnyL_takeP (i := 7) [8, 9, 10, 11, 21, 33] (oi := ?_) (v := ?_) ?_ (by kernel_rfl) (by kernel_rfl) (by kernel_rfl) (by kernel_rfl) (fun _ _ _ h => h) (Or.inl ⟨?_, ?_⟩) hHeld ?_
 rotate_left 2
 ·simp only [List.getElem?_toArray, List.getElem?_cons_zero, List.getElem?_cons_succ]; rfl
 ·rfl
 ·intro _ hSw; (try dsimp only at hSw); go_simp <;> with_reducible rfl
 (try simp only [Act.put, List.setIfInBounds_toArray, List.set_cons_zero, List.set_cons_succ])
 refine wpAnyL_takeP (i := 8) [9, 10, 11, 21, 33] (oi := ?_) (v := ?_) ?_ (by kernel_rfl) (by kernel_rfl) (by kernel_rfl) (by kernel_rfl) (fun _ _ _ h => h) (Or.inl ⟨?_, ?_⟩) hHeld ?_
 rotate_left 2
 ·simp only [List.getElem?_toArray, List.getElem?_cons_zero, List.getElem?_cons_succ]; rfl
 ·rfl
 ·intro _ hSw; (try dsimp only at hSw); go_simp <;> with_reducible rfl
 (try simp only [Act.put, List.setIfInBounds_toArray, List.set_cons_zero, List.set_cons_succ])
 refine wpAnyL_takeP (i := 9) [10, 11, 21, 33] (oi := ?_) (v := ?_) ?_ (by kernel_rfl) (by kernel_rfl) (by kernel_rfl) (by kernel_rfl) (fun _ _ _ h => h) (Or.inl ⟨?_, ?_⟩) hHeld ?_
 rotate_left 2
 ·simp only [List.getElem?_toArray, List.getElem?_cons_zero, List.getElem?_cons_succ]; rfl
 ·rfl
 ·intro _ hSw; (try dsimp only at hSw); go_simp <;> with_reducible rfl
 (try simp only [Act.put, List.setIfInBounds_toArray, List.set_cons_zero, List.set_cons_succ])
 refine wpAnyL_takeP (i := 10) [11, 21, 33] (oi := ?_) (v := ?_) ?_ (by kernel_rfl) (by kernel_rfl) (by kernel_rfl) (by kernel_rfl) (fun _ _ _ h => h) (Or.inl ⟨?_, ?_⟩) hHeld ?_
 rotate_left 2
 ·simp only [List.getElem?_toArray, List.getElem?_cons_zero, List.getElem?_cons_succ]; rfl
 ·rfl
 ·intro _ hSw; (try dsimp only at hSw); go_simp <;> with_reducible rfl
 (try simp only [Act.put, List.setIfInBounds_toArray, List.set_cons_zero, List.set_cons_succ])
 refine wpAnyL_takeP (i := 11) [21, 33] (oi := ?_) (v := ?_) ?_ (by kernel_rfl) (by kernel_rfl) (by kernel_rfl) (by kernel_rfl) (fun _ _ _ h => h) (Or.inl ⟨?_, ?_⟩) hHeld ?_
 rotate_left 2
 ·simp only [List.getElem?_toArray, List.getElem?_cons_zero, List.getElem?_cons_succ]; rfl
 ·rfl
 ·intro _ hSw; (try dsimp only at hSw); go_simp <;> with_reducible rfl
 (try simp only [Act.put, List.setIfInBounds_toArray, List.set_cons_zero, List.set_cons_succ])
 refine wpAnyL_takeP (i := 12) [19, 20, 21, 33] (oi := ?_) (v := ?_) ?_ (by kernel_rfl) (by kernel_rfl) (by kernel_rfl) (by kernel_rfl) (fun _ _ _ h => h) (Or.inl ⟨?_, ?_⟩) hHeld ?_
 rotate_left 2
 ·simp only [List.getElem?_toArray, List.getElem?_cons_zero, List.getElem?_cons_succ]; rfl
 ·rfl
 ·intro _ hSw; (try dsimp only at hSw); go_simp <;> with_reducible rfl
 (try simp only [Act.put, List.setIfInBounds_toArray, List.set_cons_zero, List.set_cons_succ])
 refine wpAnyL_takeP (i := 13) [15, 16, 17, 18, 19, 20, 21, 33] (oi := ?_) (v := ?_) ?_ (by kernel_rfl) (by kernel_rfl) (by kernel_rfl) (by kernel_rfl) (fun _ _ _ h => h) (Or.inl ⟨?_, ?_⟩) hHeld ?_
 rotate_left 2
 ·simp only [List.getElem?_toArray, List.getElem?_cons_zero, List.getElem?_cons_succ]; rfl
 ·rfl
 ·intro _ hSw; (try dsimp only at hSw); go_simp <;> with_reducible rfl
 (try simp only [Act.put, List.setIfInBounds_toArray, List.set_cons_zero, List.set_cons_succ])
 refine wpAnyL_takeP (i := 14) [15, 16, 17, 18, 19, 20, 21, 33] (oi := ?_) (v := ?_) ?_ (by kernel_rfl) (by kernel_rfl) (by kernel_rfl) (by kernel_rfl) (fun _ _ _ h => h) (Or.inl ⟨?_, ?_⟩) hHeld ?_
 rotate_left 2
 ·simp only [List.getElem?_toArray, List.getElem?_cons_zero, List.getElem?_cons_succ]; rfl
 ·rfl
 ·intro _ hSw; (try dsimp only at hSw); go_simp <;> with_reducible rfl
 (try simp only [Act.put, List.setIfInBounds_toArray, List.set_cons_zero, List.set_cons_succ])
 refine wpAnyL_takeP (i := 15) [16, 17, 18, 19, 20, 21, 33] (oi := ?_) (v := ?_) ?_ (by kernel_rfl) (by kernel_rfl) (by kernel_rfl) (by kernel_rfl) (fun _ _ _ h => h) (Or.inl ⟨?_, ?_⟩) hHeld ?_
 rotate_left 2
 ·simp only [List.getElem?_toArray, List.getElem?_cons_zero, List.getElem?_cons_succ]; rfl
 ·rfl
 ·intro _ hSw; (try dsimp only at hSw); go_simp <;> with_reducible rfl
 (try simp only [Act.put, List.setIfInBounds_toArray, List.set_cons_zero, List.set_cons_succ])
 refine wpAnyL_takeP (i := 16) [17, 18, 19, 20, 21, 33] (oi := ?_) (v := ?_) ?_ (by kernel_rfl) (by kernel_rfl) (by kernel_rfl) (by kernel_rfl) (fun _ _ _ h => h) (Or.inl ⟨?_, ?_⟩) hHeld ?_
 rotate_left 2
 ·simp only [List.getElem?_toArray, List.getElem?_cons_zero, List.getElem?_cons_succ]; rfl
 ·rfl
 ·intro _ hSw; (try dsimp only at hSw); go_simp <;> with_reducible rfl
 (try simp only [Act.put, List.setIfInBounds_toArray, List.set_cons_zero, List.set_cons_succ])
 refine wpAnyL_takeP (i := 17) [18, 19, 20, 21, 33] (oi := ?_) (v := ?_) ?_ (by kernel_rfl) (by kernel_rfl) (by kernel_rfl) (by kernel_rfl) (fun _ _ _ h => h) (Or.inl ⟨?_, ?_⟩) hHeld ?_
 rotate_left 2
 ·simp only [List.getElem?_toArray, List.getElem?_cons_zero, List.getElem?_cons_succ]; rfl
 ·rfl
 ·intro _ hSw; (try dsimp only at hSw); go_simp <;> with_reducible rfl
 (try simp only [Act.put, List.setIfInBounds_toArray, List.set_cons_zero, List.set_cons_succ])
 refine wpAnyL_takeP (i := 18) [19, 20, 21, 33] (oi := ?_) (v := ?_) ?_ (by kernel_rfl) (by kernel_rfl) (by kernel_rfl) (by kernel_rfl) (fun _ _ _ h => h) (Or.inl ⟨?_, ?_⟩) hHeld ?_
 rotate_left 2
 ·simp only [List.getElem?_toArray, List.getElem?_cons_zero, List.getElem?_cons_succ]; rfl
 ·rfl
 ·intro _ hSw; (try dsimp only at hSw); go_simp <;> with_reducible rfl
 (try simp only [Act.put, List.setIfInBounds_toArray, List.set_cons_zero, List.set_cons_succ])
 refine wpAnyL_takeP (i := 19) [20, 21, 33] (oi := ?_) (v := ?_) ?_ (by kernel_rfl) (by kernel_rfl) (by kernel_rfl) (by kernel_rfl) (fun _ _ _ h => h) (Or.inl ⟨?_, ?_⟩) hHeld ?_
 rotate_left 2
 ·simp only [List.getElem?_toArray, List.getElem?_cons_zero, List.getElem?_cons_succ]; rfl
 ·rfl
 ·intro _ hSw; (try dsimp only at hSw); go_simp <;> with_reducible rfl
 (try simp only [Act.put, List.setIfInBounds_toArray, List.set_cons_zero, List.set_cons_succ])
 refine wpAnyL_takeP (i := 20) [21, 33] (oi := ?_) (v := ?_) ?_ (by kernel_rfl) (by kernel_rfl) (by kernel_rfl) (by kernel_rfl) (fun _ _ _ h => h) (Or.inl ⟨?_, ?_⟩) hHeld ?_
 rotate_left 2
 ·simp only [List.getElem?_toArray, List.getElem?_cons_zero, List.getElem?_cons_succ]; rfl
 ·rfl
 ·intro _ hSw; (try dsimp only at hSw); go_simp <;> with_reducible rfl
 (try simp only [Act.put, List.setIfInBounds_toArray, List.set_cons_zero, List.set_cons_succ])
 refine wpAnyL_takeP (i := 21) [33] (oi := ?_) (v := ?_) ?_ (by kernel_rfl) (by kernel_rfl) (by kernel_rfl) (by kernel_rfl) (fun _ _ _ h => h) (Or.inl ⟨?_, ?_⟩) hHeld ?_
 rotate_left 2
 ·simp only [List.getElem?_toArray, List.getElem?_cons_zero, List.getElem?_cons_succ]; rfl
 ·rfl
 ·intro _ hSw; (try dsimp only at hSw); go_simp <;> with_reducible rfl
 (try simp only [Act.put, List.setIfInBounds_toArray, List.set_cons_zero, List.set_cons_succ])
 refine wpAnyL_takeP (i := 22) [27, 32, 33] (oi := ?_) (v := ?_) ?_ (by kernel_rfl) (by kernel_rfl) (by kernel_rfl) (by kernel_rfl) (fun _ _ _ h => h) (Or.inl ⟨?_, ?_⟩) hHeld ?_
 rotate_left 2
 ·simp only [List.getElem?_toArray, List.getElem?_cons_zero, List.getElem?_cons_succ]; rfl
 ·rfl
 ·intro _ hSw; (try dsimp only at hSw); go_simp <;> with_reducible rfl
 (try simp only [Act.put, List.setIfInBounds_toArray, List.set_cons_zero, List.set_cons_succ])
 refine wpAnyL_takeP (i := 23) [25, 26, 27, 32, 33] (oi := ?_) (v := ?_) ?_ (by kernel_rfl) (by kernel_rfl) (by kernel_rfl) (by kernel_rfl) (fun _ _ _ h => h) (Or.inl ⟨?_, ?_⟩) hHeld ?_
 rotate_left 2
 ·simp only [List.getElem?_toArray, List.getElem?_cons_zero, List.getElem?_cons_succ]; rfl
 ·rfl
 ·intro _ hSw; (try dsimp only at hSw); go_simp <;> with_reducible rfl
 (try simp only [Act.put, List.setIfInBounds_toArray, List.set_cons_zero, List.set_cons_succ])
 refine wpAnyL_takeP (i := 24) [25, 26, 27, 32, 33] (oi := ?_) (v := ?_) ?_ (by kernel_rfl) (by kernel_rfl) (by kernel_rfl) (by kernel_rfl) (fun _ _ _ h => h) (Or.inl ⟨?_, ?_⟩) hHeld ?_
 rotate_left 2
 ·simp only [List.getElem?_toArray, List.getElem?_cons_zero, List.getElem?_cons_succ]; rfl
 ·rfl
 ·intro _ hSw; (try dsimp only at hSw); go_simp <;> with_reducible rfl
 (try simp only [Act.put, List.setIfInBounds_toArray, List.set_cons_zero, List.set_cons_succ])
 refine wpAnyL_takeP (i := 25) [26, 27, 32, 33] (oi := ?_) (v := ?_) ?_ (by kernel_rfl) (by kernel_rfl) (by kernel_rfl) (by kernel_rfl) (fun _ _ _ h => h) (Or.inl ⟨?_, ?_⟩) hHeld ?_
 rotate_left 2
 ·simp only [List.getElem?_toArray, List.getElem?_cons_zero, List.getElem?_cons_succ]; rfl
 ·rfl
 ·intro _ hSw; (try dsimp only at hSw); go_simp <;> with_reducible rfl
 (try simp only [Act.put, List.setIfInBounds_toArray, List.set_cons_zero, List.set_cons_succ])
 refine wpAnyL_takeP (i := 26) [27, 32, 33] (oi := ?_) (v := ?_) ?_ (by kernel_rfl) (by kernel_rfl) (by kernel_rfl) (by kernel_rfl) (fun _ _ _ h => h) (Or.inl ⟨?_, ?_⟩) hHeld ?_
 rotate_left 2
 ·simp only [List.getElem?_toArray, List.getElem?_cons_zero, List.getElem?_cons_succ]; rfl
 ·rfl
 ·intro _ hSw; (try dsimp only at hSw); go_simp <;> with_reducible rfl
 (try simp only [Act.put, List.setIfInBounds_toArray, List.set_cons_zero, List.set_cons_succ])
 refine wpAnyL_takeP (i := 28) [30, 31, 32, 33] (oi := ?_) (v := ?_) ?_ (by kernel_rfl) (by kernel_rfl) (by kernel_rfl) (by kernel_rfl) (fun _ _ _ h => h) (Or.inl ⟨?_, ?_⟩) hHeld ?_
 rotate_left 2
 ·simp only [List.getElem?_toArray, List.getElem?_cons_zero, List.getElem?_cons_succ]; rfl
 ·rfl
 ·intro _ hSw; (try dsimp only at hSw); go_simp <;> with_reducible rfl
 (try simp only [Act.put, List.setIfInBounds_toArray, List.set_cons_zero, List.set_cons_succ])
 refine wpAnyL_takeP (i := 29) [30, 31, 32, 33] (oi := ?_) (v := ?_) ?_ (by kernel_rfl) (by kernel_rfl) (by kernel_rfl) (by kernel_rfl) (fun _ _ _ h => h) (Or.inl ⟨?_, ?_⟩) hHeld ?_
 rotate_left 2
 ·simp only [List.getElem?_toArray, List.getElem?_cons_zero, List.getElem?_cons_succ]; rfl
 ·rfl
 ·intro _ hSw; (try dsimp only at hSw); go_simp <;> with_reducible rfl
 (try simp only [Act.put, List.setIfInBounds_toArray, List.set_cons_zero, List.set_cons_succ])
 refine wpAnyL_takeP (i := 30) [31, 32, 33] (oi := ?_) (v := ?_) ?_ (by kernel_rfl) (by kernel_rfl) (by kernel_rfl) (by kernel_rfl) (fun _ _ _ h => h) (Or.inl ⟨?_, ?_⟩) hHeld ?_
 rotate_left 2
 ·simp only [List.getElem?_toArray, List.getElem?_cons_zero, List.getElem?_cons_succ]; rfl
 ·rfl
 ·intro _ hSw; (try dsimp only at hSw); go_simp <;> with_reducible rfl
 (try simp only [Act.put, List.setIfInBounds_toArray, List.set_cons_zero, List.set_cons_succ])
 refine wpAnyL_takeP (i := 31) [32, 33] (oi := ?_) (v := ?_) ?_ (by kernel_rfl) (by kernel_rfl) (by kernel_rfl) (by kernel_rfl) (fun _ _ _ h => h) (Or.inl ⟨?_, ?_⟩) hHeld ?_
 rotate_left 2
 ·simp only [List.getElem?_toArray, List.getElem?_cons_zero, List.getElem?_cons_succ]; rfl
 ·rfl
 ·intro _ hSw; (try dsimp only at hSw); go_simp <;> with_reducible rfl
 (try simp only [Act.put, List.setIfInBounds_toArray, List.set_cons_zero, List.set_cons_succ])
 refine wpAnyL_one (i := 27) (o := ?_) (by kernel_rfl) ?_ (fun K hK => ?_)
 rotate_left 1
 ·simp only [List.getElem?_toArray, List.getElem?_cons_zero, List.getElem?_cons_succ]; rfl
 clear hHeld
 go_simp
 (go_at_call 19; refine (HY.out).mono ?_; rintro e w3 ⟨rfl, rfl⟩)
 try go_wp2_with fail
 refine hK.out _ _ ?_ (fun hHeld => ?_)
 ·first | exact k0 | exact k1
 clear hK K
 (try simp only [Act.put, List.setIfInBounds_toArray, List.set_cons_zero, List.set_cons_succ])
 refine wpAnyL_takeP (i := 32) [33] (oi := ?_) (v := ?_) ?_ (by kernel_rfl) (by kernel_rfl) (by kernel_rfl) (by kernel_rfl) (fun _ _ _ h => h) (Or.inl ⟨?_, ?_⟩) hHeld ?_
 rotate_left 2
 ·simp only [List.getElem?_toArray, List.getElem?_cons_zero, List.getElem?_cons_succ]; rfl
 ·rfl
 ·intro _ hSw; (try dsimp only at hSw); go_simp <;> with_reducible rfl
 (try simp only [Act.put, List.setIfInBounds_toArray, List.set_cons_zero, List.set_cons_succ])
 refine wpAnyL_last (o := ?_) (by kernel_rfl) ?_ (fun K hK => ?_)
 rotate_left 1
 ·simp only [List.getElem?_toArray, List.getElem?_cons_zero, List.getElem?_cons_succ]; rfl
 clear hHeld
 go_simp
 refine hK.out _ _ ?_
 clear hK K
 (try simp only [Act.put, List.setIfInBounds_toArray, List.set_cons_zero, List.set_cons_succ])
 refine wpAnyL_done (by kernel_rfl) ?_ _
 refine NoPanic.normal ?_
 exact hK _ _ (Go.Met.intro (HJ.out _ _ ⟨(Upd.refl [] _).drew, hpF_eqP _ (by kernel_rfl) ⟨rfl, rfl, rfl⟩⟩))
end Go.Proofs.YtbcoejmiihgfoaaDoor
