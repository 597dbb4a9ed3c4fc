/- HeapPlays, kind 3: the value is noted, and what was touched. -/
import Derived.Test.YtbcoejmiihgfoaaDoorHpF
import Derived.Test.YtbcoejmiihgfoaaDoorHeldL
/-! HeapPlays, kind 3: the value is noted, and what was touched. -/
namespace Go.Proofs.YtbcoejmiihgfoaaDoor
open Go.RowKit

set_option maxRecDepth 1000000 in
set_option maxHeartbeats 16000000 in
theorem hif240 {w0 : World} {B ub pb nl lc i : Nat} {la : Option Addr} {L : HL} {hv hmv : Value} {lim nur half ask at_ : Int} {S : Hp} {ov rv yv tv : Value} {ps : List OP} {rs : List Int} {ys : List Bool} {ts : List Int} {u0 u1 : Int} {wx : World} {xd k j n : Nat} {kd da dn dv v tt r c : Int} {vb : Nat} {xs : List Int} {ref yk yt : Bool} {f : Nat → Value} {Q : Exit → Act → World → Prop}
  (hM : HpW w0 wx B ub L hv hmv S ov rv yv tv ps rs ys ts u0 u1) (hx : wx.heap[xd]? = some (.cells #[.int .i64 kd, .int .i64 da, .int .i64 (j : Int), .int .i64 dn, .int .i64 dv] 45)) (hk : k < rs.length) (hkp : k < ps.length) (hps : ps[k]'hkp = ⟨c, xs, .slice (some ⟨vb, 0, none⟩) n n, vb⟩) (hxs : xs.length = n) (hj : j < n) (hr : rs.getD k 0 = r) (hyl : ys.length = rs.length) (hyk : ys.getD k false = yk) (htt : tt < (rs.length : Int)) (hyt : 0 ≤ tt → ys.getD tt.toNat false = yt) (htl : ts.length ≤ 100)
  (h25 : f 25 = .pointer (some ⟨xd, 0, none⟩)) (h33 : f 33 = .int .i64 (k : Int)) (h36 : f 36 = .bool ref) (h37 : f 37 = .int .i64 v) (h38 : f 38 = .int .i64 tt) (h240 : f 240 = .bool true)
  (hQ : ∀ a' w', (∃ tv', HpW w0 w' B ub L hv hmv S ov rv yv tv' (ps.set k ⟨c, xs.set j v, .slice (some ⟨vb, 0, none⟩) n n, vb⟩) rs ys (if (ref && !yk && decide (0 ≤ tt) && yt) = true then ts ++ [r] else ts) u0 u1 ∧ ∃ f, a' = hpF lim nur la nl lc ask at_ pb L.hb ub half ov rv yv tv' (.int .i64 i) f) → Q .normal a' w') :
  (hpC 240).wp Tryd.prog Q (hpF lim nur la nl lc ask at_ pb L.hb ub half ov rv yv tv (.int .i64 i) f) wx := by
 obtain ⟨i0, hi0, hz0, hz1, hz2⟩ := info_parts Tryd.infoInt
 have HI := Lib.hid hi0
 have HZ0 := Lib.hid hz0
 have HZ1 := Lib.hid hz1
 have HZ2 := Lib.hid hz2
 clear hi0 hz0 hz1 hz2
 have HJ := Lib.hid hQ
 obtain ⟨g, oc, hov, o0, o1, o2⟩ := hM.mir.nth k hkp
 obtain ⟨gr, rc, hrv, hgr⟩ := hM.refs.nth1 k hk
 obtain ⟨gy, yc, hyv, hgy⟩ := hM.yng.nth k (by omega)
 obtain ⟨tp, tc, htv⟩ := own_shape hM.tch
 rw [hps] at o0 o1 o2
 rw [hr] at hgr
 rw [hyk] at hgy
 simp only at o0 o1 o2
 rw [hxs] at o1
 rw [Nat.mul_comm] at o1
 have x2 : wx.cell? ⟨xd, 2, none⟩ = some (.int .i64 (j : Int)) := by rw [cell_of hx]; rfl
 have k0 : wx.drew.cell? ⟨g, k * 2 + 1, none⟩ = some (.slice (some ⟨vb, 0, none⟩) n n) ∧ wx.drew.cell? ⟨xd, 2, none⟩ = some (.int .i64 (j : Int)) := ⟨o1, x2⟩
 have oc2 : wx.cell? ⟨vb, j, none⟩ = some (.int .i64 (xs.getD j 0)) := by rw [cell_of o2]; exact icells_get xs j (by omega)
 have hf0 : ∀ q, wx.frozen? ⟨vb, q, none⟩ = false := fun q => froz_of o2 q
 have hf : ∀ q, wx.drew.frozen? ⟨vb, q, none⟩ = false := fun q => froz_of (w := wx.drew) o2 q
 have HM2 : Hid (HpW w0 (wx.drew.setCell ⟨vb, j, none⟩ (.int .i64 v)) B ub L hv hmv S ov rv yv tv (ps.set k ⟨c, xs.set j v, .slice (some ⟨vb, 0, none⟩) n n, vb⟩) rs ys ts u0 u1) := by
  have h := (hM.same ((Upd.refl [] wx).drew)).setV k hkp j v
  rw [hps] at h
  exact Hid.mk h
 have HYT : Hid (∀ q : Nat, tt = (q : Int) → wx.cell? ⟨gy, q, none⟩ = some (.bool yt)) := fun q hq => by
  obtain ⟨gy2, yc2, hyv2, hgy2⟩ := hM.yng.nth q (by omega)
  rw [hyv] at hyv2
  injection hyv2 with e1
  injection e1 with e1
  injection e1 with e1
  rw [e1]
  have h := hyt (by omega)
  rw [hq, Int.toNat_natCast] at h
  rw [h] at hgy2
  exact hgy2
 have hne1 : gr ≠ vb := fun e => own_heap_ne hM.refs (b := vb) o2 (by decide) (by rw [hrv, ← e]; rfl)
 have hne2 : gy ≠ vb := fun e => own_heap_ne hM.yng (b := vb) o2 (by decide) (by rw [hyv, ← e]; rfl)
 have hu : Upd [vb] wx (wx.drew.setCell ⟨vb, j, none⟩ (.int .i64 v)) := ((Upd.refl [vb] wx).drew).setCell (.inl (by simp)) _
 have y0 := hu.cell hgr (by simpa using hne1)
 have y1 := hu.cell hgy (by simpa using hne2)
 have HYT2 : Hid (∀ q : Nat, tt = (q : Int) → (wx.drew.setCell ⟨vb, j, none⟩ (.int .i64 v)).cell? ⟨gy, q, none⟩ = some (.bool yt)) := fun q hq => hu.cell (HYT.out q hq) (by simpa using hne2)
 rw [hyl] at hyv
 subst hov hrv hyv htv
 have hk1 : (k : Int) < (rs.length : Int) := by omega
 have hk2 : (k : Int) < (ps.length : Int) := by omega
 have hk0 : (0 : Int) ≤ (k : Int) := by omega
 have hj0 : (0 : Int) ≤ (j : Int) := by omega
 have hj1 : (j : Int) < (n : Int) := by omega
 have HY0 := Lib.hid y0
 have HY1 := Lib.hid y1
 unfold hpF
 rw [h25, h33, h36, h37, h38, h240]
 conv => arg 2; whnf
 clear h25 h33 h36 h37 h38 h240 hQ hx hM o0 o1 o2 hgr hgy x2 hps hxs hr hyk hyt HYT hne1 hne2 hu hyl y0 y1
 go_upto_region 41 with fail
 rename_i K1 hK1
 have HK1 := Lib.hid hK1
 clear hK1
 refine wp_cut (fun a' w' => w' = wx.drew.setCell ⟨vb, j, none⟩ (.int .i64 v) ∧ ∃ f, a' = hpF lim nur la nl lc ask at_ pb L.hb ub half (.slice (some ⟨g, 0, none⟩) ps.length oc) (.slice (some ⟨gr, 0, none⟩) rs.length rc) (.slice (some ⟨gy, 0, none⟩) rs.length yc) (.slice tp ts.length tc) (.int .i64 i) f ∧ (f 33 = .int .i64 (k : Int) ∧ f 36 = .bool ref ∧ f 38 = .int .i64 tt)) ?_ ?_
 rotate_left 1
 ·intro J2 K2 hJ2 hK2
  have HJ2 := Lib.hid hJ2
  clear hJ2
  as_aux_lemma =>
   refine wp_region_noPanic ?_
   refine wp_region_L (S := fun W => W.cell? ⟨g, k * 2 + 1, none⟩ = some (.slice (some ⟨vb, 0, none⟩) n n) ∧ W.cell? ⟨xd, 2, none⟩ = some (.int .i64 (j : Int))) 9 (by kernel_rfl) ?_ (fun hHeld => ?_)
   ·first | exact k0 | exact k1
   refine wpAnyL_takeP (i := 0) [9] (oi := ?_) (v := ?_) ?_ (by kernel_rfl) (by kernel_rfl) (by kernel_rfl) (by kernel_rfl) (fun _ _ _ h => h) (Or.inl ⟨?_, ?_⟩) hHeld ?_
   rotate_left 2
   ·simp only [List.getElem?_toArray, List.getElem?_cons_zero]; rfl
   ·rfl
   ·intro _ hSw; (try dsimp only at hSw); go_simp <;> with_reducible rfl
   (try simp only [Act.put, List.setIfInBounds_toArray, List.set_cons_zero, List.set_cons_succ])
   refine wpAnyL_takeP (i := 1) [9] (oi := ?_) (v := ?_) ?_ (by kernel_rfl) (by kernel_rfl) (by kernel_rfl) (by kernel_rfl) (fun _ _ _ h => h) (Or.inl ⟨?_, ?_⟩) hHeld ?_
   rotate_left 2
   ·simp only [List.getElem?_toArray, List.getElem?_cons_zero, List.getElem?_cons_succ]; rfl
   ·rfl
   ·intro _ hSw; (try dsimp only at hSw); go_simp <;> with_reducible rfl
   (try simp only [Act.put, List.setIfInBounds_toArray, List.set_cons_zero, List.set_cons_succ])
   refine wpAnyL_takeP (i := 2) [9] (oi := ?_) (v := ?_) ?_ (by kernel_rfl) (by kernel_rfl) (by kernel_rfl) (by kernel_rfl) (fun _ _ _ h => h) (Or.inl ⟨?_, ?_⟩) hHeld ?_
   rotate_left 2
   ·simp only [List.getElem?_toArray, List.getElem?_cons_zero, List.getElem?_cons_succ]; rfl
   ·rfl
   ·intro _ hSw; (try dsimp only at hSw); go_simp <;> with_reducible rfl
   (try simp only [Act.put, List.setIfInBounds_toArray, List.set_cons_zero, List.set_cons_succ])
   refine wpAnyL_takeP (i := 3) [9] (oi := ?_) (v := ?_) ?_ (by kernel_rfl) (by kernel_rfl) (by kernel_rfl) (by kernel_rfl) (fun _ _ _ h => h) (Or.inl ⟨?_, ?_⟩) hHeld ?_
   rotate_left 2
   ·simp only [List.getElem?_toArray, List.getElem?_cons_zero, List.getElem?_cons_succ]; rfl
   ·rfl
   ·intro _ hSw; (try dsimp only at hSw); go_simp <;> with_reducible rfl
   (try simp only [Act.put, List.setIfInBounds_toArray, List.set_cons_zero, List.set_cons_succ])
   refine wpAnyL_takeP (i := 4) [9] (oi := ?_) (v := ?_) ?_ (by kernel_rfl) (by kernel_rfl) (by kernel_rfl) (by kernel_rfl) (fun _ _ _ h => h) (Or.inl ⟨?_, ?_⟩) hHeld ?_
   rotate_left 2
   ·simp only [List.getElem?_toArray, List.getElem?_cons_zero, List.getElem?_cons_succ]; rfl
   ·rfl
   ·intro _ hSw; (try dsimp only at hSw); go_simp <;> with_reducible rfl
   (try simp only [Act.put, List.setIfInBounds_toArray, List.set_cons_zero, List.set_cons_succ])
   refine wpAnyL_takeP (i := 5) [9] (oi := ?_) (v := ?_) ?_ (by kernel_rfl) (by kernel_rfl) (by kernel_rfl) (by kernel_rfl) (fun _ _ _ h => h) (Or.inl ⟨?_, ?_⟩) hHeld ?_
   rotate_left 2
   ·simp only [List.getElem?_toArray, List.getElem?_cons_zero, List.getElem?_cons_succ]; rfl
   ·rfl
   ·intro _ hSw; (try dsimp only at hSw); go_simp <;> with_reducible rfl
   (try simp only [Act.put, List.setIfInBounds_toArray, List.set_cons_zero, List.set_cons_succ])
   refine wpAnyL_takeP (i := 6) [9] (oi := ?_) (v := ?_) ?_ (by kernel_rfl) (by kernel_rfl) (by kernel_rfl) (by kernel_rfl) (fun _ _ _ h => h) (Or.inl ⟨?_, ?_⟩) hHeld ?_
   rotate_left 2
   ·simp only [List.getElem?_toArray, List.getElem?_cons_zero, List.getElem?_cons_succ]; rfl
   ·rfl
   ·intro _ hSw; (try dsimp only at hSw); go_simp <;> with_reducible rfl
   (try simp only [Act.put, List.setIfInBounds_toArray, List.set_cons_zero, List.set_cons_succ])
   refine wpAnyL_takeP (i := 7) [9] (oi := ?_) (v := ?_) ?_ (by kernel_rfl) (by kernel_rfl) (by kernel_rfl) (by kernel_rfl) (fun _ _ _ h => h) (Or.inl ⟨?_, ?_⟩) hHeld ?_
   rotate_left 2
   ·simp only [List.getElem?_toArray, List.getElem?_cons_zero, List.getElem?_cons_succ]; rfl
   ·rfl
   ·intro _ hSw; (try dsimp only at hSw); go_simp <;> with_reducible rfl
   (try simp only [Act.put, List.setIfInBounds_toArray, List.set_cons_zero, List.set_cons_succ])
   refine wpAnyL_takeP (i := 8) [9] (oi := ?_) (v := ?_) ?_ (by kernel_rfl) (by kernel_rfl) (by kernel_rfl) (by kernel_rfl) (fun _ _ _ h => h) (Or.inl ⟨?_, ?_⟩) hHeld ?_
   rotate_left 2
   ·simp only [List.getElem?_toArray, List.getElem?_cons_zero, List.getElem?_cons_succ]; rfl
   ·rfl
   ·intro _ hSw; (try dsimp only at hSw); go_simp <;> with_reducible rfl
   (try simp only [Act.put, List.setIfInBounds_toArray, List.set_cons_zero, List.set_cons_succ])
   refine wpAnyL_last (o := ?_) (by kernel_rfl) ?_ (fun K hK => ?_)
   rotate_left 1
   ·simp only [List.getElem?_toArray, List.getElem?_cons_zero, List.getElem?_cons_succ]; rfl
   clear hHeld
   go_simp
   refine hK.out _ _ ?_
   clear hK K
   (try simp only [Act.put, List.setIfInBounds_toArray, List.set_cons_zero, List.set_cons_succ])
   refine wpAnyL_done (by kernel_rfl) ?_ _
   refine NoPanic.normal ?_
   exact hK2 _ _ (Go.Met.intro (HJ2.out _ _ ⟨rfl, hpF_eqP _ (by kernel_rfl) ⟨rfl, rfl, rfl⟩⟩))
 rintro a w2 ⟨he, f, rfl, h33, h36, h38⟩
 refine HK1.out _ _ ?_
 clear HK1
 rw [← he] at HM2 HYT2 HY0 HY1
 clear he k0 hf hf0 oc2 hj0 hj1 hk2
 unfold hpF
 rw [h33, h36, h38]
 clear h33 h36 h38
 have y0 := HY0.out
 have y1 := HY1.out
 by_cases e1 : ref = false
 ·subst e1
  simp only [Bool.false_and, Bool.false_eq_true, if_false] at HJ
  as_aux_lemma =>
   go_wp2_with fail
   exact HJ.out _ _ ⟨_, HM2.out, hpF_eq (by kernel_rfl)⟩
 obtain rfl : ref = true := by simpa using e1
 clear e1
 by_cases e2 : yk = true
 ·subst e2
  simp only [Bool.not_true, Bool.and_false, Bool.false_and, Bool.false_eq_true, if_false] at HJ
  as_aux_lemma =>
   go_wp2_with fail
   exact HJ.out _ _ ⟨_, HM2.out, hpF_eq (by kernel_rfl)⟩
 obtain rfl : yk = false := by simpa using e2
 clear e2
 by_cases e3 : 0 ≤ tt
 ·have g3 : decide (0 ≤ tt) = true := decide_eq_true e3
  rw [g3] at HJ
  simp only [Bool.not_false, Bool.and_true, Bool.true_and] at HJ
  obtain ⟨q, rfl⟩ := Int.eq_ofNat_of_zero_le e3
  have y2 := HYT2.out q rfl
  clear e3
  have hq1 : (q : Int) < (rs.length : Int) := htt
  have hq0 : (0 : Int) ≤ (q : Int) := by omega
  cases yt with
  | false =>
   simp only [Bool.false_eq_true, if_false] at HJ
   as_aux_lemma =>
    go_wp2_with fail
    exact HJ.out _ _ ⟨_, HM2.out, hpF_eq (by kernel_rfl)⟩
  | true =>
   simp only [if_true] at HJ
   as_aux_lemma =>
    go_wp2_with (at_builtin; refine stop_here ?_)
    refine Hid.mk ?_
    have hc8 := cell_of (heap_alloc_new w2 (.cells #[.int .i64 r] 3))
    refine (wpList_append_own_at _ rfl _ _ 29 rfl B 3 i0 (.int .i64 0) 1 8 Tryd.underlying29 HI.out HZ0.out HZ1.out HZ2.out rfl (by decide) _ _ _ rfl (HM2.out.tch.alloc _) ⟨w2.heap.size, 0, none⟩ 1 1 [.int .i64 r] rfl rfl ?e1 ?e2 ?e3 ?e4 ?e5 ?e6)
    case e1 =>
     intro jj uu hjj
     rw [Addr.add_lit, Nat.zero_add, hc8]
     simpa using hjj
    case e2 => simp [Value.oneCell']
    case e3 => unfold maxLen; omega
    case e4 => omega
    case e5 => have := HM2.out.bw; simp; omega
    case e6 =>
     intro v2 w5 hown2 hgr2 _ hat2
     have HR := Lib.hid (HM2.out.pushT hown2 hgr2 hat2)
     clear hown2 hgr2 hat2 hc8 y0 y1 y2 HY0 HY1 HYT2 HM2
     go_wp2_with fail
     exact HJ.out _ _ ⟨_, HR.out, hpF_eq (by kernel_rfl)⟩
 ·have g3 : decide (0 ≤ tt) = false := decide_eq_false e3
  rw [g3] at HJ
  simp only [Bool.and_false, Bool.false_and, Bool.false_eq_true, if_false] at HJ
  as_aux_lemma =>
   go_wp2_with fail
   exact HJ.out _ _ ⟨_, HM2.out, hpF_eq (by kernel_rfl)⟩
end Go.Proofs.YtbcoejmiihgfoaaDoor
